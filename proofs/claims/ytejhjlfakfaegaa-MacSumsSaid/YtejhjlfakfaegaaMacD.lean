/- law 04's alive. -/
import Derived.Test.YtejhjlfakfaegaaKeyEq
import Derived.Test.YtejhjlfakfaegaaLawS
set_option linter.unusedSimpArgs false
set_option linter.unusedVariables false
namespace Go.Proofs.Ytejhjlfakfaegaa
open Go.RowKit Go.Proofs.YtejhjlfakfaegaaW.PrintWords
def keyL : List Int := [107, 101, 121]
def foxL : List Int := [84, 104, 101, 32, 113, 117, 105, 99, 107, 32, 98, 114, 111, 119, 110, 32, 102, 111, 120, 32]
def dogL : List Int := [106, 117, 109, 112, 115, 32, 111, 118, 101, 114, 32, 116, 104, 101, 32, 108, 97, 122, 121, 32, 100, 111, 103]
def one16 : List Int := [1, 0, 0, 0, 0, 0, 0, 0, 0, 0, 0, 0, 0, 0, 0, 0]
theorem fox4 : (hmac keyL (foxL ++ dogL)).take 4 = [247, 188, 131, 244] := by decide +kernel
theorem drv_ne : drv one16 [97] ≠ drv one16 [98] := by decide +kernel
theorem b97 : bytesOf ⟨#[97]⟩ = [97] := by decide +kernel
theorem b98 : bytesOf ⟨#[98]⟩ = [98] := by decide +kernel
theorem keys_ab : ∃ dA dB t : List Int, dA.length = 16 ∧ dB.length = 16 ∧ t.length = 16 ∧ dA ≠ dB ∧
    (∀ w : World, Calls Try.prog 32 #[.agg (nums .u8 one16).toArray, .string ⟨#[97]⟩] w fun e w' => e = .returned (.agg (nums .u8 dA).toArray) ∧ Ch (fun _ => False) w w') ∧
    (∀ w : World, Calls Try.prog 32 #[.agg (nums .u8 one16).toArray, .string ⟨#[98]⟩] w fun e w' => e = .returned (.agg (nums .u8 dB).toArray) ∧ Ch (fun _ => False) w w') ∧
    (∀ w : World, Calls Try.prog 33 #[.string ⟨#[97]⟩, .string ⟨#[98]⟩] w fun e w' => e = .returned (.agg (nums .u8 t).toArray) ∧ Ch (fun _ => False) w w') :=
  ⟨drv one16 (bytesOf ⟨#[97]⟩), drv one16 (bytesOf ⟨#[98]⟩), txt (bytesOf ⟨#[97]⟩) (bytesOf ⟨#[98]⟩), drv_len _ _, drv_len _ _, by rw [txt, List.length_take, (tx_len _ _ _).1]; rfl, by rw [b97, b98]; exact drv_ne,
    fun w => derive_any one16 ⟨#[97]⟩ w rfl (by unfold Bs; decide) (by decide), fun w => derive_any one16 ⟨#[98]⟩ w rfl (by unfold Bs; decide) (by decide), fun w => text_any ⟨#[97]⟩ ⟨#[98]⟩ w (by decide) (by decide)⟩
theorem fox_any : ∃ hm : List Int, hm.take 4 = [247, 188, 131, 244] ∧ ∀ (Ak Ar : Option Addr) (w : World), ReadsInt w .u8 Ak 3 keyL → Rows2 w Ar 2 [foxL, dogL] →
    Calls Try.prog 19 #[.slice Ak 3 3, .slice Ar 2 2] w fun e w' => ∃ v, e = .returned v ∧ w'.ownsRow w.heap.size 5 1 v 32 (nums .u8 hm) ∧ Below w.heap.size w w' :=
  ⟨hmac keyL ([foxL, dogL] : List (List Int)).flatten, by rw [show ([foxL, dogL] : List (List Int)).flatten = foxL ++ dogL by simp]; exact fox4,
    fun Ak Ar w hk ho => msum_any Ak Ar 3 3 2 2 keyL [foxL, dogL] w hk ho (by unfold Bs; decide) (by unfold Bs; decide) (by decide) (by decide) (by decide)⟩
set_option maxRecDepth 100000 in
set_option maxHeartbeats 2000000 in
theorem alive4_any (w : World) :
    Calls Try.prog 18 #[] w fun e w' => e = .returned (.bool true) ∧ Below w.heap.size w w' := by
  obtain ⟨dA, dB, tx, hlA, hlB, hlt, hne0, hA, hB, hT⟩ := keys_ab
  obtain ⟨hm, hm4, hF⟩ := fox_any
  have HNE := Lib.hid hne0
  have HLA := Lib.hid hlA
  have HLB := Lib.hid hlB
  have HLT := Lib.hid hlt
  have HM4 := Lib.hid hm4
  have HA := Lib.hid hA
  have HB := Lib.hid hB
  have HT := Lib.hid hT
  clear hlA hlB hlt hne0 hA hB hT hm4
  have hf1 : ∀ (W : World) (n c : Nat), Sem.run Try.prog (convert 22 22 (.slice (some ⟨W.heap.size, 0, none⟩) n c)) (W.alloc (.cells #[.int .u8 107, .int .u8 101, .int .u8 121] 5)) = .ok (.slice (some ⟨W.heap.size, 0, none⟩) n c) (frz W keyL) := fun W n c => frz_run W keyL n c
  have hf2 : ∀ (W : World) (n c : Nat), Sem.run Try.prog (convert 22 22 (.slice (some ⟨W.heap.size, 0, none⟩) n c)) (W.alloc (.cells #[.int .u8 84, .int .u8 104, .int .u8 101, .int .u8 32, .int .u8 113, .int .u8 117, .int .u8 105, .int .u8 99, .int .u8 107, .int .u8 32, .int .u8 98, .int .u8 114, .int .u8 111, .int .u8 119, .int .u8 110, .int .u8 32, .int .u8 102, .int .u8 111, .int .u8 120, .int .u8 32] 5)) = .ok (.slice (some ⟨W.heap.size, 0, none⟩) n c) (frz W foxL) := fun W n c => frz_run W foxL n c
  have hf3 : ∀ (W : World) (n c : Nat), Sem.run Try.prog (convert 22 22 (.slice (some ⟨W.heap.size, 0, none⟩) n c)) (W.alloc (.cells #[.int .u8 106, .int .u8 117, .int .u8 109, .int .u8 112, .int .u8 115, .int .u8 32, .int .u8 111, .int .u8 118, .int .u8 101, .int .u8 114, .int .u8 32, .int .u8 116, .int .u8 104, .int .u8 101, .int .u8 32, .int .u8 108, .int .u8 97, .int .u8 122, .int .u8 121, .int .u8 32, .int .u8 100, .int .u8 111, .int .u8 103] 5)) = .ok (.slice (some ⟨W.heap.size, 0, none⟩) n c) (frz W dogL) := fun W n c => frz_run W dogL n c
  have ho : Rows2 ((frz (frz (frz w keyL) foxL) dogL).alloc (.cells #[.slice (some ⟨(frz w keyL).heap.size, 0, none⟩) 20 20, .slice (some ⟨(frz (frz w keyL) foxL).heap.size, 0, none⟩) 23 23] 22)) (some ⟨(frz (frz (frz w keyL) foxL) dogL).heap.size, 0, none⟩) 2 [foxL, dogL] := by
    refine rows2_two (heap_alloc_new _ _) ?_ ?_
    · exact (((frz_ch _ dogL).alloc _)).reads (frz_reads (frz w keyL) foxL (by decide)) (fun _ _ h => h)
    · exact (((Ch.refl (fun _ => False) _).alloc _)).reads (frz_reads (frz (frz w keyL) foxL) dogL (by decide)) (fun _ _ h => h)
  have hch := (((frz_ch w keyL).trans (frz_ch _ foxL)).trans (frz_ch _ dogL)).alloc (.cells #[.slice (some ⟨(frz w keyL).heap.size, 0, none⟩) 20 20, .slice (some ⟨(frz (frz w keyL) foxL).heap.size, 0, none⟩) 23 23] 22)
  have hk := ((frz_ch (frz w keyL) foxL).trans (frz_ch _ dogL)).alloc (.cells #[.slice (some ⟨(frz w keyL).heap.size, 0, none⟩) 20 20, .slice (some ⟨(frz (frz w keyL) foxL).heap.size, 0, none⟩) 23 23] 22) |>.reads (frz_reads w keyL (by decide)) (fun _ _ h => h)
  have HO := Lib.hid (hF _ _ _ hk ho)
  have HCH := Lib.hid hch
  clear hk ho hch hF
  go_enter Try.func18, Try.ntmps18
  go_wp2_with fail
  refine (HO.out).mono ?_
  rintro e w1 ⟨v, rfl, ho, hb⟩
  obtain ⟨A, c, rfl, hc32⟩ := q_slice (q_of_own ho)
  obtain ⟨ad, rfl, -⟩ := (reads_own ho).2.2 (by omega)
  have HO1 := Lib.hid (reads_own ho)
  have HC1 := Lib.hid (HCH.out.trans (Ch.of_below hb))
  have hc4 : (4 : Int) ≤ c := by omega
  clear ho hb hc32 HO HCH hf1 hf2 hf3
  go_wp2_with fail
  refine (same_yes _ _ 4 c 4 [247, 188, 131, 244] _ ?_ ?_).mono ?_
  · rw [← HM4.out]
    exact reads_take ((Ch.alloc (Ch.refl (fun _ => False) _) _).reads HO1.out (fun _ _ h => h)) (by omega)
  · exact lit_reads w1 [247, 188, 131, 244] (by decide)
  rintro e w2 ⟨rfl, m2, hw2⟩
  have HC2 : Hid (Ch (fun _ => False) w w2) := by rw [hw2]; exact Lib.hid ((HC1.out.alloc _).drewN m2)
  clear hw2 HO1 HC1
  go_wp2_with fail
  refine (HA.out _).mono ?_
  rintro e w3 ⟨rfl, h3⟩
  have HC3 := Lib.hid (HC2.out.trans h3)
  clear h3
  go_wp2_with fail
  refine (HB.out _).mono ?_
  rintro e w4 ⟨rfl, h4⟩
  have HC4 := Lib.hid (HC3.out.trans h4)
  clear h4
  have hne : ∀ W, (Op.equalIn 10000 51 (.agg (nums .u8 dA).toArray) (.agg (nums .u8 dB).toArray)).run Try.prog W = .ok false W := fun W => by
    rw [key_eq _ _ HLA.out HLB.out, decide_eq_false HNE.out]
  have heq : ∀ W, (Op.equalIn 10000 51 (.agg (nums .u8 tx).toArray) (.agg (nums .u8 tx).toArray)).run Try.prog W = .ok true W := fun W => by
    rw [key_eq _ _ HLT.out HLT.out, decide_eq_true rfl]
  go_wp2_with fail
  refine (HT.out _).mono ?_
  rintro e w5 ⟨rfl, h5⟩
  have HC5 := Lib.hid (HC4.out.trans h5)
  clear h5
  go_wp2_with fail
  refine (HT.out _).mono ?_
  rintro e w6 ⟨rfl, h6⟩
  have HC6 := Lib.hid (HC5.out.trans h6)
  clear h6
  go_wp2
  go_ret
  exact ⟨rfl, HC6.out.below⟩
end Go.Proofs.Ytejhjlfakfaegaa
