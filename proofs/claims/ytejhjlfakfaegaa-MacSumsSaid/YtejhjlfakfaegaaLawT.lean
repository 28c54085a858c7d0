/- The walk of ShaDigests: of all bytes the digest is the document's. -/
import Derived.Test.YtejhjlfakfaegaaLawS
set_option linter.unusedSimpArgs false
set_option linter.unusedVariables false
namespace Go.Proofs.Ytejhjlfakfaegaa
open Go.RowKit Go.Proofs.YtejhjlfakfaegaaW.PrintWords

theorem rows2_one {W : World} {g n1 c1 : Nat} {A1 : Option Addr} {T : TypeId} {l1 : List Int} (h : W.heap[g]? = some (.cells #[.slice A1 n1 c1] T (0, 0))) (h1 : ReadsInt W .u8 A1 n1 l1) :
    Rows2 W (some ⟨g, 0, none⟩) 1 [l1] := by
  refine ⟨rfl, by omega, fun _ => ⟨_, rfl, fun j hj => ?_⟩⟩
  obtain rfl := h1.1
  obtain rfl : j = 0 := by omega
  rw [add_plain, blk_cell h]
  exact ⟨A1, c1, rfl, h1⟩
set_option maxHeartbeats 1000000 in
theorem shaDigests_any (A : Option Addr) (n c : Nat) (l : List Int) (w : World) (hr : ReadsInt w .u8 A n l) (hb : Bs l) :
    Calls Try.prog 3 #[.slice A n c] w fun e w' => e = .returned (.bool true) ∧ Below w.heap.size w w' := by
  have HA := Lib.hid (alive3_any w)
  have hm := hr.2.1
  have HR := Lib.hid hr
  clear hr
  by_cases hlt : 2500 < n
  · go_enter Try.func3, Try.ntmps3
    go_wp2_with (go_at_call 7; with_reducible refine (HA.out).mono ?_; rintro e w1 ⟨rfl, hB⟩; have HB1 := Lib.hid hB; clear hB)
    go_ret
    exact ⟨rfl, HB1.out⟩
  · go_enter Try.func3, Try.ntmps3
    go_wp2_with (go_at_call 7; with_reducible refine (HA.out).mono ?_; rintro e w1 ⟨rfl, hB⟩; have HB1 := Lib.hid hB; clear hB)
    have ho := of_any _ 1 1 [l] _ (rows2_one (heap_alloc_new w1 (.cells #[.slice A n c] 22)) (((Ch.of_below (S := fun _ => False) HB1.out).alloc _).reads HR.out (fun _ _ h => h))) (by have := HR.out.1; simp; omega) (by simpa using hb)
    have HO := Lib.hid ho
    clear ho
    refine (HO.out).mono ?_
    rintro e w2 ⟨v2, rfl, ho, hb2⟩
    rw [show ([l] : List (List Int)).flatten = l by simp] at ho
    obtain ⟨A2, c2, rfl, -⟩ := q_slice (q_of_own ho)
    have HO2 := Lib.hid ho
    have HC2 : Hid (Ch (fun _ => False) w w2) := Lib.hid (((Ch.of_below HB1.out).alloc _).trans (Ch.of_below hb2))
    have HKS := Lib.hid (ks_any w2)
    clear ho hb2 HO HA
    go_wp2_with fail
    refine (HKS.out).mono ?_
    rintro e w3 ⟨v3, rfl, ho, hb3⟩
    obtain ⟨A3, c3, rfl, -⟩ := q_slice (q_of_own ho)
    have HD := Lib.hid (rdigest_any A3 A c3 c n kst l w3 (reads_own ho) ((HC2.out.trans (Ch.of_below hb3)).reads HR.out (fun _ _ h => h)) (by omega) kst_w hb)
    have HB3 := Lib.hid hb3
    clear ho hb3 HKS
    go_wp2_with fail
    refine (HD.out).mono ?_
    rintro e w4 ⟨v4, rfl, ho4, hb4⟩
    rw [← sha_hAt] at ho4
    obtain ⟨A4, c4, rfl, -⟩ := q_slice ho4
    have HO4 := Lib.hid ho4
    have HB4 := Lib.hid hb4
    have HC4 : Hid (Ch (fun _ => False) w2 w4) := Lib.hid ((Ch.of_below HB3.out).trans (Ch.of_below HB4.out))
    clear ho4 hb4 HD
    go_wp2_with fail
    refine (same_yes _ _ 32 c2 c4 (sha l) w4 (HC4.out.reads (reads_own HO2.out) (fun _ _ h => h)) (q_reads HO4.out)).mono ?_
    rintro e w7 ⟨rfl, m7, rfl⟩
    go_wp2
    go_ret
    exact ⟨rfl, ((HC2.out.trans HC4.out).drewN m7).below⟩
end Go.Proofs.Ytejhjlfakfaegaa
