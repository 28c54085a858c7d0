/- The law ShaDigests. -/
import Derived.Test.YtejhjlfakfaegaaRefQ
import Derived.Test.YtejhjlfakfaegaaConv
set_option linter.unusedSimpArgs false
set_option linter.unusedVariables false
namespace Go.Proofs.Ytejhjlfakfaegaa
open Go.RowKit Go.Proofs.YtejhjlfakfaegaaW.PrintWords

/-- a literal of bytes, converted to its own type -/
def frz (W : World) (l : List Int) : World := (W.alloc (.cells (nums .u8 l).toArray 5)).freeze ⟨W.heap.size, l.length, none⟩ 1
theorem frz_run (W : World) (l : List Int) (n c : Nat) : Sem.run Try.prog (convert 22 22 (.slice (some ⟨W.heap.size, 0, none⟩) n c)) (W.alloc (.cells (nums .u8 l).toArray 5)) = .ok (.slice (some ⟨W.heap.size, 0, none⟩) n c) (frz W l) := by
  have := run_convert_own (W.alloc (.cells (nums .u8 l).toArray 5)) 22 5 Try.underlying22 Try.underlying5 W.heap.size n c (nums .u8 l).toArray 5 (0, 0) (heap_alloc_new _ _)
  rw [this]
  simp [frz, nums]
theorem frz_ch (W : World) (l : List Int) : Ch (fun _ => False) W (frz W l) := ((Ch.refl _ _).alloc _).freeze (.inr (Nat.le_refl _)) _
theorem frz_size (W : World) (l : List Int) : (frz W l).heap.size = W.heap.size + 1 := by
  unfold frz World.freeze
  split <;> simp
theorem frz_reads (W : World) (l : List Int) (h : l.length ≤ 9223372036854775807) : ReadsInt (frz W l) .u8 (some ⟨W.heap.size, 0, none⟩) l.length l := by
  obtain ⟨fz', hf⟩ := frz_here (W.alloc (.cells (nums .u8 l).toArray 5)) W.heap.size l.length _ _ _ (heap_alloc_new _ _)
  refine ⟨rfl, h, fun _ => ⟨_, rfl, fun j hj => ?_⟩⟩
  rw [add_plain]
  unfold frz
  rw [cell_of_row _ _ _ _ _ _ hf]
  simp [nums, List.getElem?_eq_getElem hj, List.getD_eq_getElem?_getD]
theorem write_frz (base bs : Nat) (h : List Int) (rest : Value) (r : List Int) (n : Int) (l : List Int) (W : World) (hs : SumAt W base bs h rest r n) (hl : Bs l) (hn : n + l.length < 1000000000) (hrl : r.length < 64) :
    Calls Try.prog 22 #[.pointer (some ⟨bs, 0, none⟩), .slice (some ⟨W.heap.size, 0, none⟩) l.length l.length] (frz W l) fun e w' =>
      e = .returned (.tuple #[]) ∧ ∃ rest', SumAt w' base bs (ab h (r ++ l)).1 rest' (ab h (r ++ l)).2 (n + l.length) ∧ Ch (fun i => base ≤ i) W w' := by
  have hb := blk_lt hs.here
  refine (write_any base bs h rest r n (some ⟨W.heap.size, 0, none⟩) l.length l _ (hs.keep (frz_ch W l)) (frz_reads W l (by have := hs.n0; omega)) hl (fun a ha hp => ?_) hn hrl).mono ?_
  · injection ha with ha
    subst ha
    refine ⟨by show W.heap.size ≠ bs; omega, fun e => ?_⟩
    have := q_lt hs.own _ e.symm
    simp at this
  · rintro e w' ⟨rfl, rest', h1, h2, _⟩
    refine ⟨rfl, rest', h1, (Ch.imp (frz_ch W l) (fun _ h => h.elim)).then_ h2 fun i hi hs' => ?_⟩
    rcases hs' with rfl | hs'
    · exact hs.low
    · exact (q_typed hs.own i hs'.symm).1
theorem lit_reads (W : World) (l : List Int) (h : l.length ≤ 9223372036854775807) : ReadsInt (W.alloc (.cells (nums .u8 l).toArray 5)) .u8 (some ⟨W.heap.size, 0, none⟩) l.length l :=
  reads_own (own_lit W 0 5 .u8 l (by omega) h)
theorem reads_take {w : World} {k : IntKind} {ad : Addr} {n m : Nat} {xs : List Int} (h : ReadsInt w k (some ad) n xs) (hm : m ≤ n) : ReadsInt w k (some ad) m (xs.take m) := by
  have := reads_sub h 0 m (by omega)
  simpa [Addr.add] using this
theorem abc4 : (sha [97, 98, 99]).take 4 = [186, 120, 22, 191] := by decide +kernel
theorem abc : sha [97, 98, 99] = out32 (ab h0s ([97, 98, 99] ++ 128 :: (List.replicate ((119 - 3) % 64) 0 ++ putBytes (8 * 3)))).1 := by
  rw [sha_eq, ab_less h0s [97, 98, 99] (by decide)]
  rfl
set_option maxHeartbeats 1000000 in
theorem alive3_any (w : World) :
    Calls Try.prog 7 #[] w fun e w' => e = .returned (.bool true) ∧ Below w.heap.size w w' := by
  have HN := Lib.hid (new_any w)
  have hf1 : ∀ (W : World) (n c : Nat), Sem.run Try.prog (convert 22 22 (.slice (some ⟨W.heap.size, 0, none⟩) n c)) (W.alloc (.cells #[.int .u8 97] 5)) = .ok (.slice (some ⟨W.heap.size, 0, none⟩) n c) (frz W [97]) := fun W n c => frz_run W [97] n c
  have hf2 : ∀ (W : World) (n c : Nat), Sem.run Try.prog (convert 22 22 (.slice (some ⟨W.heap.size, 0, none⟩) n c)) (W.alloc (.cells #[.int .u8 98, .int .u8 99] 5)) = .ok (.slice (some ⟨W.heap.size, 0, none⟩) n c) (frz W [98, 99]) := fun W n c => frz_run W [98, 99] n c
  go_enter Try.func7, Try.ntmps7
  go_wp2_with (first
    | (go_at_call 21; with_reducible refine (HN.out).mono ?_; rintro e w1 ⟨rfl, hS, hB⟩; have HB1 := Lib.hid hB; have HW1 := Lib.hid (write_frz _ _ _ _ _ _ [97] _ hS (by unfold Bs; decide) (by decide) (by decide)); clear hS hB))
  refine (HW1.out).mono ?_
  rintro e w2 ⟨rfl, rest2, hS, hC⟩
  have HC2 := Lib.hid hC
  have HW2 := Lib.hid (write_frz _ _ _ _ _ _ [98, 99] _ hS (by unfold Bs; decide) (by decide) (by decide))
  clear hS hC
  go_wp2_with fail
  refine (HW2.out).mono ?_
  rintro e w3 ⟨rfl, rest3, hS, hC⟩
  have HC3 := Lib.hid hC
  have HS3 := Lib.hid hS
  have HD := Lib.hid (digest_any _ _ _ _ _ _ _ hS (by rw [ab_less _ _ (by decide)]; decide) (by decide))
  clear hS hC
  go_wp2_with fail
  refine (HD.out).mono ?_
  rintro e w4 ⟨v, rfl, ho, hb⟩
  obtain ⟨A, c, rfl, hc32⟩ := q_slice (q_of_own ho)
  obtain ⟨ad, rfl, -⟩ := (reads_own ho).2.2 (by omega)
  have hd4 : out32 (ab (ab (ab h0s ([] ++ [97])).1 ((ab h0s ([] ++ [97])).2 ++ [98, 99])).1 ((ab (ab h0s ([] ++ [97])).1 ((ab h0s ([] ++ [97])).2 ++ [98, 99])).2 ++ 128 :: (List.replicate ((119 - (ab (ab h0s ([] ++ [97])).1 ((ab h0s ([] ++ [97])).2 ++ [98, 99])).2.length) % 64) 0 ++ putBytes (8 * (0 + (([97] : List Int).length : Int) + (([98, 99] : List Int).length : Int)))))).1 = sha [97, 98, 99] := by
    rw [sha_eq, ← ab_append]
    rfl
  rw [hd4] at ho
  have HO4 := Lib.hid ho
  have HB4 := Lib.hid hb
  have hc4 : (4 : Int) ≤ c := by omega
  clear ho hb hd4 hc32 HD HN HS3
  go_wp2_with fail
  refine (same_yes _ _ 4 c 4 [186, 120, 22, 191] _ ?_ ?_).mono ?_
  · rw [← abc4]
    exact reads_take ((Ch.alloc (Ch.refl (fun _ => False) _) _).reads (reads_own HO4.out) (fun _ _ h => h)) (by omega)
  · exact lit_reads w4 [186, 120, 22, 191] (by decide)
  rintro e w5 ⟨rfl, m, hw5⟩
  have HC5 : Hid (Ch (fun _ => False) w4 w5) := by rw [hw5]; exact ((Ch.refl _ _).alloc _).drewN m
  clear hw5
  have hf3 : ∀ (W : World) (n c : Nat), Sem.run Try.prog (convert 22 22 (.slice (some ⟨W.heap.size, 0, none⟩) n c)) (W.alloc (.cells #[.int .u8 97, .int .u8 98] 5)) = .ok (.slice (some ⟨W.heap.size, 0, none⟩) n c) (frz W [97, 98]) := fun W n c => frz_run W [97, 98] n c
  have hf4 : ∀ (W : World) (n c : Nat), Sem.run Try.prog (convert 22 22 (.slice (some ⟨W.heap.size, 0, none⟩) n c)) (W.alloc (.cells #[.int .u8 99] 5)) = .ok (.slice (some ⟨W.heap.size, 0, none⟩) n c) (frz W [99]) := fun W n c => frz_run W [99] n c
  have ho : Rows2 ((frz (frz w5 [97, 98]) [99]).alloc (.cells #[.slice (some ⟨w5.heap.size, 0, none⟩) 2 2, .slice (some ⟨(frz w5 [97, 98]).heap.size, 0, none⟩) 1 1] 22)) (some ⟨(frz (frz w5 [97, 98]) [99]).heap.size, 0, none⟩) 2 [[97, 98], [99]] := by
    refine rows2_two (heap_alloc_new _ _) ?_ ?_
    · exact (((frz_ch _ [99]).alloc _)).reads (frz_reads w5 [97, 98] (by decide)) (fun _ _ h => h)
    · exact (((Ch.refl (fun _ => False) _).alloc _)).reads (frz_reads (frz w5 [97, 98]) [99] (by decide)) (fun _ _ h => h)
  have HOF := Lib.hid (of_any _ 2 2 _ _ ho (by decide) (by unfold Bs; decide))
  clear ho hf1 hf2 HW1 HW2
  go_wp2_with fail
  refine (HOF.out).mono ?_
  rintro e w6 ⟨v6, rfl, ho6, hb6⟩
  obtain ⟨A6, c6, rfl, hc6⟩ := q_slice (q_of_own ho6)
  have HO6 := Lib.hid ho6
  have HB6 := Lib.hid hb6
  clear ho6 hb6 hc6 HOF
  go_wp2_with fail
  have HC6 : Hid (Ch (fun _ => False) w4 w6) := Lib.hid (((HC5.out.trans (frz_ch w5 [97, 98])).trans (frz_ch _ [99])).alloc _ |>.trans (Ch.of_below HB6.out))
  refine (same_yes _ _ 32 c c6 (sha [97, 98, 99]) w6 (HC6.out.reads (reads_own HO4.out) (fun _ _ h => h)) (reads_own HO6.out)).mono ?_
  rintro e w7 ⟨rfl, m7, rfl⟩
  go_wp2
  go_ret
  refine ⟨rfl, ?_⟩
  exact (((((Ch.of_below (S := fun _ => False) HB1.out).then_ HC2.out (fun i hi h => by omega)).then_ HC3.out (fun i hi h => by omega)).trans (Ch.of_below HB4.out)).trans HC6.out |>.drewN m7).below
end Go.Proofs.Ytejhjlfakfaegaa
