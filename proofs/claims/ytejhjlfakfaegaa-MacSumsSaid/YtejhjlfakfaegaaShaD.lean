/- sha's New, Digest, Of. -/
import Derived.Test.YtejhjlfakfaegaaShaC
import Derived.Deep.DeepCutAuto
import Derived.Deep.CutBlock
set_option linter.unusedSimpArgs false
set_option linter.unusedVariables false
namespace Go.Proofs.Ytejhjlfakfaegaa
open Go.RowKit Go.Proofs.YtejhjlfakfaegaaW.PrintWords

theorem h0s_w : ∀ x ∈ h0s, W32 x := by unfold W32; decide +kernel
set_option maxHeartbeats 1000000 in
theorem new_any (w : World) :
    Calls Try.prog 21 #[] w fun e w' => e = .returned (.pointer (some ⟨w.heap.size, 0, none⟩)) ∧ SumAt w' w.heap.size w.heap.size h0s (.slice none 0 0) [] 0 ∧ Below w.heap.size w w' := by
  go_enter Try.func21, Try.ntmps21
  go_wp2
  go_ret
  refine ⟨rfl, ⟨heap_alloc_new _ _, ?_, Nat.le_refl _, rfl, h0s_w, (fun x hx => by cases hx), (by simp [Value.ownBlock]), (by omega), (by omega)⟩, (Below.refl _ _).alloc (Nat.le_refl _) _⟩
  exact q_of_own (own_nil _ _ _ _)

theorem SumAt.keep {w w' : World} {base bs : Nat} {h : List Int} {rest : Value} {r : List Int} {n : Int} (hs : SumAt w base bs h rest r n) (hC : Ch (fun _ => False) w w') : SumAt w' base bs h rest r n :=
  ⟨hC.blk hs.here (fun h => h), q_move hs.own fun k hk => hC.block k (q_lt hs.own k hk) (fun h => h), hs.low, hs.h8, hs.hw, hs.rb, hs.ne, hs.n0, hs.n1⟩
theorem index8 (h : List Int) (h8 : h.length = 8) (k : Nat) (hk : k < 8) : ∀ W : World, (Instr.index 64 (.agg (nums .u32 h).toArray) (.int .i64 (k : Int))).run Try.prog W = .ok (.int .u32 (nt h k)) W := by
  obtain ⟨a, b, c, d, e, f, g, i, rfl⟩ := list8 h8
  intro W
  rcases k with _|_|_|_|_|_|_|_|k
  all_goals first | omega | kernel_rfl
def outTo (h : List Int) (k : Nat) : List Int := (List.range k).flatMap fun i => (putBytes (nt h i)).drop 4
theorem outTo_succ (h : List Int) (k : Nat) : outTo h (k + 1) = outTo h k ++ (putBytes (nt h k)).drop 4 := by simp [outTo, List.range_succ]
theorem outTo_length (h : List Int) : ∀ k, (outTo h k).length = 4 * k
  | 0 => rfl
  | k + 1 => by rw [outTo_succ, List.length_append, outTo_length h k, List.length_drop, putBytes_length]; omega
theorem put_tail (x : Int) (w : World) : ReadsInt (w.alloc (.cells (putTo x 8) 5)) .u8 (some ⟨w.heap.size, 4, none⟩) 4 ((putBytes x).drop 4) := by
  have h := reads_sub (xs := putBytes x) (k := .u8) (n := 8) (ad := ⟨w.heap.size, 0, none⟩) (w := w.alloc (.cells (putTo x 8) 5)) ?_ 4 4 (by omega)
  · have e : ((putBytes x).drop 4).take 4 = (putBytes x).drop 4 := List.take_of_length_le (by simp [putBytes_length])
    rw [e] at h
    exact h
  · have ho := own_lit w w.heap.size 5 .u8 (putBytes x) (Nat.le_refl _) (by rw [putBytes_length]; omega)
    rw [← putTo_8, putBytes_length] at ho
    obtain ⟨A, c, he, hr⟩ := own_reads ho
    injection he with he
    subst he
    exact hr
theorem made_zeros (k : IntKind) (m : Nat) : (madeCells #[Value.int k 0] m).toList = nums k (List.replicate m 0) := by
  apply List.ext_getElem
  · simp [nums, madeCells]
  · intro i h1 h2
    simp [nums, madeCells, Nat.mod_one]
theorem ten_cells {W : World} {g : Nat} {x0 x1 x2 x3 x4 x5 x6 x7 x8 x9 : Value} {T : TypeId} (h : W.heap[g]? = some (.cells #[x0, x1, x2, x3, x4, x5, x6, x7, x8, x9] T (0, 0))) :
    (∀ j, W.frozen? ⟨g, j, none⟩ = false) ∧ W.cell? ⟨g, 0, none⟩ = some x0 ∧ W.cell? ⟨g, 1, none⟩ = some x1 ∧ W.cell? ⟨g, 2, none⟩ = some x2 ∧ W.cell? ⟨g, 3, none⟩ = some x3 ∧ W.cell? ⟨g, 4, none⟩ = some x4 ∧ W.cell? ⟨g, 5, none⟩ = some x5 ∧ W.cell? ⟨g, 6, none⟩ = some x6 ∧ W.cell? ⟨g, 7, none⟩ = some x7 ∧ W.cell? ⟨g, 8, none⟩ = some x8 ∧ W.cell? ⟨g, 9, none⟩ = some x9 := by
  refine ⟨fun j => blk_frozen h j, ?_⟩
  simp only [blk_cell h]
  exact ⟨rfl, rfl, rfl, rfl, rfl, rfl, rfl, rfl, rfl, rfl⟩
theorem set10 {W : World} {g : Nat} {T : TypeId} {x0 x1 x2 x3 x4 x5 x6 x7 x8 x9 y0 y1 y2 y3 y4 y5 y6 y7 y8 y9 : Value} (h : W.heap[g]? = some (.cells #[x0, x1, x2, x3, x4, x5, x6, x7, x8, x9] T (0, 0))) : ((((((((((W.setCell ⟨g, 0, none⟩ y0).setCell ⟨g, 1, none⟩ y1).setCell ⟨g, 2, none⟩ y2).setCell ⟨g, 3, none⟩ y3).setCell ⟨g, 4, none⟩ y4).setCell ⟨g, 5, none⟩ y5).setCell ⟨g, 6, none⟩ y6).setCell ⟨g, 7, none⟩ y7).setCell ⟨g, 8, none⟩ y8).setCell ⟨g, 9, none⟩ y9).heap[g]? = some (.cells #[y0, y1, y2, y3, y4, y5, y6, y7, y8, y9] T (0, 0)) := by
  have e := blk_set (blk_set (blk_set (blk_set (blk_set (blk_set (blk_set (blk_set (blk_set (blk_set h 0 y0) 1 y1) 2 y2) 3 y3) 4 y4) 5 y5) 6 y6) 7 y7) 8 y8) 9 y9
  simp only [List.setIfInBounds_toArray, List.set_cons_succ, List.set_cons_zero] at e
  exact e
theorem set_far (W : World) {g k : Nat} (h : k ≠ g) (i : Nat) (y : Value) {o : Option Obj} (e : W.heap[k]? = o) : (W.setCell ⟨g, i, none⟩ y).heap[k]? = o := (Below.heap_setCell W ⟨g, i, none⟩ y k h).trans e
theorem set10_far {W : World} {g k : Nat} {y0 y1 y2 y3 y4 y5 y6 y7 y8 y9 : Value} (h : k ≠ g) {o : Option Obj} (e : W.heap[k]? = o) : ((((((((((W.setCell ⟨g, 0, none⟩ y0).setCell ⟨g, 1, none⟩ y1).setCell ⟨g, 2, none⟩ y2).setCell ⟨g, 3, none⟩ y3).setCell ⟨g, 4, none⟩ y4).setCell ⟨g, 5, none⟩ y5).setCell ⟨g, 6, none⟩ y6).setCell ⟨g, 7, none⟩ y7).setCell ⟨g, 8, none⟩ y8).setCell ⟨g, 9, none⟩ y9).heap[k]? = o := by
  refine set_far _ h 9 y9 ?_
  refine set_far _ h 8 y8 ?_
  refine set_far _ h 7 y7 ?_
  refine set_far _ h 6 y6 ?_
  refine set_far _ h 5 y5 ?_
  refine set_far _ h 4 y4 ?_
  refine set_far _ h 3 y3 ?_
  refine set_far _ h 2 y2 ?_
  refine set_far _ h 1 y1 ?_
  refine set_far _ h 0 y0 ?_
  exact e
theorem set10_ch {S : Nat → Prop} {w W : World} {g : Nat} {y0 y1 y2 y3 y4 y5 y6 y7 y8 y9 : Value} (h : Ch S w W) (hg : S g ∨ w.heap.size ≤ g) : Ch S w ((((((((((W.setCell ⟨g, 0, none⟩ y0).setCell ⟨g, 1, none⟩ y1).setCell ⟨g, 2, none⟩ y2).setCell ⟨g, 3, none⟩ y3).setCell ⟨g, 4, none⟩ y4).setCell ⟨g, 5, none⟩ y5).setCell ⟨g, 6, none⟩ y6).setCell ⟨g, 7, none⟩ y7).setCell ⟨g, 8, none⟩ y8).setCell ⟨g, 9, none⟩ y9) := by
  exact (Ch.setCell (Ch.setCell (Ch.setCell (Ch.setCell (Ch.setCell (Ch.setCell (Ch.setCell (Ch.setCell (Ch.setCell (Ch.setCell h (p := ⟨g, 0, none⟩) hg y0) (p := ⟨g, 1, none⟩) hg y1) (p := ⟨g, 2, none⟩) hg y2) (p := ⟨g, 3, none⟩) hg y3) (p := ⟨g, 4, none⟩) hg y4) (p := ⟨g, 5, none⟩) hg y5) (p := ⟨g, 6, none⟩) hg y6) (p := ⟨g, 7, none⟩) hg y7) (p := ⟨g, 8, none⟩) hg y8) (p := ⟨g, 9, none⟩) hg y9)
theorem rows2_two {W : World} {g n1 n2 c1 c2 : Nat} {A1 A2 : Option Addr} {T : TypeId} {l1 l2 : List Int} (h : W.heap[g]? = some (.cells #[.slice A1 n1 c1, .slice A2 n2 c2] T (0, 0))) (h1 : ReadsInt W .u8 A1 n1 l1) (h2 : ReadsInt W .u8 A2 n2 l2) :
    Rows2 W (some ⟨g, 0, none⟩) 2 [l1, l2] := by
  refine ⟨rfl, by omega, fun _ => ⟨_, rfl, fun j hj => ?_⟩⟩
  obtain rfl := h1.1
  obtain rfl := h2.1
  rw [add_plain, blk_cell h]
  match j, hj with
  | 0, _ => exact ⟨A1, c1, rfl, h1⟩
  | 1, _ => exact ⟨A2, c2, rfl, h2⟩
theorem make_zeros (m : Nat) (hm : m ≤ 100000) : ∀ W : World, (Instr.makeSlice 22 (.int .i64 (m : Int)) (.int .i64 (m : Int))).run Try.prog W = .ok (.slice (some ⟨W.heap.size, 0, none⟩) m m) (W.alloc (.cells (madeCells #[.int .u8 0] m) 5)) :=
  print_make 22 5 .u8 1 Try.underlying22 info_u8 (by decide) m (by omega)
set_option maxHeartbeats 4000000 in
theorem digest_any (base bs : Nat) (h : List Int) (rest : Value) (r : List Int) (n : Int) (w : World) (hs : SumAt w base bs h rest r n) (hrl : r.length < 64) (hn : n < 100000000) :
    Calls Try.prog 23 #[.pointer (some ⟨bs, 0, none⟩)] w fun e w' =>
      ∃ v, e = .returned v ∧ w'.ownsRow w.heap.size 5 1 v 32 (nums .u8 (out32 (ab h (r ++ 128 :: (List.replicate ((119 - r.length) % 64) 0 ++ putBytes (8 * n)))).1)) ∧ Below w.heap.size w w' := by
  obtain ⟨A', c', hv, hc'⟩ := q_slice hs.own
  obtain ⟨a, b, c, d, e, f, g, i, hh⟩ := list8 hs.h8
  have hr0 : ReadsInt w .u8 A' r.length r := by have := hs.own; rw [hv] at this; exact q_reads this
  have c0 : w.cell? ⟨bs, 0, none⟩ = some (.int .u32 a) := by rw [blk_cell hs.here, hh]; rfl
  have c1 : w.cell? ⟨bs, 1, none⟩ = some (.int .u32 b) := by rw [blk_cell hs.here, hh]; rfl
  have c2 : w.cell? ⟨bs, 2, none⟩ = some (.int .u32 c) := by rw [blk_cell hs.here, hh]; rfl
  have c3 : w.cell? ⟨bs, 3, none⟩ = some (.int .u32 d) := by rw [blk_cell hs.here, hh]; rfl
  have c4 : w.cell? ⟨bs, 4, none⟩ = some (.int .u32 e) := by rw [blk_cell hs.here, hh]; rfl
  have c5 : w.cell? ⟨bs, 5, none⟩ = some (.int .u32 f) := by rw [blk_cell hs.here, hh]; rfl
  have c6 : w.cell? ⟨bs, 6, none⟩ = some (.int .u32 g) := by rw [blk_cell hs.here, hh]; rfl
  have c7 : w.cell? ⟨bs, 7, none⟩ = some (.int .u32 i) := by rw [blk_cell hs.here, hh]; rfl
  have c8 : w.cell? ⟨bs, 8, none⟩ = some (.slice A' r.length c') := by rw [blk_cell hs.here, sum_rest _ _ _ hs.h8, hv]
  have c9 : w.cell? ⟨bs, 9, none⟩ = some (.int .u64 n) := by rw [blk_cell hs.here, sum_n _ _ _ hs.h8]
  have hbw := blk_lt hs.here
  have HS := Lib.hid hs
  have HR0 := Lib.hid hr0
  have HH := Lib.hid hh
  obtain ⟨m, hm⟩ : ∃ m, r.length = m := ⟨_, rfl⟩
  rw [hm] at c8 hc' hrl
  have HM := Lib.hid hm
  clear hs hr0 hh hv hm
  go_enter Try.func23, Try.ntmps23
  go_upto_region 1 with fail
  have hmk : ∀ w', Ch (fun _ => False) w w' → Ch (fun _ => False) w w' ∧ w'.cell? ⟨bs, 0, none⟩ = some (.int .u32 a) ∧ w'.cell? ⟨bs, 1, none⟩ = some (.int .u32 b) ∧ w'.cell? ⟨bs, 2, none⟩ = some (.int .u32 c) ∧ w'.cell? ⟨bs, 3, none⟩ = some (.int .u32 d) ∧ w'.cell? ⟨bs, 4, none⟩ = some (.int .u32 e) ∧ w'.cell? ⟨bs, 5, none⟩ = some (.int .u32 f) ∧ w'.cell? ⟨bs, 6, none⟩ = some (.int .u32 g) ∧ w'.cell? ⟨bs, 7, none⟩ = some (.int .u32 i) ∧ w'.cell? ⟨bs, 8, none⟩ = some (.slice A' m c') ∧ w'.cell? ⟨bs, 9, none⟩ = some (.int .u64 n) := fun w' hC =>
    ⟨hC, hC.cell c0 (fun h => h), hC.cell c1 (fun h => h), hC.cell c2 (fun h => h), hC.cell c3 (fun h => h), hC.cell c4 (fun h => h), hC.cell c5 (fun h => h), hC.cell c6 (fun h => h), hC.cell c7 (fun h => h), hC.cell c8 (fun h => h), hC.cell c9 (fun h => h)⟩
  have HMK := Lib.hid hmk
  clear hmk
  have hrc : ∀ w', Ch (fun _ => False) w w' → ReadsInt w' .u8 A' m r := fun w' hC => by have := HR0.out; rw [HM.out] at this; exact hC.reads this (fun _ _ h => h)
  have HRC := Lib.hid hrc
  clear hrc
  have hl0 : (([] : List Int).length + m) * 1 ≤ 140737488355328 := by simp; omega
  go_cut [3] (fun s3 wx => ∃ bt rest', s3 = .pointer (some ⟨bt, 0, none⟩) ∧ SumAt wx w.heap.size bt h rest' r n ∧ Ch (fun _ => False) w wx)
  case first =>
    --[D1
    go_region_held3 (fun w' => Ch (fun _ => False) w w' ∧ w'.cell? ⟨bs, 0, none⟩ = some (.int .u32 a) ∧ w'.cell? ⟨bs, 1, none⟩ = some (.int .u32 b) ∧ w'.cell? ⟨bs, 2, none⟩ = some (.int .u32 c) ∧ w'.cell? ⟨bs, 3, none⟩ = some (.int .u32 d) ∧ w'.cell? ⟨bs, 4, none⟩ = some (.int .u32 e) ∧ w'.cell? ⟨bs, 5, none⟩ = some (.int .u32 f) ∧ w'.cell? ⟨bs, 6, none⟩ = some (.int .u32 g) ∧ w'.cell? ⟨bs, 7, none⟩ = some (.int .u32 i) ∧ w'.cell? ⟨bs, 8, none⟩ = some (.slice A' m c') ∧ w'.cell? ⟨bs, 9, none⟩ = some (.int .u64 n))
      ((refine HMK.out _ ?_; (repeat (first | (with_reducible refine Ch.setCell ?_ (.inr (Nat.le_refl _)) _) | (with_reducible refine Ch.drew ?_) | (with_reducible refine Ch.alloc ?_ _))); first | (with_reducible exact Ch.refl _ _) | (with_reducible exact hC1)))
      ((refine step_append_q w.heap.size (by rfl) _ _ 22 5 .u8 1 (by rfl) Try.underlying22 info_u8 (by decide) (.slice none 0 0) [] r A' m c' (by rfl) (by rfl) (q_of_own (own_nil _ _ _ _)) (HRC.out _ (And.left (by assumption))) (Ch.size (S := fun _ => False) (And.left (by assumption))) hl0 ?_; intro v1 w1 hq hg hat; have hC1 : Ch (fun _ => False) w w1 := Ch.grown (And.left (by assumption)) hg (fun k hk => by cases hk); (try (have hT := blk_grown (show (World.drew (World.alloc w _)).heap[w.heap.size]? = some _ from heap_alloc_new w _) hg (Option.some_ne_none _); have HT := Lib.hid hT; obtain ⟨hfz, t0, t1, t2, t3, t4, t5, t6, t7, t8, t9⟩ := ten_cells hT; have z0 := hfz 0; have z1 := hfz 1; have z2 := hfz 2; have z3 := hfz 3; have z4 := hfz 4; have z5 := hfz 5; have z6 := hfz 6; have z7 := hfz 7; have z8 := hfz 8; have z9 := hfz 9; clear hT hfz c0 c1 c2 c3 c4 c5 c6 c7 c8 c9)); have HAT := Lib.hid hat; rw [List.nil_append, HM.out] at hq; obtain ⟨A1, k1, rfl, hk1⟩ := q_slice hq; have HQ := Lib.hid hq; clear hg hq hat))
    · go_wp2_with fail
      go_meet
      have hH := HH.out
      refine ⟨w1.heap.size, .slice A1 m k1, rfl, ⟨by rw [hH]; exact heap_alloc_new _ _, ?_, ?_, HS.out.h8, HS.out.hw, HS.out.rb, ?_, HS.out.n0, HS.out.n1⟩, hC1.alloc _⟩
      · rw [HM.out]
        exact q_move HQ.out fun k hk => heap_alloc_old _ _ (q_lt HQ.out k hk)
      · exact hC1.size
      · intro e
        have := q_lt HQ.out _ e
        omega
    · go_wp2_with fail
      go_meet
      have hH := HH.out
      have hne : (Value.slice A1 m k1).ownBlock ≠ some w.heap.size := fun e => by
        obtain ⟨_, cells, hc⟩ := q_typed HQ.out _ e
        rw [HT.out] at hc
        cases hc
      refine ⟨w.heap.size, .slice A1 m k1, rfl, ⟨?_, ?_, Nat.le_refl _, HS.out.h8, HS.out.hw, HS.out.rb, hne, HS.out.n0, HS.out.n1⟩, ?_⟩
      · rw [hH]
        exact set10 HT.out
      · rw [HM.out]
        refine q_move HQ.out fun k hk => ?_
        exact set10_far (fun e => hne (by rw [hk, e])) rfl
      · exact set10_ch hC1 (.inr (Nat.le_refl _))
    --D1]
  case rest =>
    obtain ⟨bt, rest', rfl, hS, hC⟩ := hcut
    clear c0 c1 c2 c3 c4 c5 c6 c7 c8 c9 HMK HRC HR0 hl0
    obtain ⟨A1, k1, rfl, hk1⟩ := q_slice hS.own
    have hpad : (1 + (119 - (m : Int)) % 64 : Int) = ((1 + (119 - m) % 64 : Nat) : Int) := by omega
    obtain ⟨p, hp⟩ : ∃ p, 1 + (119 - m) % 64 = p := ⟨_, rfl⟩
    rw [hp] at hpad
    have hmk := make_zeros p (by omega)
    have t8 : wc.cell? ⟨bt, 8, none⟩ = some (.slice A1 m k1) := by rw [blk_cell hS.here, sum_rest _ _ _ hS.h8, HM.out]
    have hp0 : 0 < p := by omega
    have hp1 : p ≤ 64 := by omega
    have HP := Lib.hid hp
    have HS1 := Lib.hid hS
    have HC1 := Lib.hid hC
    have htw := blk_lt hS.here
    obtain ⟨z, hz⟩ : ∃ z : Array Value, madeCells #[.int .u8 0] p = z := ⟨_, rfl⟩
    rw [hz] at hmk
    have hz0 : z[0]? = some (.int .u8 0) := by rw [← hz]; simp [madeCells, hp0]
    have HZ := Lib.hid hz
    have c9 : wc.cell? ⟨bs, 9, none⟩ = some (.int .u64 n) := by rw [blk_cell (hC.blk HS.out.here (fun h => h)), sum_n _ _ _ HS.out.h8]
    have hbw' : bs < wc.heap.size := Nat.lt_of_lt_of_le hbw hC.size
    have n0 := HS.out.n0
    -- the padding's first part
    obtain ⟨W1, hW1⟩ : ∃ W1, wc.alloc (.cells (z.setIfInBounds 0 (.int .u8 128)) 5) = W1 := ⟨_, rfl⟩
    have hzz : z.setIfInBounds 0 (.int .u8 128) = (nums .u8 (128 :: List.replicate (p - 1) 0)).toArray := by
      rw [← hz]
      obtain ⟨q, rfl⟩ : ∃ q, p = q + 1 := ⟨p - 1, by omega⟩
      apply Array.ext'
      rw [Array.toList_setIfInBounds, made_zeros, List.replicate_succ]
      simp [nums]
    have hpo : W1.ownsRow wc.heap.size 5 1 (.slice (some ⟨wc.heap.size, 0, none⟩) p p) p (nums .u8 (128 :: List.replicate (p - 1) 0)) := by
      rw [← hW1, hzz]
      have := own_lit wc wc.heap.size 5 .u8 (128 :: List.replicate (p - 1) 0) (Nat.le_refl _) (by simp; omega)
      simpa [show p - 1 + 1 = p by omega] using this
    have hC2 : Ch (fun _ => False) wc W1 := by rw [← hW1]; exact (Ch.refl _ _).alloc _
    have HPO := Lib.hid hpo
    have HC2 := Lib.hid hC2
    have c9 : W1.cell? ⟨bs, 9, none⟩ = some (.int .u64 n) := hC2.cell c9 (fun h => h)
    clear hp hS hC hz hzz hpo hC2
    go_wp2_with fail
    refine (put_own (8 * n) _ (by omega) (by omega)).mono ?_
    rintro e w2 ⟨v2, rfl, ho2, hb2⟩
    obtain ⟨A2, k2, rfl, hr2⟩ := own_reads ho2
    obtain ⟨A0, k0, he0, hr1⟩ := own_reads HPO.out
    injection he0 with he0 _ hk0
    subst he0 hk0
    have hr1' := hr1.below hb2
    have HO2 := Lib.hid ho2
    have HB2 := Lib.hid hb2
    have HR1 := Lib.hid hr1'
    have HR2 := Lib.hid hr2
    clear ho2 hb2 hr1 hr1' hr2
    go_wp2_with fail
    refine (joined_any _ _ _ [128 :: List.replicate (p - 1) 0, putBytes (8 * n)] _ (rows2_two (heap_alloc_new _ _) ?_ ?_) ?_).mono ?_
    · have := HR1.out.below ((Below.refl _ _).alloc (Nat.le_refl _) (.cells #[.slice (some ⟨wc.heap.size, 0, none⟩) p p, .slice A2 8 k2] 22))
      simpa [show p - 1 + 1 = p by omega] using this
    · have := HR2.out.below ((Below.refl _ _).alloc (Nat.le_refl _) (.cells #[.slice (some ⟨wc.heap.size, 0, none⟩) p p, .slice A2 8 k2] 22))
      simpa [putBytes_length] using this
    · simp [putBytes_length]; omega
    rintro e w3 ⟨v3, rfl, ho3, hb3⟩
    obtain ⟨L, hL⟩ : ∃ L, [128 :: List.replicate (p - 1) 0, putBytes (8 * n)].flatten = L := ⟨_, rfl⟩
    rw [hL] at ho3
    obtain ⟨A3, k3, rfl, hr3⟩ := own_reads ho3
    have hLl : L.length = p + 8 := by rw [← hL]; simp [putBytes_length]; omega
    have hLb : Bs L := by
      rw [← hL]
      intro x hx
      simp only [List.flatten_cons, List.flatten_nil, List.append_nil, List.mem_append, List.mem_cons, List.mem_replicate] at hx
      rcases hx with (rfl | ⟨_, rfl⟩) | hx
      · omega
      · omega
      · exact putBytes_bs _ x hx
    have hC3 : Ch (fun _ => False) wc w3 := ((HC2.out.trans (Ch.of_below HB2.out)).alloc (.cells #[.slice (some ⟨wc.heap.size, 0, none⟩) p p, .slice A2 8 k2] 22)).trans (Ch.of_below hb3)
    have hS3 : SumAt w3 w.heap.size bt h (.slice A1 r.length k1) r n := HS1.out.keep hC3
    have hne3 : ∀ a, A3 = some a → a.block ≠ bt ∧ some a.block ≠ (Value.slice A1 r.length k1).ownBlock := by
      intro a ha
      have hba : wc.heap.size ≤ a.block := by
        have := own_base ho3 a.block (by rw [ha]; rfl)
        have h1 := HC2.out.size
        have h2 := HB2.out.size
        simp at this
        omega
      refine ⟨by omega, fun e => ?_⟩
      have := q_lt HS1.out.own a.block e.symm
      omega
    have HS3 := Lib.hid hS3
    have HR3 := Lib.hid hr3
    have HNE3 := Lib.hid hne3
    have HC3 := Lib.hid hC3
    have HLL := Lib.hid hLl
    have HL := Lib.hid hL
    clear hS3 hr3 hne3 hC3 ho3 hb3 hL
    have hw := write_any w.heap.size bt h (.slice A1 r.length k1) r n A3 k3 L w3 HS3.out HR3.out hLb (fun a e _ => HNE3.out a e) (by omega) (by rw [HM.out]; exact hrl)
    have HW := Lib.hid hw
    clear hw hLl
    rw [HLL.out] at *
    go_wp2_with fail
    refine (HW.out).mono ?_
    rintro e w4 ⟨rfl, rest4, hS4, hC4, _⟩
    obtain ⟨h4, hh4⟩ : ∃ h4, (ab h (r ++ L)).1 = h4 := ⟨_, rfl⟩
    rw [hh4] at hS4
    have hC5 : Ch (fun _ => False) w w4 := by
      refine (HC1.out.trans HC3.out).then_ hC4 fun i hi e => ?_
      have hlo := HS1.out.low
      rcases e with e | e
      · omega
      · rcases HS1.out.own.2 with ⟨_, A', he, hA⟩ | ⟨g', off, cap, cur, he, hbg, _⟩
        · rw [he] at e
          cases A' with
          | none => simp [Value.ownBlock] at e
          | some a' => have := (hA a' rfl).1; simp [Value.ownBlock] at e; omega
        · rw [he] at e; simp [Value.ownBlock] at e; omega
    have h48 := hS4.h8
    have hix := fun (k : Nat) (hk : k < 8) => index8 h4 h48 k hk
    have hr4 := sum_range hS4.here
    have h4w := hS4.hw
    have HH4 := Lib.hid hh4
    have HR4 := Lib.hid hr4
    have H48 := Lib.hid h48
    have H4W := Lib.hid h4w
    have HIX := Lib.hid hix
    have HC5 := Lib.hid hC5
    clear hh4 hr4 h48 h4w hix hC5 hS4 hC4 HW c9 t8 hW1 hmk
    go_wp2_with (refine wpList_load_mid rfl 64 (.tmp 41) rfl bt 0 rfl (nums .u32 h4) (.array 8 46) HR4.out Try.underlying64 rfl (by rw [show (nums .u32 h4).length = 8 by simp [nums, H48.out]]; kernel_rfl) ?_)
    go_loopw [5, 7, 43] (fun v _ i wr => ∃ k : Nat, k ≤ 8 ∧ i = .int .i64 k ∧ wr.ownsRow w.heap.size 5 1 v (outTo h4 k).length (nums .u8 (outTo h4 k)) ∧ Ch (fun _ => False) w wr) (fun _ _ i _ => (8 - intOf i).toNat)
    case atStart => exact ⟨0, by omega, rfl, own_nil _ _ _ _, HC5.out⟩
    case round =>
      obtain ⟨k, hk, rfl, hown, hC⟩ := hrel
      by_cases hlt : k < 8
      · have hidx := HIX.out k hlt
        obtain ⟨n0', n1'⟩ := nt_w H4W.out k
        have hsuc := Lib.hid (outTo_succ h4 k)
        have HO := Lib.hid hown
        have HC := Lib.hid hC
        have hl : ((outTo h4 k).length + 4) * 1 ≤ 140737488355328 := by rw [outTo_length]; omega
        generalize nt h4 k = x at *
        generalize outTo h4 k = ys at *
        clear hown hC
        go_wp2_with (first | (go_at_call 37; refine (put_any _ _ (by omega) (by omega)).mono ?_; rintro e w' ⟨rfl, rfl⟩) | (at_builtin; refine print_append_row (w0 := w) w.heap.size rfl _ _ 22 5 .u8 1 rfl Try.underlying22 info_u8 (by decide) _ _ ((putBytes x).drop 4) _ _ _ rfl rfl (HO.out.alloc _) (put_tail x _) (HC.out.below.alloc HC.out.size _) (Nat.le_trans HC.out.size (by simp)) hl ?_; intro v1 w1 hown1 hB1 _ _))
        go_roundw
        case rel => exact ⟨k + 1, by omega, by go_num, by rw [hsuc.out]; exact hown1, Ch.of_below hB1⟩
        case measure => simp [intOf]; omega
      · obtain rfl : k = 8 := by omega
        have HO := Lib.hid hown
        have HC := Lib.hid hC
        clear hown hC
        go_wp2
        go_ret
        refine ⟨_, rfl, ?_, HC.out.below⟩
        have := HO.out
        rw [outTo_length] at this
        rw [show 128 :: (List.replicate ((119 - r.length) % 64) 0 ++ putBytes (8 * n)) = L by rw [← HL.out, HM.out, show (119 - m) % 64 = p - 1 by have := HP.out; omega]; simp, HH4.out]
        exact this

/-! ### Of -/
theorem ab_append (h m l : List Int) : ab h (m ++ l) = ab (ab h m).1 ((ab h m).2 ++ l) := by
  obtain ⟨n, hn⟩ : ∃ n, m.length < 64 * (n + 1) := ⟨m.length, by omega⟩
  induction n generalizing h m with
  | zero => rw [ab_less h m (by omega)]
  | succ n ih =>
    by_cases hm : 64 ≤ m.length
    · rw [ab_more h (m ++ l) (by simp; omega), ab_more h m hm, List.take_append_of_le_length hm, List.drop_append_of_le_length hm]
      exact ih _ _ (by simp; omega)
    · rw [ab_less h m (by omega)]
theorem ab_rest (h m : List Int) : (ab h m).2.length < 64 ∧ (ab h m).2.length = m.length % 64 := by
  obtain ⟨n, hn⟩ : ∃ n, m.length < 64 * (n + 1) := ⟨m.length, by omega⟩
  induction n generalizing h m with
  | zero => rw [ab_less h m (by omega)]; dsimp only; omega
  | succ n ih =>
    by_cases hm : 64 ≤ m.length
    · rw [ab_more h m hm]
      have := ih (blk kst h (m.take 64)) (m.drop 64) (by simp; omega)
      rw [List.length_drop] at this
      omega
    · rw [ab_less h m (by omega)]; dsimp only; omega
theorem sha_eq (m : List Int) : sha m = out32 (ab (ab h0s m).1 ((ab h0s m).2 ++ 128 :: (List.replicate ((119 - (ab h0s m).2.length) % 64) 0 ++ putBytes (8 * m.length)))).1 := by
  rw [← ab_append, (ab_rest h0s m).2]
  unfold sha
  show out32 (absorb kst (m.length + 64) h0s (padded m)).1 = _
  rw [absorb_fuel kst (m.length + 64) (padded m).length h0s (padded m) (by simp [padded, putBytes_length]; omega) (by omega)]
  rfl
set_option maxHeartbeats 1000000 in
theorem of_any (A : Option Addr) (n c : Nat) (ls : List (List Int)) (w : World) (hr : Rows2 w A n ls) (hs : ls.flatten.length < 100000000) (hb : ∀ l ∈ ls, Bs l) :
    Calls Try.prog 9 #[.slice A n c] w fun e w' => ∃ v, e = .returned v ∧ w'.ownsRow w.heap.size 5 1 v 32 (nums .u8 (sha ls.flatten)) ∧ Below w.heap.size w w' := by
  have HR := Lib.hid hr.2.2
  have HN := Lib.hid hr.1
  have hn := hr.2.1
  clear hr
  have HBB := Lib.hid hb
  clear hb
  go_enter Try.func9, Try.ntmps9
  go_wp2_with (go_at_call 21; refine (new_any _).mono ?_; rintro e w1 ⟨rfl, hS, hB⟩; have HS1 := Lib.hid hS; have HB1 := Lib.hid hB; clear hS hB)
  go_loopw [5, 9] (fun _ i wr => ∃ (k : Nat) (rest : Value), k ≤ n ∧ i = .int .i64 k ∧ SumAt wr w.heap.size w.heap.size (ab h0s (catTo ls k)).1 rest (ab h0s (catTo ls k)).2 (catTo ls k).length ∧ Ch (fun _ => False) w wr) (fun _ i _ => n - (intOf i).toNat)
  case atStart => exact ⟨0, _, by omega, rfl, HS1.out, Ch.of_below HB1.out⟩
  case round =>
    obtain ⟨k, rest, hk, rfl, hS, hC⟩ := hrel
    by_cases hlt : k < n
    · obtain ⟨ad, hA, hcs⟩ := HR.out (by omega)
      obtain ⟨Aj, cj, hcell, hrd⟩ := hcs k hlt
      subst hA
      have hcell' := hC.cell hcell (fun h => h)
      have hrd' := hC.reads hrd (fun _ _ h => h)
      have hsz := catTo_row_le ls k (by rw [HN.out]; omega)
      have hbl : Bs (ls.getD k []) := by
        have hkl : k < ls.length := by rw [HN.out]; exact hlt
        rw [show ls.getD k [] = ls[k] by simp [List.getD_eq_getElem?_getD, List.getElem?_eq_getElem hkl]]
        exact HBB.out _ (List.getElem_mem hkl)
      have hfar : ∀ a, Aj = some a → 0 < (ls.getD k []).length → a.block < w.heap.size := by
        intro a ha hpos
        obtain ⟨a', ha', hcc⟩ := hrd.2.2 hpos
        rw [ha] at ha'
        injection ha' with ha'
        subst ha'
        have := World.block_lt_of_cell? w _ (hcc 0 hpos)
        simpa [Addr.add] using this
      have hlow : ∀ b, rest.ownBlock = some b → w.heap.size ≤ b := by
        intro b hb
        rcases hS.own.2 with ⟨_, A', he, hA⟩ | ⟨g', off, cap, cur, he, hbg, _⟩
        · rw [he] at hb
          cases A' with
          | none => simp [Value.ownBlock] at hb
          | some a' => have := (hA a' rfl).1; simp [Value.ownBlock] at hb; omega
        · rw [he] at hb; simp [Value.ownBlock] at hb; omega
      have hw := write_any w.heap.size w.heap.size _ rest _ _ Aj cj (ls.getD k []) wr hS hrd' hbl (fun a ha hp => ⟨by have := hfar a ha hp; omega, fun e => by have := hfar a ha hp; have := hlow _ e.symm; omega⟩) (by omega) (ab_rest _ _).1
      rw [← ab_append, ← catTo_succ ls k (by rw [HN.out]; omega)] at hw
      have HW := Lib.hid hw
      have HC := Lib.hid hC
      have HLO := Lib.hid hlow
      have hcl : ((catTo ls k).length : Int) + (ls.getD k []).length = ((catTo ls (k + 1)).length : Int) := by rw [catTo_succ ls k (by rw [HN.out]; omega)]; simp
      have HCL := Lib.hid hcl
      generalize ls.getD k [] = y at *
      clear hw hC hlow hcs hcell hrd hrd' hbl hfar hsz hcl hS
      go_wp2_with (go_at_call 22; refine (HW.out).mono ?_; rintro e w3 ⟨rfl, rest3, hS3, hC3, _⟩; have HS3 := Lib.hid hS3; have HC3 := Lib.hid hC3; clear hS3 hC3)
      go_roundw
      case rel =>
        refine ⟨k + 1, rest3, by omega, by go_num, by rw [← HCL.out]; exact HS3.out, HC.out.then_ HC3.out fun i hi e => ?_⟩
        rcases e with e | e
        · omega
        · have := HLO.out i e.symm; omega
      case measure => simp [intOf]; omega
    · obtain rfl : k = n := by omega
      have HS := Lib.hid hS
      have HC := Lib.hid hC
      have hall : catTo ls k = ls.flatten := by simp [catTo, ← HN.out]
      have hd := digest_any w.heap.size w.heap.size _ rest _ _ wr hS (ab_rest _ _).1 (by rw [hall]; omega)
      rw [hall, ← sha_eq] at hd
      have HD := Lib.hid hd
      clear hS hC hd hall
      go_wp2_with (go_at_call 23; refine (HD.out).mono ?_; rintro e w2 ⟨v, rfl, ho, hb⟩; have HO := Lib.hid ho; have HB2 := Lib.hid hb; clear ho hb)
      go_ret
      refine ⟨_, rfl, ?_, (HC.out.trans (Ch.of_below HB2.out)).below⟩
      exact own_weaken HO.out HC.out.size
end Go.Proofs.Ytejhjlfakfaegaa
