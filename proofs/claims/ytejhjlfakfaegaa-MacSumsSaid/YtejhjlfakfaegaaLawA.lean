/- aes: the example that each statement begins with. -/
import Derived.Test.YtejhjlfakfaegaaAesE
import Derived.Test.YtejhjlfakfaegaaBase
set_option linter.unusedSimpArgs false
set_option linter.unusedVariables false
namespace Go.Proofs.Ytejhjlfakfaegaa
open Go.RowKit Go.Proofs.YtejhjlfakfaegaaW.PrintWords

/-- New, as others use it -/
theorem new5_at (l : List Int) (w : World) (hl : l.length = 16) (hb : Bs l) :
    Calls Try.prog 13 #[.agg (nums .u8 l).toArray] w fun e w' =>
      ∃ g bg, e = .returned (.pointer (some ⟨g, 0, none⟩)) ∧ CipherAt w' g bg (kGo l 160) ∧ w.heap.size ≤ g ∧ w.heap.size ≤ bg ∧ Ch (fun _ => False) w w' :=
  (new5_any l w hl hb).mono fun e w' ⟨g, bg, h1, h2, h3, h4, h5, h6⟩ => ⟨g, bg, h1, ⟨h2, h3, by rw [kGo_len, hl], kGo_bs l hb 160⟩, h4, h5, h6⟩
theorem wpList_load_mid_g {P : Program} {ops : Array Oper} {rest : List Oper} {op : Oper} {a : Act} {w : World} {Q : Exit → Act → World → Prop} (hw : Region.wanted op (yielded ops a.tmps) = true) (ty : TypeId) (x : Operand) (ho : op.op = .load ty x)
    (b o : Nat) (hx : a.eval x = .pointer (some ⟨b, o, none⟩)) (cs : List Value) (d : TypeDesc) (hc : w.rangeAt b o cs)
    (hu : P.underlying ty = some d) (hd : d.isRow = true) (hi : (P.info? ty).map (·.size) = some cs.length)
    (h : wpList P ops Q rest (a.put op.dst (.agg cs.toArray)) w) : wpList P ops Q (op :: rest) a w :=
  BigFrame.wpList_want hw fun _ hK => wp_load_mid ty x ho b o hx cs d hc hu hd hi (hK _ _ h)
theorem blk_set_of {w w' : World} {g i : Nat} {v : Value} {o : Obj} (h : w.heap[g]? = w'.heap[g]?) (e : (w'.setCell ⟨g, i, none⟩ v).heap[g]? = some o) : (w.setCell ⟨g, i, none⟩ v).heap[g]? = some o := by
  rw [← e]
  show (w.heap.modify _ _)[g]? = (w'.heap.modify _ _)[g]?
  rw [Array.getElem?_modify, Array.getElem?_modify, h]
def ka : List Int := all16 fun i => (i : Int)
def ba : List Int := all16 fun i => (17 * i : Int)
theorem ka_b : Bs ka := by unfold Bs; decide +kernel
theorem ba_b : Bs ba := by unfold Bs; decide +kernel
theorem aes_example : nt (blk5 (kGo ka 160) ba) 0 = 105 ∧ nt (blk5 (kGo ka 160) ba) 1 = 196 ∧ nt (blk5 (kGo ka 160) ba) 2 = 224 ∧ nt (blk5 (kGo ka 160) ba) 15 = 90 := by decide +kernel
set_option maxRecDepth 100000 in
set_option maxHeartbeats 4000000 in
theorem alive5_any (w : World) :
    Calls Try.prog 12 #[] w fun e w' => e = .returned (.bool true) ∧ Below w.heap.size w w' := by
  go_enter Try.func12, Try.ntmps12
  go_upto_region 2 with fail
  refine wp_named _ fun w1 hw1 => ?_
  have hA1 : w1.heap[w.heap.size]? = some (.cells (nums .u8 (mapTo (fun i => (i : Int)) z16 0)).toArray 30 (0, 0)) := by rw [hw1]; exact heap_alloc2_old _ _ _
  have hB1 : w1.heap[w.heap.size + 1]? = some (.cells (nums .u8 (mapTo (fun i => (17 * i : Int)) z16 0)).toArray 30 (0, 0)) := by rw [hw1]; exact heap_alloc2_new _ _ _
  have hC1 : Ch (fun _ => False) w w1 := by rw [hw1]; exact ((Ch.refl _ _).alloc _).alloc _
  obtain ⟨ga, hga⟩ : ∃ ga, w.heap.size = ga := ⟨_, rfl⟩
  obtain ⟨gb, hgb⟩ : ∃ gb, ga + 1 = gb := ⟨_, rfl⟩
  rw [hga] at hA1 hB1 ⊢
  rw [hgb] at hB1 ⊢
  have HA1 := Lib.hid hA1
  have HB1 := Lib.hid hB1
  have HC1 := Lib.hid hC1
  have HG : Hid (ga = w.heap.size ∧ gb = ga + 1) := Lib.hid ⟨hga.symm, hgb.symm⟩
  clear hw1 hA1 hB1 hC1 hga hgb
  go_wp2
  go_loopw [3, 8] (fun _ i wr => ∃ k : Nat, k ≤ 16 ∧ i = .int .i64 k ∧ wr.heap[ga]? = some (.cells (nums .u8 (mapTo (fun i => (i : Int)) z16 k)).toArray 30 (0, 0)) ∧ wr.heap[gb]? = some (.cells (nums .u8 (mapTo (fun i => (17 * i : Int)) z16 k)).toArray 30 (0, 0)) ∧ Ch (fun _ => False) w wr) (fun _ i _ => (16 - intOf i).toNat)
  case atStart => exact ⟨0, by omega, rfl, HA1.out, HB1.out, HC1.out⟩
  case round =>
    obtain ⟨k, hk, rfl, hA, hB, hC⟩ := hrel
    clear HA1 HB1 HC1
    have HA := Lib.hid hA
    have HB := Lib.hid hB
    have HC := Lib.hid hC
    clear hA hB hC
    by_cases hlt : k < 16
    · have c1 := blk_nums HA.out k (by rw [mapTo_len]; exact hlt)
      have c2 := blk_nums HB.out k (by rw [mapTo_len]; exact hlt)
      have f1 : wr.frozen? ⟨ga, k, none⟩ = false := blk_frozen HA.out _
      have f2 : wr.frozen? ⟨gb, k, none⟩ = false := blk_frozen HB.out _
      have hne : gb ≠ ga := by have := HG.out; omega
      go_wp2
      have e1 := blk_set HA.out k (.int .u8 (k : Int))
      rw [nums_set, mapTo_set (fun i => (i : Int)) z16 k hlt] at e1
      have e2 := blk_set HB.out k (.int .u8 (17 * (k : Int)))
      rw [nums_set, mapTo_set (fun i => (17 * i : Int)) z16 k hlt] at e2
      refine ⟨⟨k + 1, by omega, by go_num, ?_, ?_, (HC.out.setCell (.inr (by have := HG.out; show w.heap.size ≤ ga; omega)) _).setCell (.inr (by have := HG.out; show w.heap.size ≤ gb; omega)) _⟩, by simp [intOf]; omega⟩
      · exact (Below.heap_setCell _ _ _ _ (by show ga ≠ gb; omega)).trans e1
      · refine blk_set_of ?_ e2
        exact Below.heap_setCell _ _ _ _ (by show gb ≠ ga; omega)
    · obtain rfl : k = 16 := by omega
      rw [show ((16 : Nat) : Int) = 16 from rfl]
      have hA := HA.out
      have hB := HB.out
      rw [mapTo_16] at hA hB
      have HA := Lib.hid (show wr.heap[ga]? = some (.cells (nums .u8 ka).toArray 30 (0, 0)) from hA)
      have HB := Lib.hid (show wr.heap[gb]? = some (.cells (nums .u8 ba).toArray 30 (0, 0)) from hB)
      clear hA hB hlt hk
      have HKL : Hid (ka.length = 16) := Lib.hid (all16_len _)
      have HBL : Hid (ba.length = 16) := Lib.hid (all16_len _)
      have HNW := Lib.hid (new5_at ka wr HKL.out ka_b)
      have hex := aes_example
      have HX := Lib.hid hex
      clear hex
      have hKK : Hid (True) := Lib.hid trivial
      generalize hka : ka = A at *
      generalize hba : ba = B at *
      have HKB : Hid (Bs A) := by rw [← hka]; exact Lib.hid ka_b
      have HBB : Hid (Bs B) := by rw [← hba]; exact Lib.hid ba_b
      clear hka hba
      go_wp2_with (first
        | (refine wpList_load_mid rfl 30 (.tmp 1) rfl ga 0 rfl (nums .u8 A) (.array 16 5) (range_nums HA.out) Try.underlying30 rfl (by rw [nums_len, HKL.out]; kernel_rfl) ?_)
        | (go_at_call 13; with_reducible refine (HNW.out).mono ?_; rintro e w2 ⟨g, bg, rfl, hci, hg1, hg2, hc⟩; have HCI := Lib.hid hci; have HG2 := Lib.hid (And.intro hg1 hg2); have HC2 := Lib.hid (HC.out.trans hc); have HA2 := Lib.hid (hc.blk HA.out (fun h => h)); have HB2 := Lib.hid (hc.blk HB.out (fun h => h)); clear hci hg1 hg2 hc)
        | (refine wpList_load_mid rfl 30 (.tmp 2) rfl gb 0 rfl (nums .u8 B) (.array 16 5) (range_nums HB2.out) Try.underlying30 rfl (by rw [nums_len, HBL.out]; kernel_rfl) ?_))
      have HBK := Lib.hid (block5_any g bg (kGo A 160) B w2 HCI.out HBL.out HBB.out)
      have HPL : Hid ((blk5 (kGo A 160) B).length = 16) := Lib.hid (blkTo_len _ _ 10)
      have HPB : Hid (Bs (blk5 (kGo A 160) B)) := Lib.hid (blkTo_bs _ _ 10)
      generalize blk5 (kGo A 160) B = pd at *
      clear HNW HKL HKB HA
      refine (HBK.out).mono ?_
      rintro e w3 ⟨rfl, hc3⟩
      have HC3 := Lib.hid hc3
      clear hc3 HBK
      go_wp2_with (first
        | (refine Great.wpList_runTo rfl (some 5) rfl (.pointer (some ⟨w3.heap.size, 0, none⟩)) (w3.alloc (.cells (nums .u8 z16).toArray 30)) (by kernel_rfl) ?_)
        | (refine wpList_store_row rfl 30 (.tmp 5) (.tmp 27) rfl w3.heap.size (nums .u8 pd).toArray rfl rfl 30 (nums .u8 z16).toArray (heap_alloc_new _ _) (by rw [List.size_toArray, nums_len, HPL.out]; kernel_rfl) (by simp [nums, HPL.out, z16]) (all_nums _ _) ?_; rw [setRow_alloc]; obtain ⟨w4, hw4⟩ : ∃ w4, w3.alloc (.cells (nums .u8 pd).toArray 30) = w4 := ⟨_, rfl⟩; rw [hw4]; (have HP4 : Hid (w4.heap[w3.heap.size]? = some (.cells (nums .u8 pd).toArray 30 (0, 0))) := by rw [← hw4]; exact Lib.hid (heap_alloc_new _ _)); (have HC4 : Hid (Ch (fun _ => False) w2 w4) := by rw [← hw4]; exact Lib.hid (HC3.out.alloc _)); (have HB4 : Hid (w4.heap[gb]? = some (.cells (nums .u8 B).toArray 30 (0, 0))) := Lib.hid (HC4.out.blk HB2.out (fun h => h))); (have c0 : w4.cell? ⟨w3.heap.size, 0, none⟩ = some (.int .u8 105) := by rw [blk_nums HP4.out 0 (by rw [HPL.out]; decide), HX.out.1]); (have c1 : w4.cell? ⟨w3.heap.size, 1, none⟩ = some (.int .u8 196) := by rw [blk_nums HP4.out 1 (by rw [HPL.out]; decide), HX.out.2.1]); (have c2 : w4.cell? ⟨w3.heap.size, 2, none⟩ = some (.int .u8 224) := by rw [blk_nums HP4.out 2 (by rw [HPL.out]; decide), HX.out.2.2.1]); (have c15 : w4.cell? ⟨w3.heap.size, 15, none⟩ = some (.int .u8 90) := by rw [blk_nums HP4.out 15 (by rw [HPL.out]; decide), HX.out.2.2.2]); clear hw4)
        | (refine wpList_load_mid_g rfl 30 (.tmp 2) rfl gb 0 rfl (nums .u8 B) (.array 16 5) (range_nums HB4.out) Try.underlying30 rfl (by rw [nums_len, HBL.out]; kernel_rfl) ?_))
      have hlit : ReadsInt (w4.alloc (.cells #[.int .u8 1, .int .u8 2, .int .u8 3] 5)) .u8 (some ⟨w4.heap.size, 0, none⟩) 3 [1, 2, 3] := rd_own (own_lit w4 0 5 .u8 [1, 2, 3] (by omega) (by decide))
      refine (stream5_any g bg (kGo A 160) B [1, 2, 3] _ 3 3 _ ((HCI.out.keep HC4.out).keep ((Ch.refl _ _).alloc _)) HBL.out HBB.out hlit (by unfold Bs; decide) (by decide)).mono ?_
      rintro e w5 ⟨v5, rfl, ho5, hc5⟩
      obtain ⟨A5, c5, rfl, -⟩ := q_slice (q_of_own ho5)
      have HC5 := Lib.hid hc5
      clear ho5 hc5 hlit
      go_wp2
      go_ret
      exact ⟨rfl, ((HC2.out.trans HC4.out).trans (((Ch.refl _ _).alloc _).trans HC5.out)).below⟩
end Go.Proofs.Ytejhjlfakfaegaa
