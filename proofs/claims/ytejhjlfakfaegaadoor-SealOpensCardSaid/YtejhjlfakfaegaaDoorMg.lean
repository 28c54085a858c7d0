/- The walk of SealOpens: of all bytes what is in them, as a box of a key and usage, is as the document says. -/
import Derived.Test.YtejhjlfakfaegaaDoorMf
set_option linter.unusedSimpArgs false
set_option linter.unusedVariables false
namespace Go.Proofs.YtejhjlfakfaegaaDoor
open Go.RowKit Go.Proofs.YtejhjlfakfaegaaDoorW.PrintWords

set_option maxRecDepth 100000 in
set_option maxHeartbeats 4000000 in
theorem sealOpens_any (k : List Int) (u : Int) (A : Option Addr) (n c : Nat) (box : List Int) (w : World) (hk : k.length = 16) (hkb : Bs k) (h0 : -9223372036854775808 ≤ u) (h1 : u ≤ 9223372036854775807) (hr : ReadsInt w .u8 A n box) (hbb : Bs box) (hnc : n ≤ c) (ht : Tab w) :
    Calls Tryd.prog 3 #[.agg (nums .u8 k).toArray, .int .i64 u, .slice A n c] w fun e w' => e = .returned (.bool true) ∧ Below w.heap.size w w' := by
  have HK := Lib.hid hk
  have HKB := Lib.hid hkb
  have HR := Lib.hid hr
  have HBB := Lib.hid hbb
  have HT := Lib.hid ht
  have HL0 := Lib.hid (tab_lt ht)
  have hm := hr.2.1
  clear hk hkb hr hbb ht
  go_enter Tryd.func3, Tryd.ntmps3
  go_wp2_with fail
  refine call_named fun w1 hw1 => ?_
  have hC1 : Ch (fun _ => False) w w1 := by rw [hw1]; exact (Ch.refl _ _).alloc _
  have hK1 : w1.heap[w.heap.size]? = some (.cells (nums .u8 k).toArray 22 (0, 0)) := by rw [hw1]; exact heap_alloc_new _ _
  obtain ⟨gk, hgk⟩ : ∃ gk, w.heap.size = gk := ⟨_, rfl⟩
  rw [hgk] at hK1 ⊢
  have HGK := Lib.hid hgk
  have HC1 := Lib.hid hC1
  have HK1 := Lib.hid hK1
  clear hw1 hC1 hK1 hgk
  have HX := alive6_any w1 (tab_ch HC1.out (fun h => h) HT.out)
  with_reducible refine HX.mono ?_
  clear HX
  rintro e w2 ⟨rfl, hb⟩
  have hc := Ch.of_below (S := fun _ => False) hb
  have HC2 := Lib.hid (HC1.out.trans hc)
  have HK2 := Lib.hid (hc.blk HK1.out (fun h => h))
  clear hb hc HC1 HK1
  by_cases hbig : 600 < n
  · go_wp2
    go_ret
    exact ⟨rfl, HC2.out.below⟩
  · have hn : n < 10000 := by omega
    have hbd : decide (600 < (n : Int)) = false := by simp; omega
    go_upto_region 5 with fail
    have huk := Tryd.underlying22
    have hik : (Tryd.prog.info? 22).map (·.size) = some (nums .u8 k).length := by rw [nums_len, HK.out]; kernel_rfl
    refine wp_region_held_drew (S := fun W => Ch (fun _ => False) w W ∧ W.rangeAt gk 0 (nums .u8 k)) (by kernel_rfl) ?_ (fun hHeld => ?_)
    · exact ⟨HC2.out.drew, range_nums HK2.out⟩
    refine wpAnyH_take (i := 1) (v := .agg (nums .u8 k).toArray) rfl (by kernel_rfl) (by kernel_rfl) (by kernel_rfl) (fun _ _ _ h => h) ?_ (by assumption) ?_
    · refine yieldsIf_load_mid (by rfl) 22 (.tmp 3) rfl gk 0 rfl (nums .u8 k) _ (fun w hSw => ?_) huk rfl hik
      (try dsimp only at hSw)
      go_split_ands
      assumption
    try simp only [Act.put, List.getElem_toArray, List.getElem_cons_succ, List.getElem_cons_zero, List.setIfInBounds_toArray, List.set_cons_zero, List.set_cons_succ]
    refine wpAnyH_take (i := 2) (v := ?_) rfl (by kernel_rfl) (by kernel_rfl) (by kernel_rfl) (fun _ _ _ h => h) (Or.inl ⟨by rfl, ?_⟩) (by assumption) ?_
    rotate_left
    · intro w hSw
      (try dsimp only at hSw)
      go_simp
      first | done | with_reducible rfl
    try simp only [Act.put, List.getElem_toArray, List.getElem_cons_succ, List.getElem_cons_zero, List.setIfInBounds_toArray, List.set_cons_zero, List.set_cons_succ]
    refine wpAnyH_take (i := 3) (v := ?_) rfl (by kernel_rfl) (by kernel_rfl) (by kernel_rfl) (fun _ _ _ h => h) (Or.inl ⟨by rfl, ?_⟩) (by assumption) ?_
    rotate_left
    · intro w hSw
      (try dsimp only at hSw)
      go_simp
      first | done | with_reducible rfl
    try simp only [Act.put, List.getElem_toArray, List.getElem_cons_succ, List.getElem_cons_zero, List.setIfInBounds_toArray, List.set_cons_zero, List.set_cons_succ]
    refine wpAnyH_ready (rs := [0]) (by kernel_rfl) (by simp) ?_
    refine AllReadyH.cons rfl (fun K hK => ?_) AllReadyH.nil
    go_simp
    have HX := snew_any none 0 0 [] w2.drew ⟨rfl, by decide, fun h => by omega⟩ (by unfold Bs; decide) (by decide) (by have := HC2.out.size; have := HL0.out; show _ < w2.heap.size; omega)
    with_reducible refine HX.mono ?_
    clear HX
    rintro e w3 ⟨g, A3, c3, rfl, -, -, hc⟩
    have HC3 := Lib.hid (HC2.out.drew.trans hc)
    have HK3 := Lib.hid (hc.blk (w := w2.drew) HK2.out (fun h => h))
    clear hc HC2 HK2
    refine hK.out _ _ ⟨HC3.out, range_nums HK3.out⟩ (fun hHeld => ?_)
    clear hK K
    refine wpAnyH_ready (rs := [4]) (by kernel_rfl) (by simp) ?_
    refine AllReadyH.cons rfl (fun K hK => ?_) AllReadyH.nil
    go_simp
    have HX := sopen_any (.pointer (some ⟨g, 0, none⟩)) k u A n c box w3 HK.out HKB.out h0 h1 (HC3.out.reads HR.out (fun _ _ h => h)) HBB.out hnc hn (tab_ch HC3.out (fun h => h) HT.out)
    with_reducible refine HX.mono ?_
    clear HX
    rintro e w4 ⟨Ao, no, co, rfl, hro, hc⟩
    have HO4 := Lib.hid hro
    have HC4 := Lib.hid (HC3.out.trans hc)
    have HK4 := Lib.hid (hc.blk HK3.out (fun h => h))
    clear hro hc HC3 HK3
    refine hK.out _ _ ⟨HC4.out, range_nums HK4.out⟩ (fun hHeld => ?_)
    clear hK K
    refine wpAnyH_take (i := 5) (v := ?_) rfl (by kernel_rfl) (by kernel_rfl) (by kernel_rfl) (fun _ _ _ h => h) (Or.inl ⟨by rfl, ?_⟩) (by assumption) ?_
    rotate_left
    · intro w hSw
      (try dsimp only at hSw)
      go_simp
      first | done | with_reducible rfl
    try simp only [Act.put, List.getElem_toArray, List.getElem_cons_succ, List.getElem_cons_zero, List.setIfInBounds_toArray, List.set_cons_zero, List.set_cons_succ]
    refine wpAnyH_take (i := 6) (v := ?_) rfl (by kernel_rfl) (by kernel_rfl) (by kernel_rfl) (fun _ _ _ h => h) (Or.inl ⟨by rfl, ?_⟩) (by assumption) ?_
    rotate_left
    · intro w hSw
      (try dsimp only at hSw)
      go_simp
      first | done | with_reducible rfl
    try simp only [Act.put, List.getElem_toArray, List.getElem_cons_succ, List.getElem_cons_zero, List.setIfInBounds_toArray, List.set_cons_zero, List.set_cons_succ]
    refine wpAnyH_take (i := 7) (v := ?_) rfl (by kernel_rfl) (by kernel_rfl) (by kernel_rfl) (fun _ _ _ h => h) (Or.inl ⟨by rfl, ?_⟩) (by assumption) ?_
    rotate_left
    · intro w hSw
      (try dsimp only at hSw)
      go_simp
      first | done | with_reducible rfl
    try simp only [Act.put, List.getElem_toArray, List.getElem_cons_succ, List.getElem_cons_zero, List.setIfInBounds_toArray, List.set_cons_zero, List.set_cons_succ]
    refine wpAnyH_take (i := 8) (v := ?_) rfl (by kernel_rfl) (by kernel_rfl) (by kernel_rfl) (fun _ _ _ h => h) (Or.inl ⟨by rfl, ?_⟩) (by assumption) ?_
    rotate_left
    · intro w hSw
      (try dsimp only at hSw)
      go_simp
      first | done | with_reducible rfl
    try simp only [Act.put, List.getElem_toArray, List.getElem_cons_succ, List.getElem_cons_zero, List.setIfInBounds_toArray, List.set_cons_zero, List.set_cons_succ]
    refine wpAnyH_take (i := 9) (v := ?_) rfl (by kernel_rfl) (by kernel_rfl) (by kernel_rfl) (fun _ _ _ h => h) (Or.inl ⟨by rfl, ?_⟩) (by assumption) ?_
    rotate_left
    · intro w hSw
      (try dsimp only at hSw)
      go_simp
      first | done | with_reducible rfl
    try simp only [Act.put, List.getElem_toArray, List.getElem_cons_succ, List.getElem_cons_zero, List.setIfInBounds_toArray, List.set_cons_zero, List.set_cons_succ]
    refine wpAnyH_done (by kernel_rfl) ?_ _
    go_wp2_with fail
    have HX := ropen_any (some ⟨gk, 0, none⟩) 16 k u A n c box w4 (reads_blk HK4.out HK.out (by decide)) HKB.out h0 h1 (HC4.out.reads HR.out (fun _ _ h => h)) HBB.out hnc hn
    with_reducible refine HX.mono ?_
    clear HX
    rintro e w5 ⟨Ar, nr, cr, rfl, hrr, hc⟩
    have HO5 := Lib.hid (hc.reads HO4.out (fun _ _ h => h))
    have HR5 := Lib.hid hrr
    have HC5 := Lib.hid (HC4.out.trans hc)
    clear hrr hc HO4 HC4 HK4
    generalize openB k u box = o at *
    have hoo : (o.isSome == o.isSome) = true := by simp
    go_wp2_with fail
    have hno : nr = no := by rw [← HR5.out.1, ← HO5.out.1]
    subst hno
    have HX := same_yes Ao Ar nr co cr (o.getD []) w5 HO5.out HR5.out
    with_reducible refine HX.mono ?_
    clear HX
    rintro e w6 ⟨rfl, q6, rfl⟩
    go_wp2
    go_ret
    exact ⟨rfl, (HC5.out.drewN q6).below⟩
end Go.Proofs.YtejhjlfakfaegaaDoor
