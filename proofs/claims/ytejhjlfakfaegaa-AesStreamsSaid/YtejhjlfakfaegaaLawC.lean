/- The walk of AesStreams: of all keys and bytes what they become is as the document says. -/
import Derived.Test.YtejhjlfakfaegaaPureS
import Derived.Test.YtejhjlfakfaegaaRefZ
import Derived.Test.YtejhjlfakfaegaaLawB
set_option linter.unusedSimpArgs false
set_option linter.unusedVariables false
namespace Go.Proofs.Ytejhjlfakfaegaa
open Go.RowKit Go.Proofs.YtejhjlfakfaegaaW.PrintWords Go.Proofs.Ytejhjlfakfaegaa.PAesStreams

theorem rstream_any (key f b : List Int) (A0 A1 A2 A3 : Option Addr) (c0 c1 c2 c3 n : Nat) (w : World) (h0 : ReadsInt w .u8 A0 256 sbl) (h1 : ReadsInt w .u8 A1 16 key) (h2 : ReadsInt w .u8 A2 16 f) (h3 : ReadsInt w .u8 A3 n b)
    (hc0 : 256 ≤ c0) (hc1 : 16 ≤ c1) (hc2 : 16 ≤ c2) (hc3 : n ≤ c3) (hkb : Bs key) (hfb : Bs f) (hn : n < 1000000) :
    Calls Try.prog 15 #[.slice A0 256 c0, .slice A1 16 c1, .slice A2 16 c2, .slice A3 n c3] w fun e w' => ∃ v, e = .returned v ∧ w'.ownsRow w.heap.size 5 1 v n (nums .u8 (strm (kGo key 160) f b)) ∧ Below w.heap.size w w' := by
  have e0 := h0.1
  have e1 := h1.1
  have e2 := h2.1
  have e3 := h3.1
  obtain ⟨K, hK⟩ := streamP key f b e1 hkb e2 hfb (by omega)
  have := compeerref05_Stream.calls K A0 c0 sbl A1 c1 key A2 c2 f A3 c3 b _ w (Kd.C_of_reads (d := (0 : Int)) (h1 := fun _ => rfl) (by rw [e0]; exact h0)) (by omega) (Kd.C_of_reads (d := (0 : Int)) (h1 := fun _ => rfl) (by rw [e1]; exact h1)) (by omega) (Kd.C_of_reads (d := (0 : Int)) (h1 := fun _ => rfl) (by rw [e2]; exact h2)) (by omega) (Kd.C_of_reads (d := (0 : Int)) (h1 := fun _ => rfl) (by rw [e3]; exact h3)) (by omega) hK
  rw [e0, e1, e2, e3] at this
  refine this.mono fun e w' ⟨v, he, hR, hB⟩ => ⟨v, he, ?_, hB⟩
  have := Kd.own_of_R hR
  rw [strm_len, e3] at this
  exact this
set_option maxRecDepth 100000 in
set_option maxHeartbeats 4000000 in
theorem aesStreams_law (k f : List Int) (A : Option Addr) (n c : Nat) (b : List Int) (w : World) (hk : k.length = 16) (hkb : Bs k) (hl : f.length = 16) (hf : Bs f) (hr : ReadsInt w .u8 A n b) (hb : Bs b) (hnc : n ≤ c) :
    Calls Try.prog 4 #[.agg (nums .u8 k).toArray, .agg (nums .u8 f).toArray, .slice A n c] w fun e w' => e = .returned (.bool true) ∧ Below w.heap.size w w' := by
  have HR := Lib.hid hr
  have HL := Lib.hid hl
  have HK := Lib.hid hk
  have hm := hr.2.1
  clear hr hl hk
  go_enter Try.func4, Try.ntmps4
  go_upto_region 1 with fail
  refine wp_named _ fun w1 hw1 => ?_
  have hK1 : w1.heap[w.heap.size]? = some (.cells (nums .u8 k).toArray 30 (0, 0)) := by rw [hw1]; exact heap_alloc2_old _ _ _
  have hF1 : w1.heap[w.heap.size + 1]? = some (.cells (nums .u8 f).toArray 30 (0, 0)) := by rw [hw1]; exact heap_alloc2_new _ _ _
  have hC1 : Ch (fun _ => False) w w1 := by rw [hw1]; exact ((Ch.refl _ _).alloc _).alloc _
  obtain ⟨gk, hgk⟩ : ∃ gk, w.heap.size = gk := ⟨_, rfl⟩
  obtain ⟨gf, hgf⟩ : ∃ gf, gk + 1 = gf := ⟨_, rfl⟩
  rw [hgk] at hK1 hF1 ⊢
  rw [hgf] at hF1 ⊢
  have HK1 := Lib.hid hK1
  have HF1 := Lib.hid hF1
  have HC1 := Lib.hid hC1
  have HAL := Lib.hid (alive5_any w1)
  have HG := Lib.hid hgk
  clear hw1 hK1 hF1 hC1 hgk hgf
  by_cases hbig : 400 < n
  · go_wp2_with (go_at_call 12; with_reducible refine (HAL.out).mono ?_; rintro e w2 ⟨rfl, hB⟩; have HB2 := Lib.hid hB; clear hB)
    go_ret
    exact ⟨rfl, (HC1.out.trans (Ch.of_below HB2.out)).below⟩
  have hnn : n < 1000000 := by omega
  have hbd : decide (400 < (n : Int)) = false := by simp; omega
  go_wp2_with (go_at_call 12; with_reducible refine (HAL.out).mono ?_; rintro e w2 ⟨rfl, hB⟩; have HC2 := Lib.hid (HC1.out.trans (Ch.of_below hB)); have HK2 := Lib.hid ((Ch.of_below (S := fun _ => False) hB).blk HK1.out (fun h => h)); have HF2 := Lib.hid ((Ch.of_below (S := fun _ => False) hB).blk HF1.out (fun h => h)); clear hB)
  have HRB : Hid (∀ W, Ch (fun _ => False) w2 W → ReadsInt W .u8 A n b) := Lib.hid fun W hC => (HC2.out.trans hC).reads HR.out (fun _ _ h => h)
  have HMK : Hid (∀ w', Ch (fun _ => False) w2 w' → Ch (fun _ => False) w2 w' ∧ w'.rangeAt gk 0 (nums .u8 k) ∧ w'.rangeAt gf 0 (nums .u8 f)) := Lib.hid fun w' hC => ⟨hC, range_nums (hC.blk HK2.out (fun h => h)), range_nums (hC.blk HF2.out (fun h => h))⟩
  have hu16 := Try.underlying30
  have hik16 : (Try.prog.info? 30).map (·.size) = some (nums .u8 k).length := by rw [nums_len, HK.out]; kernel_rfl
  have hi16 : (Try.prog.info? 30).map (·.size) = some (nums .u8 f).length := by rw [nums_len, HL.out]; kernel_rfl
  refine wp_region_held_drew (S := fun w' => Ch (fun _ => False) w2 w' ∧ w'.rangeAt gk 0 (nums .u8 k) ∧ w'.rangeAt gf 0 (nums .u8 f)) (by kernel_rfl) ?_ (fun hHeld => ?_)
  · exact HMK.out _ ((Ch.refl _ _).drew)
  refine wpAnyH_take (i := 0) (v := .agg (nums .u8 k).toArray) rfl (by kernel_rfl) (by kernel_rfl) (by kernel_rfl) (fun _ _ _ h => h) ?_ (by assumption) ?_
  · refine yieldsIf_load_mid (by rfl) 30 (.tmp 3) rfl gk 0 rfl (nums .u8 k) _ (fun w hSw => ?_) hu16 rfl hik16
    (try dsimp only at hSw)
    go_split_ands
    assumption
  try simp only [Act.put, List.getElem_toArray, List.getElem_cons_succ, List.getElem_cons_zero, List.setIfInBounds_toArray, List.set_cons_zero, List.set_cons_succ]
  refine wpAnyH_take (i := 2) (v := .agg (nums .u8 f).toArray) rfl (by kernel_rfl) (by kernel_rfl) (by kernel_rfl) (fun _ _ _ h => h) ?_ (by assumption) ?_
  · refine yieldsIf_load_mid (by rfl) 30 (.tmp 4) rfl gf 0 rfl (nums .u8 f) _ (fun w hSw => ?_) hu16 rfl hi16
    (try dsimp only at hSw)
    go_split_ands
    assumption
  try simp only [Act.put, List.getElem_toArray, List.getElem_cons_succ, List.getElem_cons_zero, List.setIfInBounds_toArray, List.set_cons_zero, List.set_cons_succ]
  refine wpAnyH_take (i := 3) (v := ?_) rfl (by kernel_rfl) (by kernel_rfl) (by kernel_rfl) (fun _ _ _ h => h) (Or.inl ⟨by rfl, ?_⟩) (by assumption) ?_
  rotate_left
  · intro w hSw
    (try dsimp only at hSw)
    go_simp
    first | done | with_reducible rfl
  try simp only [Act.put, List.getElem_toArray, List.getElem_cons_succ, List.getElem_cons_zero, List.setIfInBounds_toArray, List.set_cons_zero, List.set_cons_succ]
  refine wpAnyH_take (i := 6) (v := ?_) rfl (by kernel_rfl) (by kernel_rfl) (by kernel_rfl) (fun _ _ _ h => h) (Or.inl ⟨by rfl, ?_⟩) (by assumption) ?_
  rotate_left
  · intro w hSw
    (try dsimp only at hSw)
    go_simp
    first | done | with_reducible rfl
  try simp only [Act.put, List.getElem_toArray, List.getElem_cons_succ, List.getElem_cons_zero, List.setIfInBounds_toArray, List.set_cons_zero, List.set_cons_succ]
  refine wpAnyH_take (i := 7) (v := ?_) rfl (by kernel_rfl) (by kernel_rfl) (by kernel_rfl) (fun _ _ _ h => h) (Or.inl ⟨by rfl, ?_⟩) (by assumption) ?_
  rotate_left
  · intro w hSw
    (try dsimp only at hSw)
    go_simp
    first | done | with_reducible rfl
  try simp only [Act.put, List.getElem_toArray, List.getElem_cons_succ, List.getElem_cons_zero, List.setIfInBounds_toArray, List.set_cons_zero, List.set_cons_succ]
  refine wpAnyH_take (i := 8) (v := ?_) rfl (by kernel_rfl) (by kernel_rfl) (by kernel_rfl) (fun _ _ _ h => h) (Or.inl ⟨by rfl, ?_⟩) (by assumption) ?_
  rotate_left
  · intro w hSw
    (try dsimp only at hSw)
    go_simp
    first | done | with_reducible rfl
  try simp only [Act.put, List.getElem_toArray, List.getElem_cons_succ, List.getElem_cons_zero, List.setIfInBounds_toArray, List.set_cons_zero, List.set_cons_succ]
  refine wpAnyH_ready (rs := [1]) (by kernel_rfl) (by simp) ?_
  refine AllReadyH.cons rfl (fun K hK => ?_) AllReadyH.nil
  go_simp
  go_wp2_with (go_at_call 13; refine (new5_at k _ HK.out hkb).mono ?_; rintro e w3 ⟨g, bg, rfl, hci, hg1, hg2, hc⟩; have hC1 : Ch (fun _ => False) w2 w3 := Ch.trans (And.left (by assumption)) hc; have HCI := Lib.hid hci; clear hci hg1 hg2 hc)
  refine hK.out _ _ ?_ (fun hHeld => ?_)
  · (refine HMK.out _ ?_; (repeat (first | (with_reducible refine Ch.drewN ?_ _) | (with_reducible refine Ch.drew ?_) | (with_reducible refine Ch.alloc ?_ _))); first | (with_reducible exact Ch.refl _ _) | (with_reducible exact And.left (by assumption)) | (with_reducible exact hC1))
  clear hK K
  refine wpAnyH_ready (rs := [4]) (by kernel_rfl) (by simp) ?_
  refine AllReadyH.cons rfl (fun K hK => ?_) AllReadyH.nil
  go_simp
  go_wp2_with (go_at_call 14; refine (stream5_any g bg (kGo k 160) f b A n c _ ?_ HL.out hf ?_ hb hnn).mono ?_; (exact HCI.out); (exact HRB.out _ (And.left (by assumption))); rintro e w4 ⟨v4, rfl, ho, hc⟩; obtain ⟨A4, c4, rfl, -⟩ := q_slice (q_of_own ho); have hC1 : Ch (fun _ => False) w2 w4 := Ch.trans (And.left (by assumption)) hc; have HO4 := Lib.hid ho; clear ho hc)
  refine hK.out _ _ ?_ (fun hHeld => ?_)
  · (refine HMK.out _ ?_; (repeat (first | (with_reducible refine Ch.drewN ?_ _) | (with_reducible refine Ch.drew ?_) | (with_reducible refine Ch.alloc ?_ _))); first | (with_reducible exact Ch.refl _ _) | (with_reducible exact And.left (by assumption)) | (with_reducible exact hC1))
  clear hK K
  refine wpAnyH_ready (rs := [5]) (by kernel_rfl) (by simp) ?_
  refine AllReadyH.cons rfl (fun K hK => ?_) AllReadyH.nil
  go_simp
  go_wp2_with (go_at_call 16; refine (boxes5_any _).mono ?_; rintro e w5 ⟨v5, rfl, ho, hb5⟩; obtain ⟨A5, c5, rfl, h5⟩ := q_slice (q_of_own ho); have hc5 : Ch (fun _ => False) w4 w5 := Ch.of_below hb5; have hC1 : Ch (fun _ => False) w2 w5 := Ch.trans (And.left (by assumption)) hc5; have HO5 := Lib.hid ho; have HC5 := Lib.hid hc5; have H5 := Lib.hid h5; clear ho hb5 hc5 h5)
  refine hK.out _ _ ?_ (fun hHeld => ?_)
  · (refine HMK.out _ ?_; (repeat (first | (with_reducible refine Ch.drewN ?_ _) | (with_reducible refine Ch.drew ?_) | (with_reducible refine Ch.alloc ?_ _))); first | (with_reducible exact Ch.refl _ _) | (with_reducible exact And.left (by assumption)) | (with_reducible exact hC1))
  clear hK K
  refine wpAnyH_ready (rs := [9]) (by kernel_rfl) (by simp) ?_
  refine AllReadyH.cons rfl (fun K hK => ?_) AllReadyH.nil
  go_simp
  go_wp2_with (go_at_call 15; refine (rstream_any k f b A5 _ _ A c5 16 16 c n _ ?_ ?_ ?_ ?_ H5.out (by omega) (by omega) hnc hkb hf hnn).mono ?_; (exact rd_own HO5.out); (exact reads_blk (Ch.blk (And.left (by assumption)) HK2.out (fun h => h)) HK.out (by decide)); (exact reads_blk (Ch.blk (And.left (by assumption)) HF2.out (fun h => h)) HL.out (by decide)); (exact HRB.out _ (And.left (by assumption))); rintro e w6 ⟨v6, rfl, ho, hb6⟩; obtain ⟨A6, c6, rfl, -⟩ := q_slice (q_of_own ho); have hc6 : Ch (fun _ => False) w5 w6 := Ch.of_below hb6; have hC1 : Ch (fun _ => False) w2 w6 := Ch.trans (And.left (by assumption)) hc6; have HO6 := Lib.hid ho; have HC6 := Lib.hid hc6; clear ho hb6 hc6)
  refine hK.out _ _ ?_ (fun hHeld => ?_)
  · (refine HMK.out _ ?_; (repeat (first | (with_reducible refine Ch.drewN ?_ _) | (with_reducible refine Ch.drew ?_) | (with_reducible refine Ch.alloc ?_ _))); first | (with_reducible exact Ch.refl _ _) | (with_reducible exact And.left (by assumption)) | (with_reducible exact hC1))
  clear hK K
  refine wpAnyH_ready (rs := [10]) (by kernel_rfl) (by simp) ?_
  refine AllReadyH.cons rfl (fun K hK => ?_) AllReadyH.nil
  go_simp
  go_wp2_with (go_at_call 8; refine (same_yes _ _ n c4 c6 (strm (kGo k 160) f b) _ ?_ ?_).mono ?_; (exact (HC5.out.trans HC6.out).reads (rd_own HO4.out) (fun _ _ h => h)); (exact rd_own HO6.out); rintro e w7 ⟨rfl, m7, rfl⟩)
  refine hK.out _ _ ?_ (fun hHeld => ?_)
  · (refine HMK.out _ ?_; (repeat (first | (with_reducible refine Ch.drewN ?_ _) | (with_reducible refine Ch.drew ?_) | (with_reducible refine Ch.alloc ?_ _))); first | (with_reducible exact Ch.refl _ _) | (with_reducible exact And.left (by assumption)) | (with_reducible exact hC1))
  clear hK K
  refine wpAnyH_take (i := 11) (v := ?_) rfl (by kernel_rfl) (by kernel_rfl) (by kernel_rfl) (fun _ _ _ h => h) (Or.inl ⟨by rfl, ?_⟩) (by assumption) ?_
  rotate_left
  · intro w hSw
    (try dsimp only at hSw)
    go_simp
    first | done | with_reducible rfl
  try simp only [Act.put, List.getElem_toArray, List.getElem_cons_succ, List.getElem_cons_zero, List.setIfInBounds_toArray, List.set_cons_zero, List.set_cons_succ]
  refine wpAnyH_done (by kernel_rfl) ?_ _
  go_wp2
  go_ret
  exact ⟨rfl, (HC2.out.trans (And.left (by assumption))).below⟩
end Go.Proofs.Ytejhjlfakfaegaa
