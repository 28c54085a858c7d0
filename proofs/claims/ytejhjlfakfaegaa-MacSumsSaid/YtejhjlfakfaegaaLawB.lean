/- The walk of AesSteps. -/
import Derived.Test.YtejhjlfakfaegaaLawA
import Derived.Deep.DeepCutAuto
import Derived.Deep.CutBlock
import Derived.Deep.RegionHeld3
set_option linter.unusedSimpArgs false
set_option linter.unusedVariables false
namespace Go.Proofs.Ytejhjlfakfaegaa
open Go.RowKit Go.Proofs.YtejhjlfakfaegaaW.PrintWords

theorem reads_blk {w : World} {g n : Nat} {k : IntKind} {l : List Int} {T : TypeId} (h : w.heap[g]? = some (.cells (nums k l).toArray T (0, 0))) (hl : l.length = n) (hn : n ≤ 9223372036854775807) : ReadsInt w k (some ⟨g, 0, none⟩) n l := by
  refine ⟨hl, hn, fun _ => ⟨_, rfl, fun j hj => ?_⟩⟩
  rw [add_plain, blk_nums h j (by omega)]
  rfl
theorem incN_shift (l : List Int) : ∀ q, incN (inc l) q = incN l (q + 1)
  | 0 => rfl
  | q + 1 => by rw [incN, incN_shift l q]; rfl
theorem nt_drop (l : List Int) (i j : Nat) : nt (l.drop i) j = nt l (i + j) := by simp [nt, List.getD_eq_getElem?_getD]
theorem strm_at (ks f b : List Int) (i : Nat) (h : i < b.length) : nt (strm ks f b) i = x8 (nt b i) (nt (blk5 ks (incN f (i / 16))) (i % 16)) := by
  rw [nt_get (by rw [strm_len]; exact h)]
  simp [strm]
theorem strm_16 (ks f b : List Int) (h : 16 ≤ b.length) : (strm ks f b).drop 16 = strm ks (inc f) (b.drop 16) := by
  refine nt_extn (by simp [strm_len]) fun j hj => ?_
  rw [List.length_drop, strm_len] at hj
  rw [nt_drop, strm_at _ _ _ _ (by omega), strm_at _ _ _ _ (by rw [List.length_drop]; omega), nt_drop, incN_shift, show (16 + j) / 16 = j / 16 + 1 by omega, show (16 + j) % 16 = j % 16 by omega]
theorem x8_0 (y : Int) (h : B8 y) : x8 0 y = y := by
  obtain ⟨h0, h1⟩ := h
  obtain ⟨n, rfl⟩ := Int.eq_ofNat_of_zero_le h0
  have : ∀ m : Nat, m < 256 → x8 0 (m : Int) = (m : Int) := by decide +kernel
  exact this n (by omega)
theorem z16_at (j : Nat) : nt z16 j = 0 := by
  unfold nt z16
  rw [List.getD_eq_getElem?_getD, List.getElem?_replicate]
  split <;> rfl
theorem strm_zero (ks f : List Int) : strm ks f z16 = blk5 ks f := by
  refine nt_extn (by rw [strm_len]; exact (blkTo_len ks f 10).symm) fun j hj => ?_
  rw [strm_len] at hj
  have hj' : j < 16 := hj
  rw [strm_at _ _ _ _ hj, z16_at, show j / 16 = 0 by omega, show j % 16 = j by omega]
  exact x8_0 _ ((blkTo_bs ks f 10).at j)
set_option maxRecDepth 100000 in
set_option maxHeartbeats 4000000 in
theorem aesSteps_any (k f b : List Int) (A : Option Addr) (n c : Nat) (w : World) (hk : k.length = 16) (hkb : Bs k) (hl : f.length = 16) (hf : Bs f) (hr : ReadsInt w .u8 A n b) (hb : Bs b) (hnc : n ≤ c) :
    Calls Try.prog 5 #[.agg (nums .u8 k).toArray, .agg (nums .u8 f).toArray, .slice A n c] w fun e w' => e = .returned (.bool true) ∧ Below w.heap.size w w' := by
  have HR := Lib.hid hr
  have HL := Lib.hid hl
  have HK := Lib.hid hk
  have hm := hr.2.1
  clear hr hl hk
  go_enter Try.func5, Try.ntmps5
  go_upto_region 1 with fail
  refine wp_named _ fun w1 hw1 => ?_
  have hK1 : w1.heap[w.heap.size]? = some (.cells (nums .u8 k).toArray 30 (0, 0)) := by rw [hw1]; exact heap_alloc2_old _ _ _
  have hF1 : w1.heap[w.heap.size + 1]? = some (.cells (nums .u8 f).toArray 30 (0, 0)) := by rw [hw1]; exact heap_alloc2_new _ _ _
  have hC1 : Ch (fun _ => False) w w1 := by rw [hw1]; exact ((Ch.refl _ _).alloc _).alloc _
  obtain ⟨gk, hgk⟩ : ∃ gk, w.heap.size = gk := ⟨_, rfl⟩
  obtain ⟨gf, hgf⟩ : ∃ gf, gk + 1 = gf := ⟨_, rfl⟩
  rw [hgk] at hK1 hF1 ⊢
  rw [hgf] at hF1 ⊢
  have HK1 := Lib.hid hK1
  have HF1 := Lib.hid hF1
  have HC1 := Lib.hid hC1
  have HG : Hid (gk = w.heap.size ∧ gf = gk + 1) := Lib.hid ⟨hgk.symm, hgf.symm⟩
  have HAL := Lib.hid (alive5_any w1)
  clear hw1 hK1 hF1 hC1 hgk hgf
  by_cases hbig : 4096 < n
  · go_wp2_with (go_at_call 12; with_reducible refine (HAL.out).mono ?_; rintro e w2 ⟨rfl, hB⟩; have HB2 := Lib.hid hB; clear hB)
    go_ret
    exact ⟨rfl, (HC1.out.trans (Ch.of_below HB2.out)).below⟩
  have hnn : n < 1000000 := by omega
  have hbd : decide (4096 < (n : Int)) = false := by simp; omega
  go_upto_block 0 with (first
    | (go_at_call 12; with_reducible refine (HAL.out).mono ?_; rintro e w2 ⟨rfl, hB⟩; have HC2 := Lib.hid (HC1.out.trans (Ch.of_below hB)); have HK2 := Lib.hid ((Ch.of_below (S := fun _ => False) hB).blk HK1.out (fun h => h)); have HF2 := Lib.hid ((Ch.of_below (S := fun _ => False) hB).blk HF1.out (fun h => h)); clear hB)
    | (refine wpList_load_mid rfl 30 (.tmp 3) rfl gk 0 rfl (nums .u8 k) (.array 16 5) (range_nums HK2.out) Try.underlying30 rfl (by rw [nums_len, HK.out]; kernel_rfl) ?_)
    | (go_at_call 13; refine (new5_at k w2 HK.out hkb).mono ?_; rintro e w3 ⟨g, bg, rfl, hci, hg1, hg2, hc⟩; have HCI := Lib.hid hci; have HC3 := Lib.hid (HC2.out.trans hc); have HF3 := Lib.hid (hc.blk HF2.out (fun h => h)); clear hci hg1 hg2 hc)
    | (refine wpList_load_mid rfl 30 (.tmp 4) rfl gf 0 rfl (nums .u8 f) (.array 16 5) (range_nums HF3.out) Try.underlying30 rfl (by rw [nums_len, HL.out]; kernel_rfl) ?_)
    | (refine Great.wpList_runTo rfl (some 8) rfl (.pointer (some ⟨w3.heap.size, 0, none⟩)) (w3.alloc (.cells (nums .u8 z16).toArray 30)) (by kernel_rfl) ?_)
    | (refine wpList_store_row rfl 30 (.tmp 8) (.tmp 18) rfl w3.heap.size (nums .u8 f).toArray rfl rfl 30 (nums .u8 z16).toArray (heap_alloc_new _ _) (by rw [List.size_toArray, nums_len, HL.out]; kernel_rfl) (by simp [nums, HL.out, z16]) (all_nums _ _) ?_; rw [setRow_alloc]))
  refine wp_named _ fun w4 hw4 => ?_
  have hC4 : Ch (fun _ => False) w3 w4 := by rw [hw4]; exact (Ch.refl _ _).alloc _
  have hN4 : w4.heap[w3.heap.size]? = some (.cells (nums .u8 f).toArray 30 (0, 0)) := by rw [hw4]; exact heap_alloc_new _ _
  obtain ⟨gn, hgn⟩ : ∃ gn, w3.heap.size = gn := ⟨_, rfl⟩
  have HGN : Hid (w3.heap.size ≤ gn ∧ w.heap.size ≤ gn ∧ gf < gn ∧ g < gn ∧ bg < gn) := Lib.hid ⟨by omega, by have := HC3.out.size; omega, by have := blk_lt HF3.out; omega, by have := blk_lt HCI.out.here; omega, by have := blk_lt HCI.out.box; omega⟩
  rw [hgn] at hN4 ⊢
  have HN4 := Lib.hid hN4
  have HC4 := Lib.hid hC4
  clear hw4 hC4 hN4 hgn HAL HK1 HF1 HC1 HK2 HF2 HC2
  go_cut [9] (fun s9 wx => wx.heap[gn]? = some (.cells (nums .u8 (inc f)).toArray 30 (0, 0)) ∧ Ch (· = gn) w4 wx)
  case first =>
    --[D1
    go_wp2_with fail
    go_loopw [9] (fun i wr => ((∃ p : Nat, p ≤ 15 ∧ i = .int .i64 (p : Int) ∧ wr.heap[gn]? = some (.cells (nums .u8 (incTo f (p + 1))).toArray 30 (0, 0)) ∧ cAt f (15 - p) = 1) ∨ (i = .int .i64 (-1) ∧ wr.heap[gn]? = some (.cells (nums .u8 (inc f)).toArray 30 (0, 0)))) ∧ Ch (· = gn) w4 wr) (fun i _ => (intOf i + 1).toNat)
    case atStart => exact ⟨.inl ⟨15, by omega, rfl, by rw [incTo_16 _ HL.out]; exact HN4.out, rfl⟩, Ch.refl _ _⟩
    case round =>
      obtain ⟨hF, hC⟩ := hrel
      clear HN4
      have HC := Lib.hid hC
      clear hC
      rcases hF with ⟨p, hp, rfl, hF, hcar⟩ | ⟨rfl, hF⟩
      · have HF := Lib.hid hF
        have HCAR := Lib.hid hcar
        clear hF hcar
        have cf := blk_nums HF.out p (by rw [incTo_len]; omega)
        rw [incTo_at _ _ (by omega)] at cf
        have ff : wr.frozen? ⟨gn, p, none⟩ = false := blk_frozen HF.out _
        have HSET := Lib.hid (incTo_set f p (by omega) HCAR.out)
        obtain ⟨x0, x1⟩ := hf.at p
        by_cases hx : nt f p = 255
        · rw [hx, show (((255 : Int) + 1) % 256) = 0 from rfl] at HSET
          rw [hx] at cf
          have HX := Lib.hid hx
          clear hx x0 x1
          have hS := blk_set HF.out p (.int .u8 0)
          rw [nums_set, HSET.out] at hS
          have HF5 := Lib.hid hS
          have HC5 : Hid (Ch (· = gn) w4 (wr.setCell ⟨gn, p, none⟩ (.int .u8 0))) := Lib.hid (HC.out.setCell (.inl rfl) _)
          clear hS
          go_wp2
          refine ⟨⟨?_, HC5.out⟩, by simp [intOf]⟩
          by_cases hp0 : p = 0
          · subst hp0
            exact .inr ⟨by go_num, by rw [← incTo_0]; exact HF5.out⟩
          · exact .inl ⟨p - 1, by omega, by go_num, by rw [show p - 1 + 1 = p by omega]; exact HF5.out, cAt_go f p (by omega) (by omega) HCAR.out HX.out⟩
        · have HX := Lib.hid hx
          have hlt5 : nt f p < 255 := by omega
          have hm5 : (nt f p + 1) % 256 = nt f p + 1 := by omega
          rw [hm5] at HSET
          have hnz : (nt f p + 1 != 0) = true := by rw [bne_iff_ne]; omega
          clear hx hm5 x1
          have hS := blk_set HF.out p (.int .u8 (nt f p + 1))
          rw [nums_set, HSET.out] at hS
          have HF5 := Lib.hid hS
          have HC5 : Hid (Ch (· = gn) w4 (wr.setCell ⟨gn, p, none⟩ (.int .u8 (nt f p + 1)))) := Lib.hid (HC.out.setCell (.inl rfl) _)
          clear hS
          go_wp2
          go_meet
          refine ⟨?_, HC5.out⟩
          rw [← incTo_end f p (by omega) hf HX.out]
          exact HF5.out
      · have HF := Lib.hid hF
        clear hF
        go_wp2
        go_meet
        exact ⟨HF.out, HC.out⟩
    --D1]
  case rest =>
    obtain ⟨hN, hC⟩ := hcut
    have HN := Lib.hid hN
    have HCX := Lib.hid hC
    have hZ : Ch (fun _ => False) w3 wc := HC4.out.then_ hC (fun i hi e => by have := HGN.out; omega)
    have HCY := Lib.hid (HC3.out.trans hZ)
    have HFY := Lib.hid (hZ.blk HF3.out (fun h => h))
    have HCIY := Lib.hid (HCI.out.keep hZ)
    clear hN hC hZ HCI HC3 HF3 HN4 HC4
    have HBK := Lib.hid (block5_any g bg (kGo k 160) f wc HCIY.out HL.out hf)
    have HPL : Hid ((blk5 (kGo k 160) f).length = 16) := Lib.hid (blkTo_len _ _ 10)
    have HPB : Hid (Bs (blk5 (kGo k 160) f)) := Lib.hid (blkTo_bs _ _ 10)
    have HPD : Hid (strm (kGo k 160) f z16 = blk5 (kGo k 160) f) := Lib.hid (strm_zero _ _)
    generalize blk5 (kGo k 160) f = pd at *
    go_wp2_with (first
      | (refine wpList_load_mid rfl 30 (.tmp 4) rfl gf 0 rfl (nums .u8 f) (.array 16 5) (range_nums HFY.out) Try.underlying30 rfl (by rw [nums_len, HL.out]; kernel_rfl) ?_)
      | (go_at_call 17; with_reducible refine (HBK.out).mono ?_; rintro e w5 ⟨rfl, hc5⟩; have HC5 := Lib.hid hc5; clear hc5)
      | (refine Great.wpList_runTo rfl (some 10) rfl (.pointer (some ⟨w5.heap.size, 0, none⟩)) (w5.alloc (.cells (nums .u8 z16).toArray 30)) (by kernel_rfl) ?_)
      | (refine wpList_store_row rfl 30 (.tmp 10) (.tmp 34) rfl w5.heap.size (nums .u8 pd).toArray rfl rfl 30 (nums .u8 z16).toArray (heap_alloc_new _ _) (by rw [List.size_toArray, nums_len, HPL.out]; kernel_rfl) (by simp [nums, HPL.out, z16]) (all_nums _ _) ?_; rw [setRow_alloc]))
    refine wp_named _ fun w6 hw6 => ?_
    have hC6 : Ch (fun _ => False) wc w6 := by rw [hw6]; exact HC5.out.alloc _
    have hP6 : w6.heap[w5.heap.size]? = some (.cells (nums .u8 pd).toArray 30 (0, 0)) := by rw [hw6]; exact heap_alloc_new _ _
    obtain ⟨gp, hgp⟩ : ∃ gp, w5.heap.size = gp := ⟨_, rfl⟩
    rw [hgp] at hP6 ⊢
    have HP6 := Lib.hid hP6
    have HN6 := Lib.hid (hC6.blk HN.out (fun h => h))
    have HF6 := Lib.hid (hC6.blk HFY.out (fun h => h))
    have HCI6 := Lib.hid (HCIY.out.keep hC6)
    have HC6 := Lib.hid (HCY.out.trans hC6)
    clear hw6 hP6 hC6 hgp HN HFY HCIY HCY HC5 HBK HCX
    have HMK : Hid (∀ w', Ch (fun _ => False) w6 w' → Ch (fun _ => False) w6 w' ∧ w'.rangeAt gf 0 (nums .u8 f)) := Lib.hid fun w' hC => ⟨hC, range_nums (hC.blk HF6.out (fun h => h))⟩
    have hu16 := Try.underlying30
    have hi16 : (Try.prog.info? 30).map (·.size) = some (nums .u8 f).length := by rw [nums_len, HL.out]; kernel_rfl
    have hmk : ∀ W : World, (Instr.makeSlice 22 (.int .i64 16) (.int .i64 16)).run Try.prog W = .ok (.slice (some ⟨W.heap.size, 0, none⟩) 16 16) (W.alloc (.cells (nums .u8 z16).toArray 5)) := fun W => by kernel_rfl
    have HZR : Hid (∀ W : World, ReadsInt (W.alloc (.cells (nums .u8 z16).toArray 5)) .u8 (some ⟨W.heap.size, 0, none⟩) 16 z16) := Lib.hid fun W => rd_own (own_lit W 0 5 .u8 z16 (by omega) (by decide))
    go_wp2_with fail
    go_region_held3 (fun w' => Ch (fun _ => False) w6 w' ∧ w'.rangeAt gf 0 (nums .u8 f))
      ((refine HMK.out _ ?_; (repeat (first | (with_reducible refine Ch.drewN ?_ _) | (with_reducible refine Ch.drew ?_) | (with_reducible refine Ch.alloc ?_ _))); first | (with_reducible exact Ch.refl _ _) | (with_reducible exact And.left (by assumption)) | (with_reducible exact hC1)))
      ((first
        | (go_at_call 14; refine (stream5_any g bg (kGo k 160) f z16 _ 16 16 _ ?_ HL.out hf ?_ (by unfold Bs; decide) (by decide)).mono ?_; (exact HCI6.out.keep (And.left (by assumption))); (exact HZR.out w6); rintro e w8 ⟨v8, rfl, ho, hc⟩; obtain ⟨A8, c8, rfl, -⟩ := q_slice (q_of_own ho); have hC1 : Ch (fun _ => False) w6 w8 := Ch.trans (And.left (by assumption)) hc; rw [HPD.out] at ho; have HO8 := Lib.hid ho; clear ho hc)
        | (go_at_call 8; refine (same_yes _ _ 16 c8 16 pd _ ?_ ?_).mono ?_; (exact rd_own HO8.out); (exact reads_blk (Ch.blk (And.left (by assumption)) HP6.out (fun h => h)) HPL.out (by decide)); rintro e w9 ⟨rfl, m9, rfl⟩)))
    have hC9 : Ch (fun _ => False) w (w8.drewN m9) := HC6.out.trans (And.left (by assumption))
    have hF9 := Ch.blk (S := fun _ => False) (hC1.drewN m9) HF6.out (fun h => h)
    have hN9 := Ch.blk (S := fun _ => False) (hC1.drewN m9) HN6.out (fun h => h)
    have hci9 := HCI6.out.keep (hC1.drewN m9)
    generalize w8.drewN m9 = w9 at *
    have HC9 := Lib.hid hC9
    have HF9 := Lib.hid hF9
    have HN9 := Lib.hid hN9
    have HCI9 := Lib.hid hci9
    clear hC9 hF9 hN9 hci9 hC1 HO8 HMK HP6 HN6 HF6 HCI6 HC6 hmk HZR
    rename_i hHeld
    clear hHeld
    by_cases h16 : n < 16
    · have hd16 : decide ((n : Int) < 16) = true := by simp; omega
      go_wp2
      go_quiet (fail)
      go_wp2
      go_ret
      exact ⟨rfl, (HC9.out.drewN nq).below⟩
    · have hd16 : decide ((n : Int) < 16) = false := by simp; omega
      have hnn' : n ≤ 9223372036854775807 := by omega
      have HRB : Hid (∀ W, Ch (fun _ => False) w9 W → ReadsInt W .u8 A n b) := Lib.hid fun W hC => (HC9.out.trans hC).reads HR.out (fun _ _ h => h)
      have HIL := Lib.hid (inc_len f)
      have HIB := Lib.hid (inc_b f HL.out hf)
      have HTL := Lib.hid (strm_16 (kGo k 160) f b (by have := HR.out.1; omega))
      generalize inc f = f2 at *
      obtain ⟨i0, hi0, hz0, hz1, hz2⟩ := info_parts info_u8
      have hcutb := cut_from (P := Try.prog) 22 5 .i64 Try.underlying22 hi0 1 hz1 A n c 16 (by omega) (by omega)
      rw [show (16 : Int).toNat = 16 from rfl] at hcutb
      obtain ⟨A3, hA3⟩ : ∃ A3, (if c = 16 then A else A.map (·.add (16 * 1))) = A3 := ⟨_, rfl⟩
      rw [hA3] at hcutb
      have HRD : Hid (∀ W, Ch (fun _ => False) w9 W → ReadsInt W .u8 A3 (n - 16) (b.drop 16)) := Lib.hid fun W hC => by rw [← hA3]; exact (HRB.out W hC).drop_ 16 (by omega) hnc
      have HI0 := Lib.hid hi0
      have HZ1 := Lib.hid hz1
      clear hA3 hi0 hz0 hz1 hz2
      have HS1 : Hid (∀ W, Ch (fun _ => False) w9 W → Calls Try.prog 14 #[.pointer (some ⟨g, 0, none⟩), .agg (nums .u8 f).toArray, .slice A n c] W _) := Lib.hid fun W hC => stream5_any g bg (kGo k 160) f b A n c W (HCI9.out.keep hC) HL.out hf (HRB.out W hC) hb hnn
      have HS2 : Hid (∀ W, Ch (fun _ => False) w9 W → Calls Try.prog 14 #[.pointer (some ⟨g, 0, none⟩), .agg (nums .u8 f2).toArray, .slice A3 (n - 16) (c - 16)] W _) := Lib.hid fun W hC => stream5_any g bg (kGo k 160) f2 (b.drop 16) A3 (n - 16) (c - 16) W (HCI9.out.keep hC) HIL.out HIB.out (HRD.out W hC) (hb.drop 16) (by omega)
      have HMK : Hid (∀ w', Ch (fun _ => False) w9 w' → Ch (fun _ => False) w9 w' ∧ w'.rangeAt gf 0 (nums .u8 f) ∧ w'.rangeAt gn 0 (nums .u8 f2)) := Lib.hid fun w' hC => ⟨hC, range_nums (hC.blk HF9.out (fun h => h)), range_nums (hC.blk HN9.out (fun h => h))⟩
      have hin16 : (Try.prog.info? 30).map (·.size) = some (nums .u8 f2).length := by rw [nums_len, HIL.out]; kernel_rfl
      go_wp2_with fail
      refine wp_region_held_drew (S := fun w' => Ch (fun _ => False) w9 w' ∧ w'.rangeAt gf 0 (nums .u8 f) ∧ w'.rangeAt gn 0 (nums .u8 f2)) (by kernel_rfl) ?_ (fun hHeld => ?_)
      · exact HMK.out _ ((Ch.refl _ _).drew)
      refine wpAnyH_take (i := 0) (v := ?_) rfl (by kernel_rfl) (by kernel_rfl) (by kernel_rfl) (fun _ _ _ h => h) (Or.inl ⟨by rfl, ?_⟩) (by assumption) ?_
      rotate_left
      · intro w hSw
        (try dsimp only at hSw)
        go_simp
        first | done | with_reducible rfl
      try simp only [Act.put, List.getElem_toArray, List.getElem_cons_succ, List.getElem_cons_zero, List.setIfInBounds_toArray, List.set_cons_zero, List.set_cons_succ]
      refine wpAnyH_take (i := 1) (v := ?_) rfl (by kernel_rfl) (by kernel_rfl) (by kernel_rfl) (fun _ _ _ h => h) (Or.inl ⟨by rfl, ?_⟩) (by assumption) ?_
      rotate_left
      · intro w hSw
        (try dsimp only at hSw)
        go_simp
        first | done | with_reducible rfl
      try simp only [Act.put, List.getElem_toArray, List.getElem_cons_succ, List.getElem_cons_zero, List.setIfInBounds_toArray, List.set_cons_zero, List.set_cons_succ]
      refine wpAnyH_take (i := 2) (v := ?_) rfl (by kernel_rfl) (by kernel_rfl) (by kernel_rfl) (fun _ _ _ h => h) (Or.inl ⟨by rfl, ?_⟩) (by assumption) ?_
      rotate_left
      · intro w hSw
        (try dsimp only at hSw)
        go_simp
        first | done | with_reducible rfl
      try simp only [Act.put, List.getElem_toArray, List.getElem_cons_succ, List.getElem_cons_zero, List.setIfInBounds_toArray, List.set_cons_zero, List.set_cons_succ]
      refine wpAnyH_take (i := 3) (v := ?_) rfl (by kernel_rfl) (by kernel_rfl) (by kernel_rfl) (fun _ _ _ h => h) (Or.inl ⟨by rfl, ?_⟩) (by assumption) ?_
      rotate_left
      · intro w hSw
        (try dsimp only at hSw)
        go_simp
        first | done | with_reducible rfl
      try simp only [Act.put, List.getElem_toArray, List.getElem_cons_succ, List.getElem_cons_zero, List.setIfInBounds_toArray, List.set_cons_zero, List.set_cons_succ]
      refine wpAnyH_take (i := 4) (v := ?_) rfl (by kernel_rfl) (by kernel_rfl) (by kernel_rfl) (fun _ _ _ h => h) (Or.inl ⟨by rfl, ?_⟩) (by assumption) ?_
      rotate_left
      · intro w hSw
        (try dsimp only at hSw)
        go_simp
        first | done | with_reducible rfl
      try simp only [Act.put, List.getElem_toArray, List.getElem_cons_succ, List.getElem_cons_zero, List.setIfInBounds_toArray, List.set_cons_zero, List.set_cons_succ]
      refine wpAnyH_take (i := 5) (v := .agg (nums .u8 f).toArray) rfl (by kernel_rfl) (by kernel_rfl) (by kernel_rfl) (fun _ _ _ h => h) ?_ (by assumption) ?_
      · refine yieldsIf_load_mid (by rfl) 30 (.tmp 4) rfl gf 0 rfl (nums .u8 f) _ (fun w hSw => ?_) hu16 rfl hi16
        (try dsimp only at hSw)
        go_split_ands
        assumption
      try simp only [Act.put, List.getElem_toArray, List.getElem_cons_succ, List.getElem_cons_zero, List.setIfInBounds_toArray, List.set_cons_zero, List.set_cons_succ]
      refine wpAnyH_take (i := 6) (v := ?_) rfl (by kernel_rfl) (by kernel_rfl) (by kernel_rfl) (fun _ _ _ h => h) (Or.inl ⟨by rfl, ?_⟩) (by assumption) ?_
      rotate_left
      · intro w hSw
        (try dsimp only at hSw)
        go_simp
        first | done | with_reducible rfl
      try simp only [Act.put, List.getElem_toArray, List.getElem_cons_succ, List.getElem_cons_zero, List.setIfInBounds_toArray, List.set_cons_zero, List.set_cons_succ]
      refine wpAnyH_take (i := 9) (v := ?_) rfl (by kernel_rfl) (by kernel_rfl) (by kernel_rfl) (fun _ _ _ h => h) (Or.inl ⟨by rfl, ?_⟩) (by assumption) ?_
      rotate_left
      · intro w hSw
        (try dsimp only at hSw)
        go_simp
        first | done | with_reducible rfl
      try simp only [Act.put, List.getElem_toArray, List.getElem_cons_succ, List.getElem_cons_zero, List.setIfInBounds_toArray, List.set_cons_zero, List.set_cons_succ]
      refine wpAnyH_take (i := 10) (v := .agg (nums .u8 f2).toArray) rfl (by kernel_rfl) (by kernel_rfl) (by kernel_rfl) (fun _ _ _ h => h) ?_ (by assumption) ?_
      · refine yieldsIf_load_mid (by rfl) 30 (.tmp 8) rfl gn 0 rfl (nums .u8 f2) _ (fun w hSw => ?_) hu16 rfl hin16
        (try dsimp only at hSw)
        go_split_ands
        assumption
      try simp only [Act.put, List.getElem_toArray, List.getElem_cons_succ, List.getElem_cons_zero, List.setIfInBounds_toArray, List.set_cons_zero, List.set_cons_succ]
      refine wpAnyH_take (i := 11) (v := ?_) rfl (by kernel_rfl) (by kernel_rfl) (by kernel_rfl) (fun _ _ _ h => h) (Or.inl ⟨by rfl, ?_⟩) (by assumption) ?_
      rotate_left
      · intro w hSw
        (try dsimp only at hSw)
        go_simp
        first | done | with_reducible rfl
      try simp only [Act.put, List.getElem_toArray, List.getElem_cons_succ, List.getElem_cons_zero, List.setIfInBounds_toArray, List.set_cons_zero, List.set_cons_succ]
      refine wpAnyH_take (i := 12) (v := ?_) rfl (by kernel_rfl) (by kernel_rfl) (by kernel_rfl) (fun _ _ _ h => h) (Or.inl ⟨by rfl, ?_⟩) (by assumption) ?_
      rotate_left
      · intro w hSw
        (try dsimp only at hSw)
        go_simp
        first | done | with_reducible rfl
      try simp only [Act.put, List.getElem_toArray, List.getElem_cons_succ, List.getElem_cons_zero, List.setIfInBounds_toArray, List.set_cons_zero, List.set_cons_succ]
      refine wpAnyH_ready (rs := [7]) (by kernel_rfl) (by simp) ?_
      refine AllReadyH.cons rfl (fun K hK => ?_) AllReadyH.nil
      go_simp
      go_wp2_with (go_at_call 14; with_reducible refine (HS1.out _ ?_).mono ?_; (exact And.left (by assumption)); rintro e wa ⟨va, rfl, ho, hc⟩; obtain ⟨Aa, ca, rfl, hnca⟩ := q_slice (q_of_own ho); have hC1 : Ch (fun _ => False) w9 wa := Ch.trans (And.left (by assumption)) hc; have HOa := Lib.hid ho; clear ho hc; have hcuta := cut_from (P := Try.prog) 22 5 .i64 Try.underlying22 HI0.out 1 HZ1.out Aa n ca 16 (by omega) (by omega); rw [show (16 : Int).toNat = 16 from rfl] at hcuta; obtain ⟨Ab, hAb⟩ : ∃ Ab, (if ca = 16 then Aa else Aa.map (·.add (16 * 1))) = Ab := ⟨_, rfl⟩; rw [hAb] at hcuta; (have HRa : Hid (∀ W, Ch (fun _ => False) wa W → ReadsInt W .u8 Ab (n - 16) (strm (kGo k 160) f2 (b.drop 16))) := Lib.hid (fun W hC => by rw [← hAb, ← HTL.out]; exact (hC.reads (rd_own HOa.out) (fun _ _ h => h)).drop_ 16 (by omega) hnca)); clear hAb)
      refine hK.out _ _ ?_ (fun hHeld => ?_)
      · (refine HMK.out _ ?_; (repeat (first | (with_reducible refine Ch.drewN ?_ _) | (with_reducible refine Ch.drew ?_) | (with_reducible refine Ch.alloc ?_ _))); first | (with_reducible exact Ch.refl _ _) | (with_reducible exact And.left (by assumption)) | (with_reducible exact hC1))
      clear hK K
      refine wpAnyH_take (i := 8) (v := ?_) rfl (by kernel_rfl) (by kernel_rfl) (by kernel_rfl) (fun _ _ _ h => h) (Or.inl ⟨by rfl, ?_⟩) (by assumption) ?_
      rotate_left
      · intro w hSw
        (try dsimp only at hSw)
        go_simp
        first | done | with_reducible rfl
      try simp only [Act.put, List.getElem_toArray, List.getElem_cons_succ, List.getElem_cons_zero, List.setIfInBounds_toArray, List.set_cons_zero, List.set_cons_succ]
      refine wpAnyH_ready (rs := [13]) (by kernel_rfl) (by simp) ?_
      refine AllReadyH.cons rfl (fun K hK => ?_) AllReadyH.nil
      go_simp
      go_wp2_with (go_at_call 14; with_reducible refine (HS2.out _ ?_).mono ?_; (exact And.left (by assumption)); rintro e wb ⟨vb, rfl, ho, hc⟩; obtain ⟨A9, c9, rfl, -⟩ := q_slice (q_of_own ho); have hC1 : Ch (fun _ => False) w9 wb := Ch.trans (And.left (by assumption)) hc; have HOb := Lib.hid ho; have HCb := Lib.hid hc; clear ho hc)
      refine hK.out _ _ ?_ (fun hHeld => ?_)
      · (refine HMK.out _ ?_; (repeat (first | (with_reducible refine Ch.drewN ?_ _) | (with_reducible refine Ch.drew ?_) | (with_reducible refine Ch.alloc ?_ _))); first | (with_reducible exact Ch.refl _ _) | (with_reducible exact And.left (by assumption)) | (with_reducible exact hC1))
      clear hK K
      refine wpAnyH_ready (rs := [14]) (by kernel_rfl) (by simp) ?_
      refine AllReadyH.cons rfl (fun K hK => ?_) AllReadyH.nil
      go_simp
      go_wp2_with (go_at_call 8; refine (same_yes _ _ (n - 16) (ca - 16) c9 (strm (kGo k 160) f2 (b.drop 16)) _ ?_ ?_).mono ?_; (exact HRa.out _ HCb.out); (exact rd_own HOb.out); rintro e wc ⟨rfl, mc, rfl⟩)
      refine hK.out _ _ ?_ (fun hHeld => ?_)
      · (refine HMK.out _ ?_; (repeat (first | (with_reducible refine Ch.drewN ?_ _) | (with_reducible refine Ch.drew ?_) | (with_reducible refine Ch.alloc ?_ _))); first | (with_reducible exact Ch.refl _ _) | (with_reducible exact And.left (by assumption)) | (with_reducible exact hC1))
      clear hK K
      refine wpAnyH_take (i := 15) (v := ?_) rfl (by kernel_rfl) (by kernel_rfl) (by kernel_rfl) (fun _ _ _ h => h) (Or.inl ⟨by rfl, ?_⟩) (by assumption) ?_
      rotate_left
      · intro w hSw
        (try dsimp only at hSw)
        go_simp
        first | done | with_reducible rfl
      try simp only [Act.put, List.getElem_toArray, List.getElem_cons_succ, List.getElem_cons_zero, List.setIfInBounds_toArray, List.set_cons_zero, List.set_cons_succ]
      refine wpAnyH_take (i := 16) (v := ?_) rfl (by kernel_rfl) (by kernel_rfl) (by kernel_rfl) (fun _ _ _ h => h) (Or.inl ⟨by rfl, ?_⟩) (by assumption) ?_
      rotate_left
      · intro w hSw
        (try dsimp only at hSw)
        go_simp
        first | done | with_reducible rfl
      try simp only [Act.put, List.getElem_toArray, List.getElem_cons_succ, List.getElem_cons_zero, List.setIfInBounds_toArray, List.set_cons_zero, List.set_cons_succ]
      refine wpAnyH_done (by kernel_rfl) ?_ _
      go_wp2
      go_ret
      exact ⟨rfl, (HC9.out.trans (And.left (by assumption))).below⟩
theorem aesSteps_law (k f : List Int) (A : Option Addr) (n c : Nat) (b : List Int) (w : World) (hk : k.length = 16) (hkb : Bs k) (hl : f.length = 16) (hf : Bs f) (hr : ReadsInt w .u8 A n b) (hb : Bs b) (hnc : n ≤ c) :
    Calls Try.prog 5 #[.agg (nums .u8 k).toArray, .agg (nums .u8 f).toArray, .slice A n c] w fun e w' => e = .returned (.bool true) ∧ Below w.heap.size w w' :=
  aesSteps_any k f b A n c w hk hkb hl hf hr hb hnc
end Go.Proofs.Ytejhjlfakfaegaa
