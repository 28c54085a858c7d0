/- aes' Block: what a block becomes. -/
import Derived.Test.YtejhjlfakfaegaaAesC
set_option linter.unusedSimpArgs false
set_option linter.unusedVariables false
namespace Go.Proofs.Ytejhjlfakfaegaa
open Go.RowKit Go.Proofs.YtejhjlfakfaegaaW.PrintWords

/-- sixteen bytes, of which so many are new -/
def mapTo (f : Nat → Int) (s : List Int) (i : Nat) : List Int := (List.range 16).map fun j => if j < i then f j else nt s j
theorem mapTo_len (f : Nat → Int) (s : List Int) (i : Nat) : (mapTo f s i).length = 16 := by simp [mapTo]
theorem mapTo_at (f : Nat → Int) (s : List Int) (i j : Nat) (h : j < 16) : nt (mapTo f s i) j = if j < i then f j else nt s j := by
  rw [nt_get (by rw [mapTo_len]; exact h)]
  simp [mapTo]
theorem nt_ext {a b : List Int} (ha : a.length = 16) (hb : b.length = 16) (h : ∀ j, j < 16 → nt a j = nt b j) : a = b := by
  apply List.ext_getElem (by omega)
  intro i h1 h2
  have := h i (by omega)
  rwa [nt_get h1, nt_get h2] at this
theorem nt_set {l : List Int} {i j : Nat} {v : Int} (hi : i < l.length) (hj : j < l.length) : nt (l.set i v) j = if i = j then v else nt l j := by
  rw [nt_get (by simpa using hj), nt_get hj, List.getElem_set]
theorem mapTo_0 (f : Nat → Int) (s : List Int) (h : s.length = 16) : mapTo f s 0 = s := nt_ext (mapTo_len _ _ _) h fun j hj => by rw [mapTo_at _ _ _ _ hj, if_neg (by omega)]
theorem mapTo_set (f : Nat → Int) (s : List Int) (i : Nat) (h : i < 16) : (mapTo f s i).set i (f i) = mapTo f s (i + 1) :=
  nt_ext (by simp [mapTo_len]) (mapTo_len _ _ _) fun j hj => by
    rw [nt_set (by rw [mapTo_len]; exact h) (by rw [mapTo_len]; exact hj), mapTo_at _ _ _ _ hj, mapTo_at _ _ _ _ hj]
    by_cases e : i = j
    · subst e; rw [if_pos rfl, if_pos (by omega)]
    · rw [if_neg e]
      by_cases e2 : j < i
      · rw [if_pos e2, if_pos (by omega)]
      · rw [if_neg e2, if_neg (by omega)]
def all16 (f : Nat → Int) : List Int := (List.range 16).map f
theorem all16_len (f : Nat → Int) : (all16 f).length = 16 := by simp [all16]
theorem all16_at (f : Nat → Int) (j : Nat) (h : j < 16) : nt (all16 f) j = f j := by
  rw [nt_get (by rw [all16_len]; exact h)]
  simp [all16]
theorem all16_bs (f : Nat → Int) (h : ∀ j, j < 16 → B8 (f j)) : Bs (all16 f) := by
  intro x hx
  simp only [all16, List.mem_map, List.mem_range] at hx
  obtain ⟨j, hj, rfl⟩ := hx
  exact h j hj
theorem mapTo_16 (f : Nat → Int) (s : List Int) : mapTo f s 16 = all16 f := nt_ext (mapTo_len _ _ _) (all16_len _) fun j hj => by rw [mapTo_at _ _ _ _ hj, all16_at _ _ hj, if_pos hj]

def xk (s ks : List Int) (o : Nat) : List Int := all16 fun i => x8 (nt s i) (nt ks (o + i))
def ss (s : List Int) : List Int := all16 fun i => sbx (nt s ((i + 4 * (i % 4)) % 16))
def mixN (t : List Int) : Nat → List Int
  | 0 => t
  | j + 1 => mixAt (mixN t j) (4 * j)
theorem mixAt_len (l : List Int) (c : Nat) : (mixAt l c).length = l.length := by simp [mixAt]
theorem set_bs {l : List Int} (h : Bs l) (i : Nat) {v : Int} (hv : B8 v) : Bs (l.set i v) := fun x hx => by
  rcases List.mem_or_eq_of_mem_set hx with h' | rfl
  · exact h x h'
  · exact hv
theorem mixAt_bs (l : List Int) (c : Nat) (h : Bs l) : Bs (mixAt l c) := set_bs (set_bs (set_bs (set_bs h _ (x8_b _ _)) _ (x8_b _ _)) _ (x8_b _ _)) _ (x8_b _ _)
theorem mixN_len (t : List Int) : ∀ j, (mixN t j).length = t.length
  | 0 => rfl
  | j + 1 => by rw [mixN, mixAt_len, mixN_len t j]
theorem mixN_bs (t : List Int) (h : Bs t) : ∀ j, Bs (mixN t j)
  | 0 => h
  | j + 1 => mixAt_bs _ _ (mixN_bs t h j)
/-- a round: which one -/
def rnd5 (ks : List Int) (n : Nat) (s : List Int) : List Int := xk (if n < 10 then mixN (ss s) 4 else ss s) ks (16 * n)
def blkTo (ks b : List Int) : Nat → List Int
  | 0 => xk b ks 0
  | n + 1 => rnd5 ks (n + 1) (blkTo ks b n)
/-- a block, of the keys' bytes -/
def blk5 (ks b : List Int) : List Int := blkTo ks b 10
theorem xk_len (s ks : List Int) (o : Nat) : (xk s ks o).length = 16 := all16_len _
theorem xk_bs (s ks : List Int) (o : Nat) : Bs (xk s ks o) := all16_bs _ fun _ _ => x8_b _ _
theorem blkTo_len (ks b : List Int) : ∀ n, (blkTo ks b n).length = 16
  | 0 => xk_len _ _ _
  | n + 1 => xk_len _ _ _
theorem blkTo_bs (ks b : List Int) : ∀ n, Bs (blkTo ks b n)
  | 0 => xk_bs _ _ _
  | n + 1 => xk_bs _ _ _
theorem ss_len (s : List Int) : (ss s).length = 16 := all16_len _
theorem ss_bs (s : List Int) : Bs (ss s) := all16_bs _ fun _ _ => sbx_b _
theorem mapTo_bs (f : Nat → Int) (s : List Int) (hs : Bs s) (hf : ∀ j, B8 (f j)) (i : Nat) : Bs (mapTo f s i) := by
  intro x hx
  simp only [mapTo, List.mem_map, List.mem_range] at hx
  obtain ⟨j, hj, rfl⟩ := hx
  split
  · exact hf j
  · exact hs.at j

/-- a cipher in memory -/
structure CipherAt (w : World) (g bg : Nat) (ks : List Int) : Prop where
  here : w.heap[g]? = some (.cells (ciph bg ks) 56 (0, 0))
  box : w.heap[bg]? = some (.cells bx 70 (0, 0))
  len : ks.length = 176
  bs : Bs ks
theorem CipherAt.keep {w w' : World} {g bg : Nat} {ks : List Int} (h : CipherAt w g bg ks) (hC : Ch (fun _ => False) w w') : CipherAt w' g bg ks := ⟨hC.blk h.here (fun h => h), hC.blk h.box (fun h => h), h.len, h.bs⟩
theorem CipherAt.key {w : World} {g bg : Nat} {ks : List Int} (h : CipherAt w g bg ks) (j : Nat) (hj : j < 176) : w.cell? ⟨g, 1 + j, none⟩ = some (.int .u8 (nt ks j)) := by
  rw [blk_cell h.here, ciph_get _ _ _ (by rw [h.len]; exact hj)]
theorem wp_named {P : Program} (c : Code) {Q : Exit → Act → World → Prop} {a : Act} {w : World} (h : ∀ W, W = w → c.wp P Q a W) : c.wp P Q a w := h w rfl
theorem range_nums {w : World} {g : Nat} {k : IntKind} {l : List Int} {T : TypeId} (h : w.heap[g]? = some (.cells (nums k l).toArray T (0, 0))) : w.rangeAt g 0 (nums k l) := fun j v hv => by rw [Nat.zero_add, blk_cell h]; simpa using hv
def z16 : List Int := List.replicate 16 0
set_option maxRecDepth 100000 in
set_option maxHeartbeats 4000000 in
theorem block5_any (g bg : Nat) (ks b : List Int) (w : World) (hc : CipherAt w g bg ks) (hl : b.length = 16) (hb : Bs b) :
    Calls Try.prog 17 #[.pointer (some ⟨g, 0, none⟩), .agg (nums .u8 b).toArray] w fun e w' =>
      e = .returned (.agg (nums .u8 (blk5 ks b)).toArray) ∧ Ch (fun _ => False) w w' := by
  have HCI := Lib.hid hc
  have HL := Lib.hid hl
  have hgw := blk_lt hc.here
  have hbw := blk_lt hc.box
  clear hc hl
  go_enter Try.func17, Try.ntmps17
  go_upto_region 1 with fail
  refine wp_named _ fun w1 hw1 => ?_
  have hC1 : Ch (fun _ => False) w w1 := by rw [hw1]; exact ((Ch.refl _ _).alloc _).alloc _
  have hB1 : w1.rangeAt w.heap.size 0 (nums .u8 b) := by rw [hw1]; exact fun j v hv => by rw [Nat.zero_add, blk_cell (heap_alloc2_old _ _ _)]; simpa using hv
  have hR1 : w1.heap[w.heap.size + 1]? = some (.cells (nums .u8 z16).toArray 30 (0, 0)) := by rw [hw1]; exact heap_alloc2_new _ _ _
  have hZ1 : w1.heap.size = w.heap.size + 2 := by rw [hw1]; simp
  have HB1 := Lib.hid hB1
  clear hw1 hB1
  obtain ⟨r, hr⟩ : ∃ r, w.heap.size + 1 = r := ⟨_, rfl⟩
  obtain ⟨s, hs⟩ : ∃ s, w1.heap.size = s := ⟨_, rfl⟩
  have HN : Hid (r = w.heap.size + 1 ∧ s = w.heap.size + 2 ∧ g < w.heap.size ∧ bg < w.heap.size) := Lib.hid ⟨hr.symm, by rw [← hs, hZ1], hgw, hbw⟩
  rw [hr] at hR1 ⊢
  have HC1 := Lib.hid hC1
  have HR1 := Lib.hid hR1
  have HS := Lib.hid hs
  clear hr hgw hbw hZ1 hC1 hR1 hs
  go_wp2_with (first
    | (refine wpList_load_mid rfl 30 (.tmp 3) rfl w.heap.size 0 rfl (nums .u8 b) (.array 16 5) HB1.out Try.underlying30 rfl (by rw [nums_len, HL.out]; kernel_rfl) ?_)
    | (refine Great.wpList_runTo rfl (some 5) rfl (.pointer (some ⟨w1.heap.size, 0, none⟩)) (w1.alloc (.cells (nums .u8 z16).toArray 30)) (by kernel_rfl) ?_)
    | (refine wpList_store_row rfl 30 (.tmp 5) (.tmp 12) rfl w1.heap.size (nums .u8 b).toArray rfl rfl 30 (nums .u8 z16).toArray (heap_alloc_new _ _) (by rw [List.size_toArray, nums_len, HL.out]; kernel_rfl) (by simp [nums, HL.out, z16]) (all_nums _ _) ?_; rw [setRow_alloc]; obtain ⟨w2, hw2⟩ : ∃ w2, w1.alloc (.cells (nums .u8 b).toArray 30) = w2 := ⟨_, rfl⟩; rw [hw2, HS.out]; (have HC2 : Hid (Ch (fun _ => False) w w2) := by rw [← hw2]; exact HC1.out.alloc _); (have HR2 : Hid (w2.heap[r]? = some (.cells (nums .u8 z16).toArray 30 (0, 0))) := by rw [← hw2]; exact Ch.blk ((Ch.refl (fun _ => False) _).alloc _) HR1.out (fun h => h)); (have HS2 : Hid (w2.heap[s]? = some (.cells (nums .u8 b).toArray 30 (0, 0))) := by rw [← hw2, ← HS.out]; exact heap_alloc_new _ _); clear hw2))
  clear HC1 HB1 HR1 HS
  go_loopw [6, 13] (fun _ i wr => ∃ k : Nat, k ≤ 16 ∧ i = .int .i64 k ∧ wr.heap[s]? = some (.cells (nums .u8 (mapTo (fun i => x8 (nt b i) (nt ks (0 + i))) b k)).toArray 30 (0, 0)) ∧ wr.heap[r]? = some (.cells (nums .u8 z16).toArray 30 (0, 0)) ∧ Ch (fun _ => False) w wr) (fun _ i _ => (16 - intOf i).toNat)
  case atStart => exact ⟨0, by omega, rfl, by rw [mapTo_0 _ _ HL.out]; exact HS2.out, HR2.out, HC2.out⟩
  case round =>
    obtain ⟨k, hk, rfl, hS, hR, hC⟩ := hrel
    have HS := Lib.hid hS
    have HR := Lib.hid hR
    have HC := Lib.hid hC
    clear hS hR hC HS2 HR2 HC2
    by_cases hlt : k < 16
    · --[A1
      have cs := blk_nums HS.out k (by rw [mapTo_len]; exact hlt)
      rw [mapTo_at _ _ _ _ hlt, if_neg (by omega)] at cs
      have ck := (HCI.out.keep HC.out).key k (by omega)
      obtain ⟨x0, x1⟩ := hb.at k
      obtain ⟨y0, y1⟩ := HCI.out.bs.at k
      have HX := Lib.hid (show x8 (nt b k) (nt ks (0 + k)) = bits .xor .u8 (nt b k) (nt ks k) by rw [Nat.zero_add]; rfl)
      go_wp2
      refine wp_region_quiet_tail 12 (by kernel_rfl) (by kernel_rfl) ?_
      simp only [List.take_succ_cons, List.take_zero, List.drop_succ_cons, List.drop_zero]
      repeat (go_big_quiet_step (fail))
      refine wpQuiet_nil ?_
      intro wq hw'
      obtain ⟨nd, rfl⟩ := hw'
      have HSq := Lib.hid (drewN_blk nd HS.out)
      have HRq := Lib.hid (drewN_blk nd HR.out)
      have HCq := Lib.hid (HC.out.drewN nd)
      generalize wr.drewN nd = wq at *
      refine wpList_store_at rfl 5 (.tmp 27) (.tmp 26) rfl s k (.int .u8 (bits .xor .u8 (nt b k) (nt ks k))) rfl rfl rfl _ _ HSq.out (by rw [List.size_toArray, nums_len, mapTo_len]; exact hlt) (by kernel_rfl) ?_
      intro w5 hw' hc'
      rw [nums_set, ← HX.out, mapTo_set (fun i => x8 (nt b i) (nt ks (0 + i))) b k hlt] at hw'
      have HS5 := Lib.hid hw'
      have HR5 := Lib.hid (hc'.blk HRq.out (by have := HN.out; omega))
      have HC5 := Lib.hid (HCq.out.then_ hc' (fun i hi e => by have := HN.out; omega))
      clear hw' hc'
      simp only [Act.put]
      go_wp2
      exact ⟨⟨k + 1, by omega, by go_num, HS5.out, HR5.out, HC5.out⟩, by simp [intOf]; omega⟩
      --A1]
    · obtain rfl : k = 16 := by omega
      rw [show ((16 : Nat) : Int) = 16 from rfl]
      have HS1 : Hid (wr.heap[s]? = some (.cells (nums .u8 (blkTo ks b 0)).toArray 30 (0, 0))) := by
        have := HS.out
        rw [mapTo_16] at this
        exact this
      clear HS hlt hk
      go_wp2
      clear hb
      obtain ⟨wo, hwo⟩ : ∃ wo : World, wo = wr := ⟨_, rfl⟩
      rw [← hwo] at HS1 HR HC ⊢
      clear hwo
      go_loopw [7] (fun n wr => ∃ m : Nat, m ≤ 10 ∧ n = .int .i64 (m + 1) ∧ wr.heap[s]? = some (.cells (nums .u8 (blkTo ks b m)).toArray 30 (0, 0)) ∧ wr.heap[r]? = some (.cells (nums .u8 z16).toArray 30 (0, 0)) ∧ Ch (fun _ => False) w wr) (fun n _ => (11 - intOf n).toNat)
      case atStart => exact ⟨0, by omega, rfl, HS1.out, HR.out, HC.out⟩
      case round =>
        obtain ⟨m, hm, rfl, hS, hR, hC⟩ := hrel
        clear HS1 HR HC
        have HS := Lib.hid hS
        have HR := Lib.hid hR
        have HC := Lib.hid hC
        clear hS hR hC
        by_cases hm10 : m < 10
        · have hsl := blkTo_len ks b m
          have hsb := blkTo_bs ks b m
          have hnx : blkTo ks b (m + 1) = xk (if m + 1 < 10 then mixN (ss (blkTo ks b m)) 4 else ss (blkTo ks b m)) ks (16 * (m + 1)) := rfl
          have HNX := Lib.hid hnx
          clear hnx
          have HSL := Lib.hid hsl
          generalize blkTo ks b m = S at *
          clear hsl
          have hm11 : decide ((m : Int) + 1 < 11) = true := by simp; omega
          go_upto_region 11 with fail
          refine wp_named _ fun w3 hw3 => ?_
          have hT3 : w3.heap[wr.heap.size]? = some (.cells (nums .u8 z16).toArray 30 (0, 0)) := by rw [hw3]; exact heap_alloc_new _ _
          have hC3 : Ch (fun _ => False) wr w3 := by rw [hw3]; exact (Ch.refl _ _).alloc _
          obtain ⟨t, ht⟩ : ∃ t, wr.heap.size = t := ⟨_, rfl⟩
          rw [ht] at hT3 ⊢
          have HT : Hid (t ≠ s ∧ t ≠ r ∧ w.heap.size ≤ t) := Lib.hid ⟨by have := blk_lt HS.out; omega, by have := blk_lt HR.out; omega, by have := HC.out.size; omega⟩
          have HT3 := Lib.hid hT3
          have HS3 := Lib.hid (hC3.blk HS.out (fun h => h))
          have HR3 := Lib.hid (hC3.blk HR.out (fun h => h))
          have HC3 := Lib.hid (HC.out.trans hC3)
          clear hw3 hT3 hC3 ht HS HR HC
          go_wp2
          obtain ⟨wn, hwn⟩ : ∃ wn : World, wn = wr := ⟨_, rfl⟩
          clear hwn
          go_loopw [9, 33] (fun _ i wr => ∃ k : Nat, k ≤ 16 ∧ i = .int .i64 k ∧ wr.heap[t]? = some (.cells (nums .u8 (mapTo (fun i => sbx (nt S ((i + 4 * (i % 4)) % 16))) z16 k)).toArray 30 (0, 0)) ∧ wr.heap[s]? = some (.cells (nums .u8 S).toArray 30 (0, 0)) ∧ wr.heap[r]? = some (.cells (nums .u8 z16).toArray 30 (0, 0)) ∧ Ch (fun _ => False) w wr) (fun _ i _ => (16 - intOf i).toNat)
          case atStart => exact ⟨0, by omega, rfl, by rw [mapTo_0 _ _ rfl]; exact HT3.out, HS3.out, HR3.out, HC3.out⟩
          case round =>
            obtain ⟨k, hk, rfl, hT, hS, hR, hC⟩ := hrel
            have HTT := Lib.hid hT
            have HS := Lib.hid hS
            have HR := Lib.hid hR
            have HC := Lib.hid hC
            clear hT hS hR hC HT3 HS3 HR3 HC3
            by_cases hlt : k < 16
            · --[A2
              have cb : wr.cell? ⟨g, 0, none⟩ = some (.pointer (some ⟨bg, 0, none⟩)) := by rw [blk_cell (HCI.out.keep HC.out).here]; rfl
              have cs := blk_nums HS.out ((k + 4 * (k % 4)) % 16) (by rw [HSL.out]; omega)
              have cx : wr.cell? ⟨bg, (nt S ((k + 4 * (k % 4)) % 16)).toNat, none⟩ = some (.int .u8 (sbx (nt S ((k + 4 * (k % 4)) % 16)))) := by rw [blk_cell (HCI.out.keep HC.out).box]; exact bx_get _ (hsb.at _)
              obtain ⟨x0, x1⟩ := hsb.at ((k + 4 * (k % 4)) % 16)
              have HB := Lib.hid (sbx_b (nt S ((k + 4 * (k % 4)) % 16)))
              go_wp2
              refine wp_region_quiet_tail 17 (by kernel_rfl) (by kernel_rfl) ?_
              simp only [List.take_succ_cons, List.take_zero, List.drop_succ_cons, List.drop_zero]
              repeat (go_big_quiet_step (fail))
              refine wpQuiet_nil ?_
              intro wq hw'
              obtain ⟨nd, rfl⟩ := hw'
              have HTq := Lib.hid (drewN_blk nd HTT.out)
              have HSq := Lib.hid (drewN_blk nd HS.out)
              have HRq := Lib.hid (drewN_blk nd HR.out)
              have HCq := Lib.hid (HC.out.drewN nd)
              generalize wr.drewN nd = wq at *
              refine wpList_store_at rfl 5 (.tmp 52) (.tmp 51) rfl t k (.int .u8 (sbx (nt S ((k + 4 * (k % 4)) % 16)))) rfl rfl rfl _ _ HTq.out (by rw [List.size_toArray, nums_len, mapTo_len]; exact hlt) (by kernel_rfl) ?_
              intro w5 hw' hc'
              rw [nums_set, mapTo_set (fun i => sbx (nt S ((i + 4 * (i % 4)) % 16))) z16 k hlt] at hw'
              have HT5 := Lib.hid hw'
              have HS5 := Lib.hid (hc'.blk HSq.out (by have := HT.out; omega))
              have HR5 := Lib.hid (hc'.blk HRq.out (by have := HT.out; omega))
              have HC5 := Lib.hid (HCq.out.then_ hc' (fun i hi e => by have := HT.out; omega))
              clear hw' hc'
              simp only [Act.put]
              go_wp2
              exact ⟨⟨k + 1, by omega, by go_num, HT5.out, HS5.out, HR5.out, HC5.out⟩, by simp [intOf]; omega⟩
              --A2]
            · obtain rfl : k = 16 := by omega
              rw [show ((16 : Nat) : Int) = 16 from rfl]
              have HT4 : Hid (wr.heap[t]? = some (.cells (nums .u8 (mixN (ss S) 0)).toArray 30 (0, 0))) := by
                have := HTT.out
                rw [mapTo_16] at this
                exact this
              clear HTT hlt hk
              go_wp2
              obtain ⟨wp, hwp⟩ : ∃ wp : World, wp = wr := ⟨_, rfl⟩
              rw [← hwp] at HT4 HS HR HC ⊢
              clear hwp
              have hml := mixN_len (ss S)
              have hmb := mixN_bs (ss S) (ss_bs S)
              rw [ss_len] at hml
              have HML := Lib.hid hml
              have HMB := Lib.hid hmb
              clear hml hmb
              go_loopw [10] (fun at_ wr => ∃ j : Nat, j ≤ 4 ∧ (j = 0 ∨ m + 1 < 10) ∧ at_ = .int .i64 ((4 * j : Nat) : Int) ∧ wr.heap[t]? = some (.cells (nums .u8 (mixN (ss S) j)).toArray 30 (0, 0)) ∧ wr.heap[s]? = some (.cells (nums .u8 S).toArray 30 (0, 0)) ∧ wr.heap[r]? = some (.cells (nums .u8 z16).toArray 30 (0, 0)) ∧ Ch (fun _ => False) w wr) (fun at_ _ => (16 - intOf at_).toNat)
              case atStart => exact ⟨0, by omega, .inl rfl, rfl, HT4.out, HS.out, HR.out, HC.out⟩
              case round =>
                obtain ⟨j, hj, hjm, rfl, hT, hS, hR, hC⟩ := hrel
                clear HT4 HS HR HC
                have HTT := Lib.hid hT
                have HS := Lib.hid hS
                have HR := Lib.hid hR
                have HC := Lib.hid hC
                clear hT hS hR hC
                by_cases hgo : j < 4 ∧ m + 1 < 10
                · obtain ⟨hj4, hm9⟩ := hgo
                  have HMX := Lib.hid (mix_any t (mixN (ss S) j) _ (4 * j) wr (HML.out j) (HMB.out j) HTT.out (by omega))
                  have hm9' : decide ((m : Int) + 1 < 10) = true := by simp; omega
                  go_wp2_with (go_at_call 31; refine (HMX.out).mono ?_; rintro e w5 ⟨rfl, hT, hc⟩; have HT5 := Lib.hid hT; have HS5 := Lib.hid (hc.blk HS.out (by have := HT.out; omega)); have HR5 := Lib.hid (hc.blk HR.out (by have := HT.out; omega)); have HC5 := Lib.hid (HC.out.then_ hc (fun i hi e => by have := HT.out; omega)); clear hT hc)
                  exact ⟨⟨j + 1, by omega, .inr hm9, by go_num, HT5.out, HS5.out, HR5.out, HC5.out⟩, by simp [intOf]; omega⟩
                · have hend : (j = 4 ∧ m + 1 < 10) ∨ (j = 0 ∧ ¬ m + 1 < 10) := by omega
                  have HT6 : Hid (wr.heap[t]? = some (.cells (nums .u8 (if m + 1 < 10 then mixN (ss S) 4 else ss S)).toArray 30 (0, 0))) := by
                    rcases hend with ⟨rfl, h9⟩ | ⟨rfl, h9⟩
                    · rw [if_pos h9]; exact HTT.out
                    · rw [if_neg h9]; exact HTT.out
                  have hul : (if m + 1 < 10 then mixN (ss S) 4 else ss S).length = 16 := by
                    split
                    · exact HML.out 4
                    · exact ss_len S
                  have hub : Bs (if m + 1 < 10 then mixN (ss S) 4 else ss S) := by
                    split
                    · exact HMB.out 4
                    · exact ss_bs S
                  have HUL := Lib.hid hul
                  generalize (if m + 1 < 10 then mixN (ss S) 4 else ss S) = U at *
                  clear hul HTT HML HMB hgo
                  rcases hend with ⟨rfl, h9⟩ | ⟨rfl, h9⟩
                  all_goals
                    first | rw [show ((4 * 4 : Nat) : Int) = 16 from rfl] | (rw [show ((4 * 0 : Nat) : Int) = 0 from rfl]; have h9' : decide ((m : Int) + 1 < 10) = false := by simp; omega)
                    go_wp2
                    obtain ⟨wv, hwv⟩ : ∃ wv : World, wv = wr := ⟨_, rfl⟩
                    rw [← hwv] at HT6 HS HR HC ⊢
                    clear hwv
                    go_loopw [11, 64] (fun _ i wr => ∃ k : Nat, k ≤ 16 ∧ i = .int .i64 k ∧ wr.heap[s]? = some (.cells (nums .u8 (mapTo (fun i => x8 (nt U i) (nt ks (16 * (m + 1) + i))) S k)).toArray 30 (0, 0)) ∧ wr.heap[t]? = some (.cells (nums .u8 U).toArray 30 (0, 0)) ∧ wr.heap[r]? = some (.cells (nums .u8 z16).toArray 30 (0, 0)) ∧ Ch (fun _ => False) w wr) (fun _ i _ => (16 - intOf i).toNat)
                    case atStart => exact ⟨0, by omega, rfl, by rw [mapTo_0 _ _ HSL.out]; exact HS.out, HT6.out, HR.out, HC.out⟩
                    case round =>
                      obtain ⟨k, hk, rfl, hS, hT, hR, hC⟩ := hrel
                      clear HT6 HS HR HC
                      have HTT := Lib.hid hT
                      have HS := Lib.hid hS
                      have HR := Lib.hid hR
                      have HC := Lib.hid hC
                      clear hT hS hR hC
                      by_cases hlt : k < 16
                      · --[A3
                        have cu := blk_nums HTT.out k (by rw [HUL.out]; exact hlt)
                        have cs := blk_nums HS.out k (by rw [mapTo_len]; exact hlt)
                        have ck := (HCI.out.keep HC.out).key (16 * (m + 1) + k) (by omega)
                        rw [show 1 + (16 * (m + 1) + k) = 1 + (m + 1) * 16 + k by omega] at ck
                        obtain ⟨x0, x1⟩ := hub.at k
                        obtain ⟨y0, y1⟩ := HCI.out.bs.at (16 * (m + 1) + k)
                        go_wp2
                        refine wp_region_quiet_tail 14 (by kernel_rfl) (by kernel_rfl) ?_
                        simp only [List.take_succ_cons, List.take_zero, List.drop_succ_cons, List.drop_zero]
                        repeat (go_big_quiet_step (fail))
                        refine wpQuiet_nil ?_
                        intro wq hw'
                        obtain ⟨nd, rfl⟩ := hw'
                        have HTq := Lib.hid (drewN_blk nd HTT.out)
                        have HSq := Lib.hid (drewN_blk nd HS.out)
                        have HRq := Lib.hid (drewN_blk nd HR.out)
                        have HCq := Lib.hid (HC.out.drewN nd)
                        generalize wr.drewN nd = wq at *
                        refine wpList_store_at rfl 5 (.tmp 80) (.tmp 79) rfl s k (.int .u8 (x8 (nt U k) (nt ks (16 * (m + 1) + k)))) rfl rfl rfl _ _ HSq.out (by rw [List.size_toArray, nums_len, mapTo_len]; exact hlt) (by kernel_rfl) ?_
                        intro w5 hw' hc'
                        rw [nums_set, mapTo_set (fun i => x8 (nt U i) (nt ks (16 * (m + 1) + i))) S k hlt] at hw'
                        have HS5 := Lib.hid hw'
                        have HT5 := Lib.hid (hc'.blk HTq.out (by have := HT.out; omega))
                        have HR5 := Lib.hid (hc'.blk HRq.out (by have := HN.out; omega))
                        have HC5 := Lib.hid (HCq.out.then_ hc' (fun i hi e => by have := HN.out; omega))
                        clear hw' hc'
                        simp only [Act.put]
                        go_wp2
                        exact ⟨⟨k + 1, by omega, by go_num, HS5.out, HT5.out, HR5.out, HC5.out⟩, by simp [intOf]; omega⟩
                        --A3]
                      · obtain rfl : k = 16 := by omega
                        have HS7 := HS.out
                        rw [mapTo_16] at HS7
                        have HS7 := Lib.hid HS7
                        clear HS hlt hk
                        rw [show ((16 : Nat) : Int) = 16 from rfl]
                        go_wp2
                        exact ⟨⟨m + 1, by omega, by go_num, by rw [HNX.out]; exact HS7.out, HR.out, HC.out⟩, by simp [intOf]; omega⟩
        · obtain rfl : m = 10 := by omega
          have HCF := Lib.hid (HC.out)
          go_wp2_with (first
            | (refine wpList_load_mid rfl 30 (.tmp 5) rfl s 0 rfl (nums .u8 (blkTo ks b 10)) (.array 16 5) (range_nums HS.out) Try.underlying30 rfl (by rw [nums_len, blkTo_len]; kernel_rfl) ?_)
            | (refine wpList_store_row rfl 30 (.tmp 4) (.tmp 82) rfl r (nums .u8 (blkTo ks b 10)).toArray rfl rfl 30 (nums .u8 z16).toArray HR.out (by rw [List.size_toArray, nums_len, blkTo_len]; kernel_rfl) (by simp [nums, blkTo_len, z16]) (all_nums _ _) ?_))
          refine bodyPost_ret (results_cell_row rfl _ _ r 30 (nums .u8 (blkTo ks b 10)).toArray (0, 0) (.array 16 5) rfl (setRow_heap _ _ _ _ _ _ HR.out) Try.underlying30 rfl (by rw [List.size_toArray, nums_len, blkTo_len]; kernel_rfl)) rfl ⟨rfl, HC.out.setRow (.inr (by have := HN.out; omega)) _⟩
end Go.Proofs.Ytejhjlfakfaegaa
