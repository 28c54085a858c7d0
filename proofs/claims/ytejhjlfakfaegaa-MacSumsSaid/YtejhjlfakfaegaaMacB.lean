/- mac's Derive and Text. -/
import Derived.Test.YtejhjlfakfaegaaMacA
import Derived.Test.YtejhjlfakfaegaaAesB
set_option linter.unusedSimpArgs false
set_option linter.unusedVariables false
namespace Go.Proofs.Ytejhjlfakfaegaa
open Go.RowKit Go.Proofs.YtejhjlfakfaegaaW.PrintWords

set_option maxRecDepth 100000 in
set_option maxHeartbeats 1000000 in
theorem okey_any (A : Option Addr) (c : Nat) (l : List Int) (w : World) (hr : ReadsInt w .u8 A 16 l) :
    Calls Try.prog 43 #[.slice A 16 c] w fun e w' => e = .returned (.tuple #[.agg (nums .u8 l).toArray, .bool true]) ∧ Ch (fun _ => False) w w' := by
  obtain ⟨hl, -, hc⟩ := hr
  obtain ⟨ad, rfl, hcell⟩ := hc (by omega)
  have HSRC : Hid (∀ j v, (nums .u8 l)[j]? = some v → w.cell? (ad.add j) = some v) := Lib.hid fun j v hv => by
    obtain ⟨hj, e⟩ := List.getElem?_eq_some_iff.1 hv
    have hj' : j < 16 := by rw [← hl]; simpa [nums] using hj
    rw [hcell j hj', ← e]
    simp [nums, List.getD_eq_getElem?_getD, hl, hj']
  have HL := Lib.hid hl
  clear hl hc hcell
  go_enter Try.func43, Try.ntmps43
  go_wp2_with first
    | (refine wpList_copy_row rfl (.tmp 9) (.tmp 10) 22 22 rfl 5 Try.underlying22 (by kernel_rfl) (w.heap.size + 1) 0 16 16 ad 16 c rfl rfl (nums .u8 (List.replicate 16 0)).toArray 51 (heap_alloc2_new w _ _) (nums .u8 l) (by rw [nums_len, HL.out]; rfl) (fun j v hv => (((Ch.refl (fun _ => False) w).alloc _).alloc _).cell (HSRC.out j v hv) (fun h => h)) (by rw [nums_len, HL.out]; decide) (nums_one _ _) ?_; intro w2 h2 hc2; (have H2 : Hid (w2.heap[w.heap.size + 1]? = some (.cells (nums .u8 l).toArray 51 (0, 0))) := Lib.hid (by rw [h2, List.take_zero, List.nil_append, nums_len, HL.out]; (rw [show List.drop (0 + 16) (nums .u8 (List.replicate 16 0)).toArray.toList = [] by rfl, List.append_nil]))); have HK2 : Hid (w2.heap[w.heap.size]? = some (.cells (nums .u8 (List.replicate 16 0)).toArray 51 (0, 0))) := Lib.hid (hc2.blk (heap_alloc2_old w _ _) (by show w.heap.size ≠ w.heap.size + 1; omega)); have HC2 : Hid (Ch (fun _ => False) w w2) := Lib.hid ((((Ch.refl (fun _ => False) w).alloc _).alloc _).then_ hc2 (fun i hi e => by omega)); clear h2 hc2 HSRC)
    | (refine wpList_load_mid rfl 51 (.tmp 4) rfl (w.heap.size + 1) 0 rfl (nums .u8 l) (.array 16 5) (range_nums H2.out) Try.underlying51 rfl (by rw [nums_len, HL.out]; kernel_rfl) ?_)
    | (refine wpList_store_blk rfl 51 (.tmp 2) (.tmp 12) rfl w.heap.size 0 (nums .u8 l) rfl rfl (nums .u8 (List.replicate 16 0)).toArray 51 HK2.out (by rw [nums_len, HL.out]; decide) (by rw [nums_len, HL.out]; kernel_rfl) (nums_one _ _) ?_; intro w3 h3 hc3; (have H3 : Hid (w3.heap[w.heap.size]? = some (.cells (nums .u8 l).toArray 51 (0, 0))) := Lib.hid (by rw [h3, List.take_zero, List.nil_append, nums_len, HL.out]; (rw [show List.drop (0 + 16) (nums .u8 (List.replicate 16 0)).toArray.toList = [] by rfl, List.append_nil]))); have HC3 : Hid (Ch (fun _ => False) w w3) := Lib.hid (HC2.out.then_ hc3 (fun i hi e => by omega)); clear h3 hc3)
  refine bodyPost_ret (results_ct rfl _ _ w.heap.size 51 (nums .u8 l).toArray (0, 0) (.array 16 5) rfl H3.out Try.underlying51 rfl (by rw [List.size_toArray, nums_len, HL.out]; kernel_rfl)) rfl ⟨rfl, HC3.out⟩
/-- the key that a key has for a label -/
def drv (k s : List Int) : List Int := (hmac k (s ++ [0, 1])).take 16
theorem hmac_len (k m : List Int) : (hmac k m).length = 32 := sha_len _
theorem hmac_b (k m : List Int) : Bs (hmac k m) := sha_b _
theorem drv_len (k s : List Int) : (drv k s).length = 16 := by rw [drv, List.length_take, hmac_len]; rfl
theorem bytesOf_bs (s : ByteArray) : Bs (bytesOf s) := by
  intro x hx
  simp only [bytesOf, List.mem_map] at hx
  obtain ⟨b, _, rfl⟩ := hx
  have := b.toNat_lt
  constructor <;> omega
set_option maxRecDepth 100000 in
set_option maxHeartbeats 1000000 in
theorem derive_any (l : List Int) (s : ByteArray) (w : World) (hl : l.length = 16) (hb : Bs l) (hs : s.size < 100000) :
    Calls Try.prog 32 #[.agg (nums .u8 l).toArray, .string s] w fun e w' => e = .returned (.agg (nums .u8 (drv l (bytesOf s))).toArray) ∧ Ch (fun _ => False) w w' := by
  have HL := Lib.hid hl
  have HB := Lib.hid hb
  clear hl hb
  have kb := fun W => print_bytes (P := Try.prog) 9 22 5 Try.underlying9 Try.underlying22 Try.underlying5 s W
  go_enter Try.func32, Try.ntmps32
  go_wp2_with fail
  have e2 : ((w.alloc (.cells (nums .u8 l).toArray 51)).alloc (.cells (nums .u8 (List.replicate 16 0)).toArray 51)).heap.size = w.heap.size + 1 + 1 := by simp
  have hbr := bytes_reads ((w.alloc (.cells (nums .u8 l).toArray 51)).alloc (.cells (nums .u8 (List.replicate 16 0)).toArray 51)) 5 s (by omega)
  have hbb := (Ch.of_below (S := fun _ => False) (bytes_below (Below.refl _ ((w.alloc (.cells (nums .u8 l).toArray 51)).alloc (.cells (nums .u8 (List.replicate 16 0)).toArray 51))) (Nat.le_refl _) 5 s))
  rw [e2] at hbr
  have hk0 := hbb.blk (heap_alloc2_old w _ _) (fun h => h)
  have hz0 := hbb.blk (heap_alloc2_new w _ _) (fun h => h)
  have hch := (((Ch.refl (fun _ => False) w).alloc _).alloc _).then_ (S' := fun _ => False) hbb (fun _ _ h => h.elim)
  clear hbb kb
  obtain ⟨WB, hWB⟩ : ∃ WB, WB = Lib.bytesWorld ((w.alloc (.cells (nums .u8 l).toArray 51)).alloc (.cells (nums .u8 (List.replicate 16 0)).toArray 51)) 5 s := ⟨_, rfl⟩
  rw [← hWB] at hbr hk0 hz0 hch
  have HBR := Lib.hid hbr
  have HK0 := Lib.hid hk0
  have HZ0 := Lib.hid hz0
  have HCH := Lib.hid hch
  clear hbr hk0 hz0 hch
  have HO : Hid (∀ c, Calls Try.prog 19 #[.slice (some ⟨w.heap.size, 0, none⟩) 16 16, .slice (some ⟨WB.heap.size + 1, 0, none⟩) 2 2] ((WB.alloc (.cells #[.int .u8 0, .int .u8 1] 5)).alloc (.cells #[.slice (some ⟨w.heap.size + 1 + 1, 0, none⟩) s.size c, .slice (some ⟨WB.heap.size, 0, none⟩) 2 2] 22)) fun e w' => ∃ v, e = .returned v ∧ w'.ownsRow w.heap.size 5 1 v 32 (nums .u8 (hmac l (bytesOf s ++ [0, 1]))) ∧ Ch (fun _ => False) w w' ∧ w'.heap[w.heap.size + 1]? = some (.cells (nums .u8 (List.replicate 16 0)).toArray 51 (0, 0))) := Lib.hid fun c => by
    have hcc : Ch (fun _ => False) WB ((WB.alloc (.cells #[.int .u8 0, .int .u8 1] 5)).alloc (.cells #[.slice (some ⟨w.heap.size + 1 + 1, 0, none⟩) s.size c, .slice (some ⟨WB.heap.size, 0, none⟩) 2 2] 22)) := ((Ch.refl _ _).alloc _).alloc _
    have hr2 := rows2_two (heap_alloc2_new WB (.cells #[.int .u8 0, .int .u8 1] 5) (.cells #[.slice (some ⟨w.heap.size + 1 + 1, 0, none⟩) s.size c, .slice (some ⟨WB.heap.size, 0, none⟩) 2 2] 22)) (hcc.reads HBR.out (fun _ _ h => h)) (reads_blk (l := [0, 1]) (k := .u8) (n := 2) (heap_alloc2_old WB _ _) rfl (by decide))
    refine (msum_any _ _ 16 16 2 2 l [bytesOf s, [0, 1]] _ (reads_blk (hcc.blk HK0.out (fun h => h)) HL.out (by decide)) hr2 HB.out ?_ (by decide) (by simp [bytesOf_length]; omega) (by decide)).mono ?_
    · intro x hx
      simp only [List.mem_cons, List.not_mem_nil, or_false] at hx
      rcases hx with rfl | rfl
      · exact bytesOf_bs s
      · unfold Bs; decide
    · rintro e w' ⟨v, rfl, ho, hb⟩
      rw [show ([bytesOf s, [0, 1]] : List (List Int)).flatten = bytesOf s ++ [0, 1] by simp] at ho
      exact ⟨v, rfl, own_less ho (by have := HCH.out.size; simp; omega), (HCH.out.then_ hcc (fun _ _ h => h.elim)).then_ (S' := fun _ => False) (Ch.of_below hb) (fun _ _ h => h.elim), (Ch.of_below (S := fun _ => False) hb).blk (hcc.blk HZ0.out (fun h => h)) (fun h => h)⟩
  subst hWB
  refine (HO.out _).mono ?_
  clear HO HBR HK0 HZ0 HCH e2 HB
  rintro e w2 ⟨v, rfl, ho, hC, hz⟩
  have HZ := Lib.hid hz
  obtain ⟨A2, c2, rfl, h32⟩ := q_slice (q_of_own ho)
  have HR2 := Lib.hid ((rd_own ho).take_ 16 (by omega))
  have HC2 := Lib.hid hC
  clear ho hC hz
  go_wp2_with fail
  have hdl : (drv l (bytesOf s)).length = 16 := drv_len _ _
  have HD : Hid (ReadsInt w2 .u8 A2 16 (drv l (bytesOf s))) := HR2
  have HDL := Lib.hid hdl
  clear HR2 hdl
  obtain ⟨d, hd⟩ : ∃ d, d = drv l (bytesOf s) := ⟨_, rfl⟩
  rw [← hd] at HD HDL
  have HDE := Lib.hid hd
  clear hd
  refine (okey_any A2 c2 d w2 HD.out).mono ?_
  rintro e w3 ⟨rfl, hC3⟩
  have HC3 := Lib.hid (HC2.out.then_ hC3 (fun _ _ h => h.elim))
  have HZ3 := Lib.hid (hC3.blk HZ.out (fun h => h))
  have HB3 : Hid (w.heap.size + 1 < w3.heap.size) := Lib.hid (blk_lt HZ3.out)
  clear hC3 HZ
  go_wp2_with first
    | (refine wpList_store_blk rfl 51 (.tmp 5) (.tmp 16) rfl w3.heap.size 0 (nums .u8 d) rfl rfl (nums .u8 (List.replicate 16 0)).toArray 51 (heap_alloc_new w3 _) (by rw [nums_len, HDL.out]; decide) (by rw [nums_len, HDL.out]; kernel_rfl) (nums_one _ _) ?_; intro w4 h4 hc4; (have H4 : Hid (w4.heap[w3.heap.size]? = some (.cells (nums .u8 d).toArray 51 (0, 0))) := Lib.hid (by rw [h4, List.take_zero, List.nil_append, nums_len, HDL.out]; (rw [show List.drop (0 + 16) (nums .u8 (List.replicate 16 0)).toArray.toList = [] by rfl, List.append_nil]))); have HZ4 : Hid (w4.heap[w.heap.size + 1]? = some (.cells (nums .u8 (List.replicate 16 0)).toArray 51 (0, 0))) := Lib.hid (hc4.blk (((Ch.refl (fun _ => False) w3).alloc _).blk HZ3.out (fun h => h)) (by show w.heap.size + 1 ≠ w3.heap.size; have := HB3.out; omega)); have HC4 : Hid (Ch (fun _ => False) w w4) := Lib.hid ((HC3.out.alloc _).then_ hc4 (fun i hi e => by have := HB3.out; omega)); clear h4 hc4 HZ3)
    | (refine wpList_load_mid rfl 51 (.tmp 5) rfl w3.heap.size 0 rfl (nums .u8 d) (.array 16 5) (range_nums H4.out) Try.underlying51 rfl (by rw [nums_len, HDL.out]; kernel_rfl) ?_)
    | (refine wpList_store_blk rfl 51 (.tmp 4) (.tmp 18) rfl (w.heap.size + 1) 0 (nums .u8 d) rfl rfl (nums .u8 (List.replicate 16 0)).toArray 51 HZ4.out (by rw [nums_len, HDL.out]; decide) (by rw [nums_len, HDL.out]; kernel_rfl) (nums_one _ _) ?_; intro w5 h5 hc5; (have H5 : Hid (w5.heap[w.heap.size + 1]? = some (.cells (nums .u8 d).toArray 51 (0, 0))) := Lib.hid (by rw [h5, List.take_zero, List.nil_append, nums_len, HDL.out]; (rw [show List.drop (0 + 16) (nums .u8 (List.replicate 16 0)).toArray.toList = [] by rfl, List.append_nil]))); have HC5 : Hid (Ch (fun _ => False) w w5) := Lib.hid (HC4.out.then_ hc5 (fun i hi e => by omega)); clear h5 hc5)
  refine bodyPost_ret (results_cell_row rfl _ _ (w.heap.size + 1) 51 (nums .u8 d).toArray (0, 0) (.array 16 5) rfl H5.out Try.underlying51 rfl (by rw [List.size_toArray, nums_len, HDL.out]; kernel_rfl)) rfl ⟨by rw [HDE.out], HC5.out⟩
end Go.Proofs.Ytejhjlfakfaegaa
