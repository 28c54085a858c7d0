/- mac's Text. -/
import Derived.Test.YtejhjlfakfaegaaMacB
set_option linter.unusedSimpArgs false
set_option linter.unusedVariables false
namespace Go.Proofs.Ytejhjlfakfaegaa
open Go.RowKit Go.Proofs.YtejhjlfakfaegaaW.PrintWords
def zx (f : Nat → Int) (j : Nat) : List Int := (List.range 32).map fun q => if q < j then f q else 0
theorem zx_len (f : Nat → Int) (i : Nat) : (zx f i).length = 32 := by simp [zx]
theorem zx_set (f : Nat → Int) (i : Nat) (h : i < 32) : (zx f i).set i (f i) = zx f (i + 1) := by
  apply List.ext_getElem
  · simp [zx]
  · intro j h1 h2
    rw [List.getElem_set]
    simp only [zx, List.getElem_map, List.getElem_range]
    by_cases e : i = j
    · subst e; rw [if_pos rfl, if_pos (by omega)]
    · rw [if_neg e]
      by_cases e2 : j < i
      · rw [if_pos e2, if_pos (by omega)]
      · rw [if_neg e2, if_neg (by omega)]
theorem zx_0 (f : Nat → Int) : zx f 0 = List.replicate 32 0 := by
  unfold zx
  rw [List.map_congr_left (g := fun _ => 0) (fun j _ => if_neg (by omega))]
  rfl
/-- the password's rounds: t and u -/
def tx (p s : List Int) : Nat → List Int × List Int
  | 0 => (hmac p (s ++ [0, 0, 0, 1]), hmac p (s ++ [0, 0, 0, 1]))
  | n + 1 => (zx (fun q => x8 (nt (tx p s n).1 q) (nt (hmac p (tx p s n).2) q)) 32, hmac p (tx p s n).2)
def txt (p s : List Int) : List Int := (tx p s 15).1.take 16
theorem zx_b (a b : List Int) (i : Nat) : Bs (zx (fun q => x8 (nt a q) (nt b q)) i) := by
  intro x hx
  simp only [zx, List.mem_map] at hx
  obtain ⟨q, _, rfl⟩ := hx
  split
  · exact x8_b _ _
  · decide
theorem tx_len (p s : List Int) : ∀ n, (tx p s n).1.length = 32 ∧ (tx p s n).2.length = 32
  | 0 => ⟨hmac_len _ _, hmac_len _ _⟩
  | n + 1 => ⟨zx_len _ _, hmac_len _ _⟩
theorem tx_b (p s : List Int) : ∀ n, Bs (tx p s n).1 ∧ Bs (tx p s n).2
  | 0 => ⟨hmac_b _ _, hmac_b _ _⟩
  | n + 1 => ⟨zx_b _ _ _, hmac_b _ _⟩
def z32b : List Int := List.replicate 32 0
theorem make32 (W : World) : (Instr.makeSlice 22 (.int .i64 32) (.int .i64 32)).run Try.prog W = .ok (.slice (some ⟨W.heap.size, 0, none⟩) 32 32) (W.alloc (.cells (nums .u8 z32b).toArray 5)) := by kernel_rfl
theorem bytes_ch {w W : World} (e : TypeId) (s : ByteArray) (h : Ch (fun _ => False) w W) : Ch (fun _ => False) w (Lib.bytesWorld W e s) :=
  h.then_ (S' := fun _ => False) (Ch.of_below (bytes_below (Below.refl _ W) (Nat.le_refl _) e s)) (fun _ _ h => h.elim)
set_option maxRecDepth 100000 in
set_option maxHeartbeats 2000000 in
theorem text_any (p s : ByteArray) (w : World) (hp : p.size < 100000) (hs : s.size < 100000) :
    Calls Try.prog 33 #[.string p, .string s] w fun e w' => e = .returned (.agg (nums .u8 (txt (bytesOf p) (bytesOf s))).toArray) ∧ Ch (fun _ => False) w w' := by
  have kb := fun W => print_bytes (P := Try.prog) 9 22 5 Try.underlying9 Try.underlying22 Try.underlying5 p W
  have kc := fun W => print_bytes (P := Try.prog) 9 22 5 Try.underlying9 Try.underlying22 Try.underlying5 s W
  go_enter Try.func33, Try.ntmps33
  go_wp2_with fail
  have e1 : (w.alloc (.cells (nums .u8 (List.replicate 16 0)).toArray 51)).heap.size = w.heap.size + 1 := by simp
  have hr1 := bytes_reads (w.alloc (.cells (nums .u8 (List.replicate 16 0)).toArray 51)) 5 p (by omega)
  rw [e1] at hr1
  have hc1 := bytes_ch 5 p ((Ch.refl (fun _ => False) w).alloc (.cells (nums .u8 (List.replicate 16 0)).toArray 51))
  have hz1 := (bytes_ch 5 p (Ch.refl (fun _ => False) (w.alloc (.cells (nums .u8 (List.replicate 16 0)).toArray 51)))).blk (heap_alloc_new w _) (fun h => h)
  obtain ⟨W1, hW1⟩ : ∃ W1, W1 = Lib.bytesWorld (w.alloc (.cells (nums .u8 (List.replicate 16 0)).toArray 51)) 5 p := ⟨_, rfl⟩
  rw [← hW1] at hr1 hc1 hz1
  have hr2 := bytes_reads W1 5 s (by omega)
  have hcb := bytes_ch 5 s (Ch.refl (fun _ => False) W1)
  obtain ⟨WB, hWB⟩ : ∃ WB, WB = Lib.bytesWorld W1 5 s := ⟨_, rfl⟩
  rw [← hWB] at hr2 hcb
  have HR1 := Lib.hid (hcb.reads hr1 (fun _ _ h => h))
  have HR2 := Lib.hid hr2
  have HZB := Lib.hid (hcb.blk hz1 (fun h => h))
  have HCB := Lib.hid (hc1.then_ hcb (fun _ _ h => h.elim))
  clear hr1 hr2 hcb hz1 hc1 e1
  have HO : Hid (∀ c0 c1, Calls Try.prog 19 #[.slice (some ⟨w.heap.size + 1, 0, none⟩) p.size c0, .slice (some ⟨WB.heap.size + 1, 0, none⟩) 2 2] ((WB.alloc (.cells #[.int .u8 0, .int .u8 0, .int .u8 0, .int .u8 1] 5)).alloc (.cells #[.slice (some ⟨W1.heap.size, 0, none⟩) s.size c1, .slice (some ⟨WB.heap.size, 0, none⟩) 4 4] 22)) fun e w' => ∃ v, e = .returned v ∧ w'.ownsRow w.heap.size 5 1 v 32 (nums .u8 (hmac (bytesOf p) (bytesOf s ++ [0, 0, 0, 1]))) ∧ Ch (fun _ => False) w w' ∧ w'.heap[w.heap.size]? = some (.cells (nums .u8 (List.replicate 16 0)).toArray 51 (0, 0))) := Lib.hid fun c0 c1 => by
    have hcc : Ch (fun _ => False) WB ((WB.alloc (.cells #[.int .u8 0, .int .u8 0, .int .u8 0, .int .u8 1] 5)).alloc (.cells #[.slice (some ⟨W1.heap.size, 0, none⟩) s.size c1, .slice (some ⟨WB.heap.size, 0, none⟩) 4 4] 22)) := ((Ch.refl _ _).alloc _).alloc _
    have hr2 := rows2_two (heap_alloc2_new WB (.cells #[.int .u8 0, .int .u8 0, .int .u8 0, .int .u8 1] 5) (.cells #[.slice (some ⟨W1.heap.size, 0, none⟩) s.size c1, .slice (some ⟨WB.heap.size, 0, none⟩) 4 4] 22)) (hcc.reads HR2.out (fun _ _ h => h)) (reads_blk (l := [0, 0, 0, 1]) (k := .u8) (n := 4) (heap_alloc2_old WB _ _) rfl (by decide))
    refine (msum_any _ _ p.size c0 2 2 (bytesOf p) [bytesOf s, [0, 0, 0, 1]] _ (hcc.reads HR1.out (fun _ _ h => h)) hr2 (bytesOf_bs p) ?_ hp (by simp [bytesOf_length]; omega) (by decide)).mono ?_
    · intro x hx
      simp only [List.mem_cons, List.not_mem_nil, or_false] at hx
      rcases hx with rfl | rfl
      · exact bytesOf_bs s
      · unfold Bs; decide
    · rintro e w' ⟨v, rfl, ho, hb⟩
      rw [show ([bytesOf s, [0, 0, 0, 1]] : List (List Int)).flatten = bytesOf s ++ [0, 0, 0, 1] by simp] at ho
      exact ⟨v, rfl, own_less ho (by have := HCB.out.size; simp; omega), (HCB.out.then_ hcc (fun _ _ h => h.elim)).then_ (S' := fun _ => False) (Ch.of_below hb) (fun _ _ h => h.elim), (Ch.of_below (S := fun _ => False) hb).blk (hcc.blk HZB.out (fun h => h)) (fun h => h)⟩
  subst hWB
  subst hW1
  refine (HO.out _ _).mono ?_
  clear HO HR1 HR2 HZB HCB kc
  rintro e w2 ⟨v, rfl, ho, hC, hz⟩
  obtain ⟨A2, c2, rfl, h32⟩ := q_slice (q_of_own ho)
  have HO2 := Lib.hid (rd_own ho)
  have HC2 := Lib.hid hC
  have HZ2 := Lib.hid hz
  clear ho hC hz
  go_wp2_with fail
  go_loopw [5, 6, 19] (fun t u i wr => ∃ (j : Nat) (At Au : Option Addr) (ct cu : Nat), j ≤ 15 ∧ i = .int .i64 j ∧ t = .slice At 32 ct ∧ u = .slice Au 32 cu ∧ 32 ≤ ct ∧ ReadsInt wr .u8 At 32 (tx (bytesOf p) (bytesOf s) j).1 ∧ ReadsInt wr .u8 Au 32 (tx (bytesOf p) (bytesOf s) j).2 ∧ Ch (fun _ => False) w wr ∧ wr.heap[w.heap.size]? = some (.cells (nums .u8 (List.replicate 16 0)).toArray 51 (0, 0))) (fun _ _ i _ => (15 - intOf i).toNat)
  case atStart => exact ⟨0, A2, A2, c2, c2, by omega, rfl, rfl, rfl, by have := h32; omega, HO2.out, HO2.out, HC2.out, HZ2.out⟩
  case round =>
    obtain ⟨j, At, Au, ct, cu, hj, rfl, rfl, rfl, hct, ht, hu, hC, hz⟩ := hrel
    clear HO2 HC2 HZ2
    by_cases hlt : j < 15
    · have HT := Lib.hid ht
      have HC := Lib.hid hC
      have HZ := Lib.hid hz
      have HO : Hid (∀ c0, Calls Try.prog 19 #[.slice (some ⟨wr.heap.size, 0, none⟩) p.size c0, .slice (some ⟨(Lib.bytesWorld wr 5 p).heap.size, 0, none⟩) 1 1] ((Lib.bytesWorld wr 5 p).alloc (.cells #[.slice Au 32 cu] 22)) fun e w' => ∃ v, e = .returned v ∧ w'.ownsRow w.heap.size 5 1 v 32 (nums .u8 (hmac (bytesOf p) (tx (bytesOf p) (bytesOf s) j).2)) ∧ Ch (fun _ => False) wr w') := Lib.hid fun c0 => by
        have hcc : Ch (fun _ => False) (Lib.bytesWorld wr 5 p) ((Lib.bytesWorld wr 5 p).alloc (.cells #[.slice Au 32 cu] 22)) := (Ch.refl _ _).alloc _
        have hcw := (bytes_ch 5 p (Ch.refl (fun _ => False) wr)).trans hcc
        have hl2 := (tx_len (bytesOf p) (bytesOf s) j).2
        refine (msum_any _ _ p.size c0 1 1 (bytesOf p) [(tx (bytesOf p) (bytesOf s) j).2] _ (hcc.reads (bytes_reads wr 5 p (by omega)) (fun _ _ h => h)) (rows2_one1 (heap_alloc_new _ _) (hcw.reads hu (fun _ _ h => h))) (bytesOf_bs p) ?_ hp (by simp [hl2]) (by decide)).mono ?_
        · intro x hx
          rw [List.mem_singleton] at hx
          subst hx
          exact (tx_b _ _ j).2
        · rintro e w' ⟨v, rfl, ho, hb⟩
          rw [show ([(tx (bytesOf p) (bytesOf s) j).2] : List (List Int)).flatten = (tx (bytesOf p) (bytesOf s) j).2 by simp] at ho
          exact ⟨v, rfl, own_less ho (by have := hcw.size; have := hC.size; omega), hcw.then_ (S' := fun _ => False) (Ch.of_below hb) (fun _ _ h => h.elim)⟩
      clear ht hC hz
      go_wp2_with fail
      refine (HO.out _).mono ?_
      clear HO hu
      rintro e w3 ⟨v, rfl, ho, hC⟩
      obtain ⟨A3, c3, rfl, -⟩ := q_slice (q_of_own ho)
      have HU3 := Lib.hid (rd_own ho)
      have HT3 := Lib.hid (hC.reads HT.out (fun _ _ h => h))
      have HZ3 := Lib.hid (hC.blk HZ.out (fun h => h))
      have HC3 := Lib.hid (HC.out.then_ hC (fun _ _ h => h.elim))
      have HTB := Lib.hid (tx_b (bytesOf p) (bytesOf s) j).1
      have HUB := Lib.hid (hmac_b (bytesOf p) (tx (bytesOf p) (bytesOf s) j).2)
      have HTX : Hid ((tx (bytesOf p) (bytesOf s) (j + 1)).1 = zx (fun q => x8 (nt (tx (bytesOf p) (bytesOf s) j).1 q) (nt (hmac (bytesOf p) (tx (bytesOf p) (bytesOf s) j).2) q)) 32 ∧ (tx (bytesOf p) (bytesOf s) (j + 1)).2 = hmac (bytesOf p) (tx (bytesOf p) (bytesOf s) j).2) := Lib.hid ⟨rfl, rfl⟩
      clear ho hC HT HC HZ
      have hmk := make32
      obtain ⟨T, hT⟩ : ∃ T, T = (tx (bytesOf p) (bytesOf s) j).1 := ⟨_, rfl⟩
      obtain ⟨U, hU⟩ : ∃ U, U = hmac (bytesOf p) (tx (bytesOf p) (bytesOf s) j).2 := ⟨_, rfl⟩
      rw [← hT] at HT3 HTX HTB
      rw [← hU] at HU3 HTX HUB
      clear hT hU
      obtain ⟨we, rfl⟩ : ∃ we : World, we = wr := ⟨_, rfl⟩
      go_wp2_with fail
      go_loopw [8, 31] (fun _ i wq => ∃ q : Nat, q ≤ 32 ∧ i = .int .i64 q ∧ wq.heap[w3.heap.size]? = some (.cells (nums .u8 (zx (fun q => x8 (nt T q) (nt U q)) q)).toArray 5 (0, 0)) ∧ Ch (fun _ => False) w3 wq) (fun _ i _ => (32 - intOf i).toNat)
      case atStart => exact ⟨0, by omega, rfl, by rw [zx_0]; exact heap_alloc_new w3 _, (Ch.refl _ _).alloc _⟩
      case round =>
        obtain ⟨q, hq, rfl, hg, hC⟩ := hrel
        have HG := Lib.hid hg
        have HC := Lib.hid hC
        clear hg hC
        by_cases hlt2 : q < 32
        · have c5 := blk_nums HG.out q (by rw [zx_len]; exact hlt2)
          have f5 : wr.frozen? ⟨w3.heap.size, q, none⟩ = false := blk_frozen HG.out _
          obtain ⟨x0, x1⟩ := HTB.out.at q
          obtain ⟨y0, y1⟩ := HUB.out.at q
          obtain ⟨at_, eT, hct1⟩ := (HC.out.reads HT3.out (fun _ _ h => h)).2.2 (by omega)
          obtain ⟨au_, eU, hcu1⟩ := (HC.out.reads HU3.out (fun _ _ h => h)).2.2 (by omega)
          have ct1 := hct1 q hlt2
          have cu1 := hcu1 q hlt2
          change wr.cell? _ = some (.int .u8 (nt T q)) at ct1
          change wr.cell? _ = some (.int .u8 (nt U q)) at cu1
          subst eT eU
          have e5 := blk_set HG.out q (.int .u8 (x8 (nt T q) (nt U q)))
          rw [nums_set, zx_set (fun q => x8 (nt T q) (nt U q)) q hlt2] at e5
          have E5 := Lib.hid e5
          clear e5 hct1 hcu1
          go_wp2
          go_region
          all_goals
            go_wp2
            exact ⟨⟨q + 1, by omega, by go_num, E5.out, (HC.out.setCell (.inr (Nat.le_refl _)) _).drew⟩, by simp [intOf]; omega⟩
        · obtain rfl : q = 32 := by omega
          have hrt := reads_blk HG.out (zx_len _ _) (by omega)
          have HRT := Lib.hid hrt
          have HRU := Lib.hid (HC.out.reads HU3.out (fun _ _ h => h))
          have HRZ := Lib.hid (HC.out.blk HZ3.out (fun h => h))
          have HRC := Lib.hid (HC3.out.then_ HC.out (fun _ _ h => h.elim))
          clear hrt
          rw [show ((32 : Nat) : Int) = 32 from rfl]
          go_wp2_with fail
          exact ⟨⟨j + 1, some ⟨w3.heap.size, 0, none⟩, A3, 32, c3, by omega, by go_num, rfl, rfl, Nat.le_refl _, by rw [HTX.out.1]; exact HRT.out, by rw [HTX.out.2]; exact HRU.out, HRC.out, HRZ.out⟩, by simp [intOf]; omega⟩
    · obtain rfl : j = 15 := by omega
      have HT := Lib.hid (ht.take_ 16 (by omega))
      have HC := Lib.hid hC
      have HZ := Lib.hid hz
      clear ht hu hC hz
      go_wp2_with fail
      obtain ⟨d, hd⟩ : ∃ d, d = txt (bytesOf p) (bytesOf s) := ⟨_, rfl⟩
      have HD : Hid (ReadsInt wr .u8 At 16 d) := Lib.hid (by rw [hd]; exact HT.out)
      have HDL : Hid (d.length = 16) := Lib.hid HD.out.1
      have HDE := Lib.hid hd
      clear hd HT
      obtain ⟨we, rfl⟩ : ∃ we : World, we = wr := ⟨_, rfl⟩
      refine (okey_any At ct d we HD.out).mono ?_
      rintro e w3 ⟨rfl, hC3⟩
      have HC3 := Lib.hid (HC.out.then_ hC3 (fun _ _ h => h.elim))
      have HZ3 := Lib.hid (hC3.blk HZ.out (fun h => h))
      have HB3 : Hid (w.heap.size < w3.heap.size) := Lib.hid (blk_lt HZ3.out)
      clear hC3 HZ
      go_wp2_with first
        | (refine wpList_store_blk rfl 51 (.tmp 9) (.tmp 53) rfl w3.heap.size 0 (nums .u8 d) rfl rfl (nums .u8 (List.replicate 16 0)).toArray 51 (heap_alloc_new w3 _) (by rw [nums_len, HDL.out]; decide) (by rw [nums_len, HDL.out]; kernel_rfl) (nums_one _ _) ?_; intro w4 h4 hc4; (have H4 : Hid (w4.heap[w3.heap.size]? = some (.cells (nums .u8 d).toArray 51 (0, 0))) := Lib.hid (by rw [h4, List.take_zero, List.nil_append, nums_len, HDL.out]; (rw [show List.drop (0 + 16) (nums .u8 (List.replicate 16 0)).toArray.toList = [] by rfl, List.append_nil]))); have HZ4 : Hid (w4.heap[w.heap.size]? = some (.cells (nums .u8 (List.replicate 16 0)).toArray 51 (0, 0))) := Lib.hid (hc4.blk (((Ch.refl (fun _ => False) w3).alloc _).blk HZ3.out (fun h => h)) (by show w.heap.size ≠ w3.heap.size; have := HB3.out; omega)); have HC4 : Hid (Ch (fun _ => False) w w4) := Lib.hid ((HC3.out.alloc _).then_ hc4 (fun i hi e => by have := HB3.out; omega)); clear h4 hc4 HZ3)
        | (refine wpList_load_mid rfl 51 (.tmp 9) rfl w3.heap.size 0 rfl (nums .u8 d) (.array 16 5) (range_nums H4.out) Try.underlying51 rfl (by rw [nums_len, HDL.out]; kernel_rfl) ?_)
        | (refine wpList_store_blk rfl 51 (.tmp 4) (.tmp 55) rfl w.heap.size 0 (nums .u8 d) rfl rfl (nums .u8 (List.replicate 16 0)).toArray 51 HZ4.out (by rw [nums_len, HDL.out]; decide) (by rw [nums_len, HDL.out]; kernel_rfl) (nums_one _ _) ?_; intro w5 h5 hc5; (have H5 : Hid (w5.heap[w.heap.size]? = some (.cells (nums .u8 d).toArray 51 (0, 0))) := Lib.hid (by rw [h5, List.take_zero, List.nil_append, nums_len, HDL.out]; (rw [show List.drop (0 + 16) (nums .u8 (List.replicate 16 0)).toArray.toList = [] by rfl, List.append_nil]))); have HC5 : Hid (Ch (fun _ => False) w w5) := Lib.hid (HC4.out.then_ hc5 (fun i hi e => by omega)); clear h5 hc5)
      refine bodyPost_ret (results_cell_row rfl _ _ w.heap.size 51 (nums .u8 d).toArray (0, 0) (.array 16 5) rfl H5.out Try.underlying51 rfl (by rw [List.size_toArray, nums_len, HDL.out]; kernel_rfl)) rfl ⟨by rw [HDE.out], HC5.out⟩
end Go.Proofs.Ytejhjlfakfaegaa
