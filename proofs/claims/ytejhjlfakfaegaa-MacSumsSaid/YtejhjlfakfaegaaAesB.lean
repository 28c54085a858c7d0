/- aes' New: the bytes of a key's rounds. -/
import Derived.Test.YtejhjlfakfaegaaAesA
import Derived.Test.YtejhjlfakfaegaaShaD
set_option linter.unusedSimpArgs false
set_option linter.unusedVariables false
namespace Go.Proofs.Ytejhjlfakfaegaa
open Go.RowKit Go.Proofs.YtejhjlfakfaegaaW.PrintWords

/-! ### Laws: a row loaded in a region that draws; a row stored into a block -/
theorem quiet_load_mid {P : Program} {a : Act} {C : World → Prop} {K : Act → Prop} {o : Oper} (ty : TypeId) (x : Operand) (ho : o.op = .load ty x)
    (b f : Nat) (hx : a.eval x = .pointer (some ⟨b, f, none⟩)) (cs : List Value) (d : TypeDesc) (hc : ∀ w, C w → w.rangeAt b f cs)
    (hu : P.underlying ty = some d) (hd : d.isRow = true) (hi : (P.info? ty).map (·.size) = some cs.length)
    (hk : K (a.put o.dst (.agg cs.toArray))) : o.quiet P a C K :=
  ⟨_, fun w hw => by
    unfold Oper.quietAt execOp
    simp only [ho, hx, Instr.loadAt, Instr.sureAddr, Sem.run_bind, Sem.run_pure, Result.andThen_ok, run_loadVar_mid w b f ty cs d (hc w hw) hu hd hi]
    exact ⟨rfl, rfl⟩, hk⟩
theorem wpList_store_blk {P : Program} {ops : Array Oper} {rest : List Oper} {op : Oper} {a : Act} {w : World} {Q : Exit → Act → World → Prop} (hgd : op.guard = none) (ty : TypeId) (x y : Operand) (ho : op.op = .store ty x y)
    (g o : Nat) (cs : List Value) (hx : a.eval x = .pointer (some ⟨g, o, none⟩)) (hy : a.eval y = .agg cs.toArray)
    (cur : Array Value) (t : TypeId) (hg : w.heap[g]? = some (.cells cur t (0, 0))) (hfit : o + cs.length ≤ cur.size) (hi : (P.info? ty).map (·.size) = some cs.length) (h1 : ∀ v ∈ cs, v.oneCell' = true)
    (h : ∀ w', w'.heap[g]? = some (.cells (cur.toList.take o ++ cs ++ cur.toList.drop (o + cs.length)).toArray t (0, 0)) → Ch (· = g) w w' → wpList P ops Q rest (a.put op.dst undef) w') : wpList P ops Q (op :: rest) a w := by
  refine wpList_store_mid hgd ty x y ho g o cs.toArray hx hy (fun j hj => ?_) (by simpa using hi) (all_oneCell_toArray h1) (h _ ?_ ?_)
  · have hj' : j < cs.length := by simpa using hj
    exact ⟨by rw [blk_cell hg, Array.getElem?_eq_getElem (by omega)]; rfl, blk_frozen hg _⟩
  · obtain ⟨cur', h3, h4, h5⟩ := setCells_row (g := g) cs o w cur hg hfit
    rw [show cs.toArray.toList = cs by simp, h3, ← h5]
  · rw [show cs.toArray.toList = cs by simp]
    obtain ⟨h1, h2, h3, h4⟩ := setCells_same g cs o w
    exact ⟨h1, h2, h3, by rw [h4]; exact Nat.le_refl _, fun k _ hn => setCells_far cs o k hn⟩
theorem nums_one (k : IntKind) (l : List Int) : ∀ v ∈ nums k l, v.oneCell' = true := by intro v hv; simp only [nums, List.mem_map] at hv; obtain ⟨x, _, rfl⟩ := hv; rfl
theorem nums_len (k : IntKind) (l : List Int) : (nums k l).length = l.length := by simp [nums]

/-! ### The box, as a list -/
def sbl : List Int := [99, 124, 119, 123, 242, 107, 111, 197, 48, 1, 103, 43, 254, 215, 171, 118, 202, 130, 201, 125, 250, 89, 71, 240, 173, 212, 162, 175, 156, 164, 114, 192, 183, 253, 147, 38, 54, 63, 247, 204, 52, 165, 229, 241, 113, 216, 49, 21, 4, 199, 35, 195, 24, 150, 5, 154, 7, 18, 128, 226, 235, 39, 178, 117, 9, 131, 44, 26, 27, 110, 90, 160, 82, 59, 214, 179, 41, 227, 47, 132, 83, 209, 0, 237, 32, 252, 177, 91, 106, 203, 190, 57, 74, 76, 88, 207, 208, 239, 170, 251, 67, 77, 51, 133, 69, 249, 2, 127, 80, 60, 159, 168, 81, 163, 64, 143, 146, 157, 56, 245, 188, 182, 218, 33, 16, 255, 243, 210, 205, 12, 19, 236, 95, 151, 68, 23, 196, 167, 126, 61, 100, 93, 25, 115, 96, 129, 79, 220, 34, 42, 144, 136, 70, 238, 184, 20, 222, 94, 11, 219, 224, 50, 58, 10, 73, 6, 36, 92, 194, 211, 172, 98, 145, 149, 228, 121, 231, 200, 55, 109, 141, 213, 78, 169, 108, 86, 244, 234, 101, 122, 174, 8, 186, 120, 37, 46, 28, 166, 180, 198, 232, 221, 116, 31, 75, 189, 139, 138, 112, 62, 181, 102, 72, 3, 246, 14, 97, 53, 87, 185, 134, 193, 29, 158, 225, 248, 152, 17, 105, 217, 142, 148, 155, 30, 135, 233, 206, 85, 40, 223, 140, 161, 137, 13, 191, 230, 66, 104, 65, 153, 45, 15, 176, 84, 187, 22]
theorem bx_eq : bx = (nums .u8 sbl).toArray := by kernel_rfl
theorem sbl_b : Bs sbl := by unfold Bs; decide +kernel
theorem sbl_len : sbl.length = 256 := by decide +kernel
def sbx (x : Int) : Int := nt sbl x.toNat
theorem sbx_b (x : Int) : B8 (sbx x) := sbl_b.at _
theorem bx_get (x : Int) (h : B8 x) : bx[x.toNat]? = some (.int .u8 (sbx x)) := by
  have hl : x.toNat < sbl.length := by rw [sbl_len]; unfold B8 at h; omega
  rw [bx_eq, sbx, nt_get hl]
  simp [nums, hl]

/-! ### The key's bytes -/
def rcAt : Nat → Int
  | 0 => 1
  | n + 1 => dbl (rcAt n)
theorem rcAt_b : ∀ n, B8 (rcAt n)
  | 0 => by unfold B8; decide
  | n + 1 => dbl_b _ (rcAt_b n)
/-- the next byte behind so many -/
def kNext (w : List Int) : Int :=
  if 4 ≤ w.length % 16 then x8 (nt w (w.length - 16)) (nt w (w.length - 4))
  else if w.length % 16 = 0 then x8 (x8 (nt w (w.length - 16)) (sbx (nt w (w.length - 3)))) (rcAt (w.length / 16 - 1))
  else x8 (nt w (w.length - 16)) (sbx (nt w (w.length - w.length % 16 - 4 + (w.length % 16 + 1) % 4)))
def kGo (l : List Int) : Nat → List Int
  | 0 => l
  | n + 1 => kGo l n ++ [kNext (kGo l n)]
theorem kNext_b (w : List Int) : B8 (kNext w) := by
  unfold kNext
  split
  · exact x8_b _ _
  · split <;> exact x8_b _ _
theorem kGo_len (l : List Int) : ∀ n, (kGo l n).length = l.length + n
  | 0 => rfl
  | n + 1 => by rw [kGo, List.length_append, kGo_len l n]; rfl
theorem kGo_bs (l : List Int) (h : Bs l) : ∀ n, Bs (kGo l n)
  | 0 => h
  | n + 1 => (kGo_bs l h n).append fun x hx => by rw [List.mem_singleton.1 hx]; exact kNext_b _
/-- a cipher's cells -/
def ciph (bg : Nat) (ks : List Int) : Array Value := (Value.pointer (some ⟨bg, 0, none⟩) :: nums .u8 (ks ++ List.replicate (176 - ks.length) 0)).toArray
theorem ciph_size (bg : Nat) (ks : List Int) (h : ks.length ≤ 176) : (ciph bg ks).size = 177 := by simp [ciph, nums]; omega
theorem ciph_get (bg : Nat) (ks : List Int) (j : Nat) (h : j < ks.length) : (ciph bg ks)[1 + j]? = some (.int .u8 (nt ks j)) := by
  rw [nt_get h]
  simp [ciph, nums, Nat.add_comm 1 j, List.getElem?_append_left, h]
theorem ciph_set (bg : Nat) (ks : List Int) (x : Int) (h : ks.length < 176) : (ciph bg ks).setIfInBounds (1 + ks.length) (.int .u8 x) = ciph bg (ks ++ [x]) := by
  unfold ciph
  have e : 176 - ks.length = (176 - (ks.length + 1)) + 1 := by omega
  rw [Nat.add_comm 1]
  simp only [List.setIfInBounds_toArray, nums, List.map_append, List.length_append, List.length_cons, List.length_nil, List.map_cons, List.map_nil, List.set_cons_succ]
  rw [e, List.replicate_succ, List.map_cons, List.set_append_right _ _ (by simp)]
  simp
theorem ciph_key (bg : Nat) (l : List Int) (h : l.length = 16) : ((ciph bg []).toList.take 1 ++ nums .u8 l ++ (ciph bg []).toList.drop (1 + (nums .u8 l).length)).toArray = ciph bg l := by
  rw [nums_len, h]
  unfold ciph
  simp only [List.nil_append, List.length_nil, Nat.sub_zero, nums, List.map_replicate, h, List.map_append, List.take_succ_cons, List.take_zero, List.cons_append, Nat.add_comm 1 16, List.drop_succ_cons, List.drop_replicate]
theorem ciph_zero (bg : Nat) (ks : List Int) (h : ks.length < 176) : (ciph bg ks)[1 + ks.length]? = some (.int .u8 0) := by
  unfold ciph
  have e : 176 - ks.length = (176 - (ks.length + 1)) + 1 := by omega
  rw [Nat.add_comm 1, e]
  simp [nums, List.getElem?_append_right, List.replicate_succ]
theorem ciph_put {w : World} {g bg : Nat} {ks : List Int} {T : TypeId} (h : w.heap[g]? = some (.cells (ciph bg ks) T (0, 0))) {j i : Nat} (hl : ks.length < 176) (hi : 1 + (j + 1) * 16 + i = 1 + ks.length) (v : Int) :
    (w.setCell ⟨g, 1 + (j + 1) * 16 + i, none⟩ (.int .u8 v)).heap[g]? = some (.cells (ciph bg (ks ++ [v])) T (0, 0)) := by
  rw [blk_set h, hi, ciph_set _ _ _ hl]
theorem kGo_pre (l : List Int) (a : Nat) : ∀ b i, i < l.length + a → nt (kGo l (a + b)) i = nt (kGo l a) i
  | 0, _, _ => rfl
  | b + 1, i, h => by
    rw [← kGo_pre l a b i h]
    show nt (kGo l (a + b) ++ [_]) i = _
    rw [nt_get (by rw [List.length_append, kGo_len]; omega), nt_get (by rw [kGo_len]; omega), List.getElem_append_left]
theorem kStep_ge (l : List Int) (hl : l.length = 16) (wk : List Int) (k : Nat) (hw : ∀ j, nt wk j = nt (kGo l (16 * k)) (16 * k + j)) (j : Nat) (hj : j < 16) (h4 : 4 ≤ j) :
    kGo l (16 * k + (j + 1)) = kGo l (16 * k + j) ++ [bits .xor .u8 (nt wk j) (nt (kGo l (16 * k + j)) (16 * k + 12 + j))] := by
  show kGo l (16 * k + j) ++ [kNext (kGo l (16 * k + j))] = _
  have hlen : (kGo l (16 * k + j)).length = 16 + 16 * k + j := by rw [kGo_len, hl]; omega
  unfold kNext x8
  rw [hlen, if_pos (by omega), hw, ← kGo_pre l (16 * k) j _ (by omega)]
  congr 4 <;> omega
theorem kStep_lt (l : List Int) (hl : l.length = 16) (wk : List Int) (k : Nat) (hw : ∀ j, nt wk j = nt (kGo l (16 * k)) (16 * k + j)) (j : Nat) (hj : j < 4) :
    kGo l (16 * k + (j + 1)) = kGo l (16 * k + j) ++ [if j = 0 then bits .xor .u8 (bits .xor .u8 (nt wk j) (sbx (nt wk (12 + (j + 1) % 4)))) (rcAt k) else bits .xor .u8 (nt wk j) (sbx (nt wk (12 + (j + 1) % 4)))] := by
  show kGo l (16 * k + j) ++ [kNext (kGo l (16 * k + j))] = _
  have hlen : (kGo l (16 * k + j)).length = 16 + 16 * k + j := by rw [kGo_len, hl]; omega
  unfold kNext x8
  rw [hlen, if_neg (by omega), hw, hw, ← kGo_pre l (16 * k) j _ (by omega), ← kGo_pre l (16 * k) j (16 * k + (12 + (j + 1) % 4)) (by omega)]
  rw [show (16 + 16 * k + j) % 16 = j by omega, show (16 + 16 * k + j) / 16 - 1 = k by omega, show 16 + 16 * k + j - 16 = 16 * k + j by omega, show 16 + 16 * k + j - j - 4 + (j + 1) % 4 = 16 * k + (12 + (j + 1) % 4) by omega]
  by_cases h0 : j = 0
  · subst h0
    rw [if_pos rfl, if_pos rfl, show 16 + 16 * k + 0 - 3 = 16 * k + (12 + (0 + 1) % 4) by omega]
  · rw [if_neg h0, if_neg h0]
set_option maxRecDepth 100000 in
set_option maxHeartbeats 1000000 in
theorem new5_any (l : List Int) (w : World) (hl : l.length = 16) (hb : Bs l) :
    Calls Try.prog 13 #[.agg (nums .u8 l).toArray] w fun e w' =>
      ∃ g bg, e = .returned (.pointer (some ⟨g, 0, none⟩)) ∧ w'.heap[g]? = some (.cells (ciph bg (kGo l 160)) 56 (0, 0)) ∧ w'.heap[bg]? = some (.cells bx 70 (0, 0)) ∧ w.heap.size ≤ g ∧ w.heap.size ≤ bg ∧ Ch (fun _ => False) w w' := by
  have HL := Lib.hid hl
  clear hl
  go_enter Try.func13, Try.ntmps13
  go_wp2_with fail
  refine (box_any _).mono ?_
  rintro e w1 ⟨rfl, m1, hw1⟩
  have hk1 : w1.heap[w.heap.size]? = some (.cells (nums .u8 l).toArray 51 (0, 0)) := by rw [hw1]; exact heap_alloc2_old _ _ _
  have hb1 : w1.heap[w.heap.size + 1]? = some (.cells bx 70 (0, 0)) := by rw [hw1]; exact heap_alloc2_new _ _ _
  have hC1 : Ch (fun _ => False) w w1 := by rw [hw1]; exact (((Ch.refl _ _).alloc _).alloc _).drewN _
  have hz1 : w1.heap.size = w.heap.size + 2 := by rw [hw1]; simp
  have HK1 := Lib.hid hk1
  have HB1 := Lib.hid hb1
  have HC1 := Lib.hid hC1
  have HZ1 := Lib.hid hz1
  clear hw1 hk1 hb1 hC1 hz1
  go_wp2_with (first
    | (refine Great.wpList_runTo rfl (some 10) rfl (.agg (ciph (w.heap.size + 1) [])) w1 (by kernel_rfl) ?_)
    | (refine Great.wpList_boxTo rfl 56 (.tmp 10) rfl (some 11) rfl w1.heap.size rfl (ciph (w.heap.size + 1) []) rfl ?_; obtain ⟨w2, hw2⟩ : ∃ w2, w1.alloc (.cells (ciph (w.heap.size + 1) []) 56) = w2 := ⟨_, rfl⟩; rw [hw2]; (have HG2 : Hid (w2.heap[w1.heap.size]? = some (.cells (ciph (w.heap.size + 1) []) 56 (0, 0))) := by rw [← hw2]; exact heap_alloc_new _ _); (have HC2 : Hid (Ch (fun _ => False) w1 w2) := by rw [← hw2]; exact (Ch.refl _ _).alloc _); clear hw2))
  refine wp_region_quiet_tail 5 (by kernel_rfl) (by kernel_rfl) ?_
  simp only [List.take_succ_cons, List.take_zero, List.drop_succ_cons, List.drop_zero]
  have hks : ∀ w', (∃ n, w' = w2.drewN n) → w'.rangeAt w.heap.size 0 (nums .u8 l) := by
    rintro w' ⟨n, rfl⟩
    intro j v hv
    rw [Nat.zero_add, blk_cell (w := w2.drewN n) (HC2.out.blk HK1.out (fun h => h))]
    simpa using hv
  have HKS := Lib.hid hks
  clear hks
  repeat (first | go_big_quiet_skip | (go_big_quiet_want; (first | (with_reducible refine quiet_load_mid 51 (.tmp 1) rfl w.heap.size 0 rfl (nums .u8 l) (.array 16 5) HKS.out Try.underlying51 rfl (by rw [nums_len, HL.out]; kernel_rfl) ?_; simp only [Act.put, List.setIfInBounds_toArray, List.set_cons_succ, List.set_cons_zero]) | go_big_quiet_op); go_big_quiet_on))
  refine wpQuiet_nil ?_
  intro w3 hw'
  obtain ⟨nd, hw3⟩ := hw'
  have HG3 : Hid (w3.heap[w1.heap.size]? = some (.cells (ciph (w.heap.size + 1) []) 56 (0, 0))) := by rw [hw3]; exact HG2.out
  have HC3 : Hid (Ch (fun _ => False) w1 w3) := by rw [hw3]; exact HC2.out.drewN nd
  clear hw3
  obtain ⟨g, hgg⟩ : ∃ g, w1.heap.size = g := ⟨_, rfl⟩
  obtain ⟨bg, hbg⟩ : ∃ bg, w.heap.size + 1 = bg := ⟨_, rfl⟩
  have HB3 : Hid (w3.heap[bg]? = some (.cells bx 70 (0, 0))) := by rw [← hbg]; exact HC3.out.blk HB1.out (fun h => h)
  have HC3 : Hid (Ch (fun _ => False) w w3) := Lib.hid (HC1.out.trans HC3.out)
  have HZG : Hid (g = w.heap.size + 2 ∧ bg = w.heap.size + 1) := Lib.hid ⟨by rw [← hgg, HZ1.out], hbg.symm⟩
  rw [hgg] at HG3 ⊢
  rw [hbg] at HG3 ⊢
  clear hgg hbg HB1 HC1 HK1 HZ1 HG2 HC2 HKS
  go_wp2_with (refine wpList_store_blk rfl 30 (.tmp 16) (.tmp 13) rfl g 1 (nums .u8 l) rfl rfl (ciph bg []) 56 HG3.out (by rw [ciph_size _ _ (by simp), nums_len, HL.out]; omega) (by rw [nums_len, HL.out]; kernel_rfl) (nums_one _ _) ?_; intro w4 hg4 hc4; rw [ciph_key bg l HL.out] at hg4; (have HC4 : Hid (Ch (fun _ => False) w w4) := Lib.hid (HC3.out.then_ hc4 (fun i hi e => by have := HZG.out; omega))); have HB4 := Lib.hid (hc4.blk HB3.out (by have := HZG.out; omega)); have HG4 := Lib.hid hg4; clear hg4 hc4)
  go_loopw [4, 5] (fun r n wr => ∃ k : Nat, k ≤ 10 ∧ n = .int .i64 (k + 1) ∧ r = .int .u8 (rcAt k) ∧ wr.heap[g]? = some (.cells (ciph bg (kGo l (16 * k))) 56 (0, 0)) ∧ wr.heap[bg]? = some (.cells bx 70 (0, 0)) ∧ Ch (fun _ => False) w wr) (fun _ n _ => (11 - intOf n).toNat)
  case atStart => exact ⟨0, by omega, rfl, rfl, HG4.out, HB4.out, HC4.out⟩
  case round =>
    obtain ⟨k, hk, rfl, rfl, hg, hb', hC⟩ := hrel
    have HG := Lib.hid hg
    have HB := Lib.hid hb'
    have HC := Lib.hid hC
    clear hg hb' hC HG3 HB3 HC3 HG4 HB4 HC4
    by_cases hlt : k < 10
    · have hwas : wr.rangeAt g (1 + 16 * k) (nums .u8 ((kGo l (16 * k)).drop (16 * k))) := by
        intro j v hv
        have hj : j < 16 := by have := (List.getElem?_eq_some_iff.1 hv).1; rw [nums_len, List.length_drop, kGo_len, HL.out] at this; omega
        rw [blk_cell HG.out, show 1 + 16 * k + j = 1 + (16 * k + j) by omega, ciph_get _ _ _ (by rw [kGo_len, HL.out]; omega), ← hv]
        rw [nt_get (by rw [kGo_len, HL.out]; omega)]
        simp [nums, kGo_len, HL.out, hj]
      have HW := Lib.hid hwas
      clear hwas
      have hwl : ((kGo l (16 * k)).drop (16 * k)).length = 16 := by rw [List.length_drop, kGo_len, HL.out]; omega
      have hwb : Bs ((kGo l (16 * k)).drop (16 * k)) := (kGo_bs l hb _).drop _
      have hwn : ∀ j, nt ((kGo l (16 * k)).drop (16 * k)) j = nt (kGo l (16 * k)) (16 * k + j) := by intro j; simp [nt, List.getD_eq_getElem?_getD]
      have HWL := Lib.hid hwl
      have HWN := Lib.hid hwn
      rw [Nat.mul_comm 16 k] at HW
      clear hwl hwn
      rw [Nat.mul_comm k 16] at HW
      have HW : Hid (wr.rangeAt g (1 + k * 16) (nums .u8 ((kGo l (16 * k)).drop (16 * k)))) := by rw [Nat.mul_comm k 16]; exact HW
      generalize (kGo l (16 * k)).drop (16 * k) = wk at *
      go_wp2_with (first
        | (refine wpList_load_mid rfl 30 (.tmp 26) rfl g (1 + k * 16) rfl (nums .u8 wk) (.array 16 5) HW.out Try.underlying30 rfl (by rw [nums_len, HWL.out]; kernel_rfl) ?_)
        | (refine Great.wpList_runTo rfl (some 6) rfl (.pointer (some ⟨wr.heap.size, 0, none⟩)) (wr.alloc (.cells (Array.replicate 16 (.int .u8 0)) 30)) (by kernel_rfl) ?_)
        | (refine wpList_store_row rfl 30 (.tmp 6) (.tmp 27) rfl wr.heap.size (nums .u8 wk).toArray rfl rfl 30 (Array.replicate 16 (.int .u8 0)) (heap_alloc_new _ _) (by rw [List.size_toArray, nums_len, HWL.out]; kernel_rfl) (by simp [nums, HWL.out]) (all_nums _ _) ?_; rw [setRow_alloc]; obtain ⟨w5, hw5⟩ : ∃ w5, wr.alloc (.cells (nums .u8 wk).toArray 30) = w5 := ⟨_, rfl⟩; rw [hw5]; (have HG5 : Hid (w5.heap[g]? = some (.cells (ciph bg (kGo l (16 * k))) 56 (0, 0))) := by rw [← hw5]; exact Ch.blk ((Ch.refl (fun _ => False) _).alloc _) HG.out (fun h => h)); (have HB5 : Hid (w5.heap[bg]? = some (.cells bx 70 (0, 0))) := by rw [← hw5]; exact Ch.blk ((Ch.refl (fun _ => False) _).alloc _) HB.out (fun h => h)); (have HC5 : Hid (Ch (fun _ => False) w w5) := by rw [← hw5]; exact HC.out.alloc _); (have HW5 : Hid (w5.heap[wr.heap.size]? = some (.cells (nums .u8 wk).toArray 30 (0, 0))) := by rw [← hw5]; exact heap_alloc_new _ _); clear hw5))
      obtain ⟨gw, hgw⟩ : ∃ gw, wr.heap.size = gw := ⟨_, rfl⟩
      have HGW : Hid (gw ≠ g ∧ w.heap.size ≤ gw ∧ gw ≠ bg) := Lib.hid ⟨by have := blk_lt HG.out; omega, by have := HC.out.size; omega, by have := blk_lt HB.out; omega⟩
      rw [hgw] at HW5 ⊢
      clear hgw HG HB HC HW
      obtain ⟨wo, rfl⟩ : ∃ wo : World, wo = wr := ⟨_, rfl⟩
      go_loopw [28] (fun i wr => ∃ j : Nat, j ≤ 16 ∧ i = .int .i64 j ∧ wr.heap[g]? = some (.cells (ciph bg (kGo l (16 * k + j))) 56 (0, 0)) ∧ wr.heap[bg]? = some (.cells bx 70 (0, 0)) ∧ wr.heap[gw]? = some (.cells (nums .u8 wk).toArray 30 (0, 0)) ∧ Ch (fun _ => False) w wr) (fun i _ => (16 - intOf i).toNat)
      case atStart => exact ⟨0, by omega, rfl, HG5.out, HB5.out, HW5.out, HC5.out⟩
      case round =>
        obtain ⟨j, hj, rfl, hg, hb', hw', hC⟩ := hrel
        have HG := Lib.hid hg
        have HB := Lib.hid hb'
        have HC := Lib.hid hC
        have HW := Lib.hid hw'
        clear hg hb' hC hw' HG5 HB5 HC5 HW5
        by_cases hjt : j < 16
        · have cw : wr.cell? ⟨gw, j, none⟩ = some (.int .u8 (nt wk j)) := by rw [blk_cell HW.out, nt_get (by rw [HWL.out]; exact hjt)]; simp [nums, HWL.out, hjt]
          obtain ⟨x0, x1⟩ := hwb.at j
          have cz : wr.cell? ⟨g, 1 + (k + 1) * 16 + j, none⟩ = some (.int .u8 0) := by
            have := ciph_zero bg (kGo l (16 * k + j)) (by rw [kGo_len, HL.out]; omega)
            rw [blk_cell HG.out, show 1 + (k + 1) * 16 + j = 1 + (kGo l (16 * k + j)).length by rw [kGo_len, HL.out]; omega]
            exact this
          have fz : wr.frozen? ⟨g, 1 + (k + 1) * 16 + j, none⟩ = false := blk_frozen HG.out _
          by_cases hj4 : 4 ≤ j
          · --[C1
            have c4 : wr.cell? ⟨g, 1 + (k + 1) * 16 + (j - 4), none⟩ = some (.int .u8 (nt (kGo l (16 * k + j)) (16 * k + 12 + j))) := by
              rw [blk_cell HG.out, show 1 + (k + 1) * 16 + (j - 4) = 1 + (16 * k + 12 + j) by omega, ciph_get _ _ _ (by rw [kGo_len, HL.out]; omega)]
            have h4 : (4 : Int) ≤ j := by omega
            obtain ⟨y0, y1⟩ := (kGo_bs l hb (16 * k + j)).at (16 * k + 12 + j)
            have t0 : ((j : Int) == 0) = false := beq_eq_false_iff_ne.2 (by omega)
            go_wp2
            refine ⟨⟨j + 1, by omega, by go_num, ?_, ?_, ?_, HC.out.setCell (.inr (by have := HZG.out; show w.heap.size ≤ g; omega)) _⟩, by simp [intOf]; omega⟩
            · rw [kStep_ge l HL.out wk k HWN.out j hjt hj4]
              exact ciph_put HG.out (by rw [kGo_len, HL.out]; omega) (by rw [kGo_len, HL.out]; omega) _
            · exact (Below.heap_setCell _ _ _ _ (by have := HZG.out; show bg ≠ g; omega)).trans HB.out
            · exact (Below.heap_setCell _ _ _ _ (by have := HGW.out; show gw ≠ g; omega)).trans HW.out
            --C1]
          · have hjl : j = 0 ∨ j = 1 ∨ j = 2 ∨ j = 3 := by omega
            have cb : wr.cell? ⟨g, 0, none⟩ = some (.pointer (some ⟨bg, 0, none⟩)) := by rw [blk_cell HG.out]; rfl
            have cw13 : wr.cell? ⟨gw, 12 + (j + 1) % 4, none⟩ = some (.int .u8 (nt wk (12 + (j + 1) % 4))) := by rw [blk_cell HW.out, nt_get (by rw [HWL.out]; omega)]; simp [nums, HWL.out, show 12 + (j + 1) % 4 < 16 by omega]
            obtain ⟨y0, y1⟩ := hwb.at (12 + (j + 1) % 4)
            have cs : wr.cell? ⟨bg, (nt wk (12 + (j + 1) % 4)).toNat, none⟩ = some (.int .u8 (sbx (nt wk (12 + (j + 1) % 4)))) := by rw [blk_cell HB.out]; exact bx_get _ ⟨y0, y1⟩
            obtain ⟨s0, s1⟩ := sbx_b (nt wk (12 + (j + 1) % 4))
            obtain ⟨r0, r1⟩ := rcAt_b k
            have HST : Hid (kGo l (16 * k + (j + 1)) = _) := Lib.hid (kStep_lt l HL.out wk k HWN.out j (by omega))
            have HPUT := Lib.hid (fun v => ciph_put (j := k) (i := j) (v := v) HG.out (by rw [kGo_len, HL.out]; omega) (by rw [kGo_len, HL.out]; omega))
            rcases hjl with rfl | rfl | rfl | rfl
            all_goals
              simp only [Nat.reduceAdd, Nat.reduceMod] at cw13 cs y0 y1 s0 s1
              try simp only [Nat.add_zero] at cz fz
              go_wp2
              go_quiet (fail)
              go_wp2
              refine ⟨⟨_, ?_, rfl, ?_, ?_, ?_, (HC.out.drewN nq).setCell (.inr (by have := HZG.out; show w.heap.size ≤ g; omega)) _⟩, by simp [intOf]⟩
              · first | omega | decide
              · rw [HST.out]
                exact HPUT.out _
              · exact (Below.heap_setCell _ _ _ _ (by have := HZG.out; show bg ≠ g; omega)).trans HB.out
              · exact (Below.heap_setCell _ _ _ _ (by have := HGW.out; show gw ≠ g; omega)).trans HW.out
        · obtain rfl : j = 16 := by omega
          go_wp2_with (go_at_call 28; with_reducible refine (double_any (rcAt k) _ (rcAt_b k)).mono ?_; rintro e w2 ⟨rfl, rfl⟩)
          exact ⟨⟨k + 1, by omega, by go_num, rfl, HG.out, HB.out, HC.out⟩, by simp [intOf]; omega⟩
    · obtain rfl : k = 10 := by omega
      go_wp2
      go_ret
      exact ⟨g, bg, rfl, HG.out, HB.out, by have := HZG.out; omega, by have := HZG.out; omega, HC.out⟩
end Go.Proofs.Ytejhjlfakfaegaa
