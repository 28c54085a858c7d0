/- aes' Stream: what bytes become. -/
import Derived.Test.YtejhjlfakfaegaaAesD
import Derived.Test.YtejhjlfakfaegaaWMore
set_option linter.unusedSimpArgs false
set_option linter.unusedVariables false
namespace Go.Proofs.Ytejhjlfakfaegaa
open Go.RowKit Go.Proofs.YtejhjlfakfaegaaW.PrintWords Go.Proofs.YtejhjlfakfaegaaW.PrintMore
attribute [local go_sem] max2_int min2_int max_two min_two

/-- a byte goes into a row of the call's own -/
theorem wpList_store_own {P : Program} {ops : Array Oper} {rest : List Oper} {op : Oper} {a : Act} {w : World} {Q : Exit → Act → World → Prop} (hgd : op.guard = none) (ty : TypeId) (x y : Operand) (ho : op.op = .store ty x y)
    (g i : Nat) (k : IntKind) (v : Int) (hx : a.eval x = .pointer (some ⟨g, i, none⟩)) (hy : a.eval y = .int k v)
    (base n cap : Nat) (e : TypeId) (l : List Int) (hg : w.ownsRow base e 1 (.slice (some ⟨g, 0, none⟩) n cap) n (nums k l)) (hfit : i < n) (hi : (P.info? ty).map (·.size) = some 1)
    (h : ∀ w', w'.ownsRow base e 1 (.slice (some ⟨g, 0, none⟩) n cap) n (nums k (l.set i v)) → Ch (· = g) w w' → wpList P ops Q rest (a.put op.dst undef) w') : wpList P ops Q (op :: rest) a w := by
  obtain ⟨h1, h2⟩ := hg
  rcases h2 with ⟨he, h0⟩ | ⟨g', cap', cur, he, hb, hh, hnc, hcm, hcs, ht⟩
  · omega
  · injection he with e1 e2 e3
    injection e1 with e1
    injection e1 with e1
    subst e1 e3
    rw [Nat.mul_one] at hcs ht
    refine wpList_store_at hgd ty x y ho g i (.int k v) hx hy rfl cur e hh (by omega) hi fun w' hw' hc => h w' ⟨by simpa [nums] using h1, .inr ⟨g, cap, _, rfl, hb, hw', hnc, hcm, by simpa using hcs, ?_⟩⟩ hc
    rw [Nat.mul_one, Array.toList_setIfInBounds, List.take_set, ht]
    simp [nums, List.map_set]
/-- a number, one more: of the last bytes, which carry -/
def cAt (l : List Int) : Nat → Int
  | 0 => 1
  | k + 1 => if cAt l k = 1 ∧ nt l (15 - k) = 255 then 1 else 0
def inc (l : List Int) : List Int := all16 fun i => (nt l i + cAt l (15 - i)) % 256
def incTo (l : List Int) (p : Nat) : List Int := all16 fun i => if p ≤ i then (nt l i + cAt l (15 - i)) % 256 else nt l i
def incN (l : List Int) : Nat → List Int
  | 0 => l
  | q + 1 => inc (incN l q)
theorem cAt_01 (l : List Int) : ∀ k, cAt l k = 0 ∨ cAt l k = 1
  | 0 => .inr rfl
  | k + 1 => by
    rw [cAt]
    split
    · exact .inr rfl
    · exact .inl rfl
theorem cAt_dead (l : List Int) (k : Nat) (h : cAt l k = 0) : ∀ d, cAt l (k + d) = 0
  | 0 => h
  | d + 1 => by rw [← Nat.add_assoc, cAt, if_neg]; rw [cAt_dead l k h d]; omega
theorem inc_b (l : List Int) (hl : l.length = 16) (hb : Bs l) : Bs (inc l) := all16_bs _ fun j hj => ⟨by omega, by omega⟩
theorem inc_len (l : List Int) : (inc l).length = 16 := all16_len _
theorem incN_len (l : List Int) (h : l.length = 16) : ∀ q, (incN l q).length = 16
  | 0 => h
  | q + 1 => inc_len _
theorem incN_b (l : List Int) (h : l.length = 16) (hb : Bs l) : ∀ q, Bs (incN l q)
  | 0 => hb
  | q + 1 => inc_b _ (incN_len l h q) (incN_b l h hb q)
theorem incTo_len (l : List Int) (p : Nat) : (incTo l p).length = 16 := all16_len _
theorem incTo_16 (l : List Int) (h : l.length = 16) : incTo l 16 = l := nt_ext (incTo_len _ _) h fun j hj => by rw [incTo, all16_at _ _ hj, if_neg (by omega)]
theorem incTo_0 (l : List Int) : incTo l 0 = inc l := nt_ext (incTo_len _ _) (inc_len _) fun j hj => by rw [incTo, inc, all16_at _ _ hj, all16_at _ _ hj, if_pos (by omega)]
theorem incTo_at (l : List Int) (p : Nat) (h : p < 16) : nt (incTo l (p + 1)) p = nt l p := by rw [incTo, all16_at _ _ h, if_neg (by omega)]
theorem incTo_set (l : List Int) (p : Nat) (h : p < 16) (hc : cAt l (15 - p) = 1) : (incTo l (p + 1)).set p ((nt l p + 1) % 256) = incTo l p :=
  nt_ext (by simp [incTo_len]) (incTo_len _ _) fun j hj => by
    rw [nt_set (by rw [incTo_len]; exact h) (by rw [incTo_len]; exact hj), incTo, incTo, all16_at _ _ hj, all16_at _ _ hj]
    by_cases e : p = j
    · subst e; rw [if_pos rfl, if_pos (by omega), hc]
    · rw [if_neg e]
      by_cases e2 : p + 1 ≤ j
      · rw [if_pos e2, if_pos (by omega)]
      · rw [if_neg e2, if_neg (by omega)]
theorem cAt_go (l : List Int) (p : Nat) (h : p < 16) (hp : 0 < p) (hc : cAt l (15 - p) = 1) (hx : nt l p = 255) : cAt l (15 - (p - 1)) = 1 := by
  rw [show 15 - (p - 1) = (15 - p) + 1 by omega, cAt, if_pos ⟨hc, by rw [show 15 - (15 - p) = p by omega]; exact hx⟩]
theorem incTo_end (l : List Int) (p : Nat) (h : p < 16) (hb : Bs l) (hx : nt l p ≠ 255) : incTo l p = inc l := by
  have hdead : ∀ j, j < p → cAt l (15 - j) = 0 := fun j hj => by
    have h0 : cAt l ((15 - p) + 1) = 0 := by rw [cAt, if_neg]; rw [show 15 - (15 - p) = p by omega]; exact fun e => hx e.2
    have := cAt_dead l _ h0 (p - j - 1)
    rwa [show 15 - p + 1 + (p - j - 1) = 15 - j by omega] at this
  refine nt_ext (incTo_len _ _) (inc_len _) fun j hj => ?_
  rw [incTo, inc, all16_at _ _ hj, all16_at _ _ hj]
  by_cases e : p ≤ j
  · rw [if_pos e]
  · rw [if_neg e, hdead j (by omega)]
    have := hb.at j
    omega
/-- bytes against the blocks of numbers, from one on: the first j are done -/
def stTo (ks from_ b : List Int) (j : Nat) : List Int := (List.range b.length).map fun i => if i < j then x8 (nt b i) (nt (blk5 ks (incN from_ (i / 16))) (i % 16)) else nt b i
def strm (ks from_ b : List Int) : List Int := (List.range b.length).map fun i => x8 (nt b i) (nt (blk5 ks (incN from_ (i / 16))) (i % 16))
theorem stTo_len (ks f b : List Int) (j : Nat) : (stTo ks f b j).length = b.length := by simp [stTo]
theorem strm_len (ks f b : List Int) : (strm ks f b).length = b.length := by simp [strm]
theorem stTo_at (ks f b : List Int) (j i : Nat) (h : i < b.length) : nt (stTo ks f b j) i = if i < j then x8 (nt b i) (nt (blk5 ks (incN f (i / 16))) (i % 16)) else nt b i := by
  rw [nt_get (by rw [stTo_len]; exact h)]
  simp [stTo]
theorem nt_extn {a b : List Int} (hb : a.length = b.length) (h : ∀ j, j < a.length → nt a j = nt b j) : a = b := by
  apply List.ext_getElem hb
  intro i h1 h2
  have := h i h1
  rwa [nt_get h1, nt_get h2] at this
theorem stTo_0 (ks f b : List Int) : stTo ks f b 0 = b := nt_extn (stTo_len _ _ _ _) fun j hj => by rw [stTo_at _ _ _ _ _ (by rwa [stTo_len] at hj), if_neg (by omega)]
theorem stTo_all (ks f b : List Int) (j : Nat) (h : b.length ≤ j) : stTo ks f b j = strm ks f b := by
  unfold stTo strm
  apply List.map_congr_left
  intro i hi
  rw [if_pos (by have := List.mem_range.1 hi; omega)]
theorem stTo_set (ks f b : List Int) (j : Nat) (h : j < b.length) : (stTo ks f b j).set j (x8 (nt b j) (nt (blk5 ks (incN f (j / 16))) (j % 16))) = stTo ks f b (j + 1) :=
  nt_extn (by simp [stTo_len]) fun i hi => by
    rw [List.length_set, stTo_len] at hi
    rw [nt_set (by rw [stTo_len]; exact h) (by rw [stTo_len]; exact hi), stTo_at _ _ _ _ _ hi, stTo_at _ _ _ _ _ hi]
    by_cases e : j = i
    · subst e; rw [if_pos rfl, if_pos (by omega)]
    · rw [if_neg e]
      by_cases e2 : i < j
      · rw [if_pos e2, if_pos (by omega)]
      · rw [if_neg e2, if_neg (by omega)]
set_option maxRecDepth 100000 in
set_option maxHeartbeats 4000000 in
theorem stream5_any (g bg : Nat) (ks f b : List Int) (A : Option Addr) (n c : Nat) (w : World) (hc : CipherAt w g bg ks) (hl : f.length = 16) (hf : Bs f) (hr : ReadsInt w .u8 A n b) (hb : Bs b) (hn : n < 1000000) :
    Calls Try.prog 14 #[.pointer (some ⟨g, 0, none⟩), .agg (nums .u8 f).toArray, .slice A n c] w fun e w' =>
      ∃ v, e = .returned v ∧ w'.ownsRow w.heap.size 5 1 v n (nums .u8 (strm ks f b)) ∧ Ch (fun _ => False) w w' := by
  have HCI := Lib.hid hc
  have HL := Lib.hid hl
  have HR := Lib.hid hr
  have HBL := Lib.hid hr.1
  clear hc hl hr
  go_enter Try.func14, Try.ntmps14
  go_upto_region 1 with fail
  refine wp_named _ fun w1 hw1 => ?_
  have hC1 : Ch (fun _ => False) w w1 := by rw [hw1]; exact (Ch.refl _ _).alloc _
  have hF1 : w1.heap[w.heap.size]? = some (.cells (nums .u8 f).toArray 30 (0, 0)) := by rw [hw1]; exact heap_alloc_new _ _
  obtain ⟨gf, hgf⟩ : ∃ gf, w.heap.size = gf := ⟨_, rfl⟩
  have HGF := Lib.hid hgf
  rw [hgf] at hF1 ⊢
  have hR1 := hC1.reads HR.out (fun _ _ h => h)
  have HC1 := Lib.hid hC1
  have HF1 := Lib.hid hF1
  have HR1 := Lib.hid hR1
  clear hw1 hC1 hF1 hR1 hgf
  go_wp2_with (at_builtin; refine print_append_row (w0 := w1) w1.heap.size rfl _ _ 22 5 .u8 1 rfl Try.underlying22 info_u8 (by decide) (.slice none 0 0) [] b _ _ _ rfl rfl (own_nil _ _ _ _) HR1.out (Below.refl _ _) (Nat.le_refl _) (by simp; omega) ?_; intro v2 w2 ho hb2 _ _; have HO2 := Lib.hid ho; have HB2 := Lib.hid hb2; clear ho hb2)
  have ho := HO2.out
  rw [List.nil_append, HBL.out] at ho
  have hF2 : w2.heap[gf]? = some (.cells (nums .u8 f).toArray 30 (0, 0)) := (Ch.of_below (S := fun _ => False) HB2.out).blk HF1.out (fun h => h)
  have hC2 : Ch (fun _ => False) w w2 := HC1.out.trans (Ch.of_below HB2.out)
  have HO := Lib.hid ho
  have HF2 := Lib.hid hF2
  have HC2 := Lib.hid hC2
  have HLO : Hid (gf < w1.heap.size ∧ w.heap.size ≤ w1.heap.size ∧ w.heap.size ≤ gf) := Lib.hid ⟨blk_lt HF1.out, HC1.out.size, by rw [HGF.out]; exact Nat.le_refl _⟩
  clear ho hF2 hC2 HO2 HB2 HF1 HR1 HC1 HR HGF
  rcases Nat.eq_zero_or_pos n with h0 | hpos
  · subst h0
    obtain ⟨A2, c2, rfl, -⟩ := q_slice (q_of_own HO.out)
    have hz : strm ks f b = b := by rw [← stTo_all ks f b 0 (by have := HBL.out; omega), stTo_0]
    have HZ := Lib.hid hz
    clear hz
    refine wp_loop_rounds 1 ?_
    rw [rounds_succ]
    go_wp2
    go_ret
    refine ⟨_, rfl, ?_, HC2.out⟩
    rw [HZ.out]
    exact own_weaken HO.out HLO.out.2.1
  obtain ⟨A2, c2, rfl, -⟩ := q_slice (q_of_own HO.out)
  obtain ⟨go, rfl, hgo⟩ : ∃ go, A2 = some ⟨go, 0, none⟩ ∧ w1.heap.size ≤ go := by
    rcases HO.out.2 with ⟨he, h0⟩ | ⟨go, cap, cur, he, hb, _⟩
    · omega
    · injection he with e1
      exact ⟨go, e1, hb⟩
  have HGO := Lib.hid hgo
  clear hgo
  go_loopw [8] (fun at_ wr => ∃ q : Nat, 16 * q ≤ n + 15 ∧ at_ = .int .i64 ((16 * q : Nat) : Int) ∧ wr.heap[gf]? = some (.cells (nums .u8 (incN f q)).toArray 30 (0, 0)) ∧ wr.ownsRow w1.heap.size 5 1 (.slice (some ⟨go, 0, none⟩) n c2) n (nums .u8 (stTo ks f b (16 * q))) ∧ Ch (fun _ => False) w wr) (fun at_ _ => (n + 16 - intOf at_).toNat)
  case atStart => exact ⟨0, by omega, rfl, HF2.out, by rw [stTo_0]; exact HO.out, HC2.out⟩
  case round =>
    obtain ⟨q, hq, rfl, hF, hO, hC⟩ := hrel
    clear HF2 HO HC2
    have HF := Lib.hid hF
    have HO := Lib.hid hO
    have HC := Lib.hid hC
    clear hF hO hC
    by_cases hlt : 16 * q < n
    · have HIL := Lib.hid (incN_len f HL.out q)
      have HIB := Lib.hid (incN_b f HL.out hf q)
      have HBK := Lib.hid (block5_any g bg ks (incN f q) wr (HCI.out.keep HC.out) HIL.out HIB.out)
      have HPL := Lib.hid (blkTo_len ks (incN f q) 10)
      have HPB := Lib.hid (blkTo_bs ks (incN f q) 10)
      change Hid ((blk5 ks (incN f q)).length = 16) at HPL
      change Hid (Bs (blk5 ks (incN f q))) at HPB
      go_wp2_with (first
        | (refine wpList_load_mid rfl 30 (.tmp 4) rfl gf 0 rfl (nums .u8 (incN f q)) (.array 16 5) (range_nums HF.out) Try.underlying30 rfl (by rw [nums_len, HIL.out]; kernel_rfl) ?_)
        | (go_at_call 17; with_reducible refine (HBK.out).mono ?_; rintro e w3 ⟨rfl, hc3⟩; have HC3 := Lib.hid hc3; clear hc3)
        | (refine Great.wpList_runTo rfl (some 9) rfl (.pointer (some ⟨w3.heap.size, 0, none⟩)) (w3.alloc (.cells (nums .u8 z16).toArray 30)) (by kernel_rfl) ?_)
        | (refine wpList_store_row rfl 30 (.tmp 9) (.tmp 22) rfl w3.heap.size (nums .u8 (blk5 ks (incN f q))).toArray rfl rfl 30 (nums .u8 z16).toArray (heap_alloc_new _ _) (by rw [List.size_toArray, nums_len, HPL.out]; kernel_rfl) (by simp [nums, HPL.out, z16]) (all_nums _ _) ?_; rw [setRow_alloc]))
      refine wp_named _ fun w4 hw4 => ?_
      have hP4 : w4.heap[w3.heap.size]? = some (.cells (nums .u8 (blk5 ks (incN f q))).toArray 30 (0, 0)) := by rw [hw4]; exact heap_alloc_new _ _
      have hC4 : Ch (fun _ => False) wr w4 := by rw [hw4]; exact HC3.out.alloc _
      obtain ⟨gp, hgp⟩ : ∃ gp, w3.heap.size = gp := ⟨_, rfl⟩
      rw [hgp] at hP4 ⊢
      have HGP : Hid (gp ≠ go ∧ gp ≠ gf ∧ w.heap.size ≤ gp ∧ gf ≠ go ∧ w.heap.size ≤ go) := Lib.hid ⟨by have := own_lt HO.out go rfl; have := HC3.out.size; omega, by have := blk_lt HF.out; have := HC3.out.size; omega, by have := HC.out.size; have := HC3.out.size; omega, by have := HLO.out; have := HGO.out; omega, by have := HLO.out; have := HGO.out; omega⟩
      have HP4 := Lib.hid hP4
      have HF4 := Lib.hid (hC4.blk HF.out (fun h => h))
      have HO4 := Lib.hid (own_move HO.out (fun k hk => hC4.block k (own_lt HO.out k hk) (fun h => h)))
      have HC4 := Lib.hid (HC.out.trans hC4)
      clear hw4 hP4 hC4 hgp HF HO HC HC3 HBK
      generalize hpd : blk5 ks (incN f q) = pd at *
      have HPD := Lib.hid hpd
      clear hpd
      obtain ⟨wo, hwo⟩ : ∃ wo : World, wo = w4 := ⟨_, rfl⟩
      rw [← hwo] at HP4 HF4 HO4 HC4 ⊢
      clear hwo
      go_loopw [10] (fun i wr => ∃ j : Nat, 16 * q ≤ j ∧ j ≤ n ∧ j ≤ 16 * q + 16 ∧ i = .int .i64 (j : Int) ∧ wr.heap[gp]? = some (.cells (nums .u8 pd).toArray 30 (0, 0)) ∧ wr.heap[gf]? = some (.cells (nums .u8 (incN f q)).toArray 30 (0, 0)) ∧ wr.ownsRow w1.heap.size 5 1 (.slice (some ⟨go, 0, none⟩) n c2) n (nums .u8 (stTo ks f b j)) ∧ Ch (fun _ => False) w wr) (fun i _ => (16 * q + 16 - intOf i).toNat)
      case atStart => exact ⟨16 * q, by omega, by omega, by omega, by go_num, HP4.out, HF4.out, HO4.out, HC4.out⟩
      case round =>
        obtain ⟨j, hj1, hj2, hj3, rfl, hP, hF, hO, hC⟩ := hrel
        clear HP4 HF4 HO4 HC4
        have HP := Lib.hid hP
        have HF := Lib.hid hF
        have HO := Lib.hid hO
        have HC := Lib.hid hC
        clear hP hF hO hC
        by_cases hjt : j < n ∧ j < 16 * q + 16
        · --[B1
          obtain ⟨hjn, hjq⟩ := hjt
          have co := (own_reads' HO.out).2.2 (by omega)
          obtain ⟨ad, had, hcell⟩ := co
          injection had with had
          subst had
          have co := hcell j hjn
          rw [add_plain] at co
          change wr.cell? _ = some (.int .u8 (nt (stTo ks f b j) j)) at co
          rw [stTo_at _ _ _ _ _ (by rw [HBL.out]; exact hjn), if_neg (by omega)] at co
          have cp := blk_nums HP.out (j - 16 * q) (by rw [HPL.out]; omega)
          obtain ⟨x0, x1⟩ := hb.at j
          obtain ⟨y0, y1⟩ := HPB.out.at (j - 16 * q)
          have hset : (stTo ks f b j).set j (x8 (nt b j) (nt pd (j - 16 * q))) = stTo ks f b (j + 1) := by
            rw [← stTo_set _ _ _ _ (by rw [HBL.out]; exact hjn), ← HPD.out, show j / 16 = q by omega, show j % 16 = j - 16 * q by omega]
          have HSET := Lib.hid hset
          have hq1 : (16 * (q : Int)) ≤ j := by omega
          have s1 : (16 * (q : Int) + 16) = IntKind.i64.wrap (16 * (q : Int) + 16) := by rw [IntWalk.i64_in _ (by omega)]
          clear hset hcell s1
          have q1 : (j : Int) < (n : Int) := by omega
          have q2 : (j : Int) < 16 * (q : Int) + 16 := by omega
          by_cases hmin : (n : Int) < 16 * (q : Int) + 16
          all_goals
            go_wp2
            refine wp_region_quiet_tail 11 (by kernel_rfl) (by kernel_rfl) ?_
            simp only [List.take_succ_cons, List.take_zero, List.drop_succ_cons, List.drop_zero]
            repeat (go_big_quiet_step (fail))
            refine wpQuiet_nil ?_
            intro wq hw'
            obtain ⟨nd, rfl⟩ := hw'
            have HPq := Lib.hid (drewN_blk nd HP.out)
            have HFq := Lib.hid (drewN_blk nd HF.out)
            have HOq : Hid ((wr.drewN nd).ownsRow w1.heap.size 5 1 (.slice (some ⟨go, 0, none⟩) n c2) n (nums .u8 (stTo ks f b j))) := HO
            have HCq := Lib.hid (HC.out.drewN nd)
            generalize wr.drewN nd = wq at *
            refine wpList_store_own rfl 5 (.tmp 43) (.tmp 42) rfl go j .u8 (x8 (nt b j) (nt pd (j - 16 * q))) rfl rfl _ _ _ _ _ HOq.out hjn (by kernel_rfl) ?_
            intro w5 hw' hc'
            rw [HSET.out] at hw'
            have HO5 := Lib.hid hw'
            have HP5 := Lib.hid (hc'.blk HPq.out (by have := HGP.out; omega))
            have HF5 := Lib.hid (hc'.blk HFq.out (by have := HGP.out; omega))
            have HC5 := Lib.hid (HCq.out.then_ hc' (fun i hi e => by have := HGP.out; omega))
            clear hw' hc'
            simp only [Act.put]
            go_wp2
            exact ⟨⟨j + 1, by omega, by omega, by omega, by go_num, HP5.out, HF5.out, HO5.out, HC5.out⟩, by simp [intOf]; omega⟩
          --B1]
        · have hend : stTo ks f b j = stTo ks f b (16 * (q + 1)) := by
            by_cases e : j = 16 * q + 16
            · rw [e, show 16 * (q + 1) = 16 * q + 16 by omega]
            · rw [stTo_all _ _ _ j (by rw [HBL.out]; omega), stTo_all _ _ _ _ (by rw [HBL.out]; omega)]
          have HO6 := HO.out
          rw [hend] at HO6
          have HO6 := Lib.hid HO6
          clear hend HO HP
          have hmm : ((j : Int) < (if (n : Int) < 16 * (q : Int) + 16 then (n : Int) else 16 * (q : Int) + 16)) ↔ False := by
            split <;> simp <;> omega
          have hm0 : ¬ ((j : Int) < (n : Int)) ∨ ¬ ((j : Int) < 16 * (q : Int) + 16) := by omega
          by_cases hmin : (n : Int) < 16 * (q : Int) + 16
          all_goals
            have hm1 : (if (n : Int) < 16 * (q : Int) + 16 then (n : Int) else 16 * (q : Int) + 16) ≤ (j : Int) := by split <;> omega
            have hd : decide (j < n) = false ∨ decide ((j : Int) < 16 * (q : Int) + 16) = false := by
              rcases hm0 with h | h
              · exact .inl (by simp; omega)
              · exact .inr (by simp; omega)
            first
              | (have hd1 : decide (j < n) = false := by simp; omega)
              | (have hd2 : decide ((j : Int) < 16 * (q : Int) + 16) = false := by simp; omega)
            clear hmm hm0 hd
            go_wp2
            obtain ⟨wz, hwz⟩ : ∃ wz : World, wz = wr := ⟨_, rfl⟩
            rw [← hwz] at HF HO6 HC ⊢
            clear hwz
            have HFN : Hid (incN f (q + 1) = inc (incN f q)) := Lib.hid rfl
            generalize hgF : incN f (q + 1) = F' at *
            have HGFN := Lib.hid hgF
            clear hgF
            generalize incN f q = F at *
            go_loopw [11] (fun i wr => ((∃ p : Nat, p ≤ 15 ∧ i = .int .i64 (p : Int) ∧ wr.heap[gf]? = some (.cells (nums .u8 (incTo F (p + 1))).toArray 30 (0, 0)) ∧ cAt F (15 - p) = 1) ∨ (i = .int .i64 (-1) ∧ wr.heap[gf]? = some (.cells (nums .u8 (inc F)).toArray 30 (0, 0)))) ∧ wr.ownsRow w1.heap.size 5 1 (.slice (some ⟨go, 0, none⟩) n c2) n (nums .u8 (stTo ks f b (16 * (q + 1)))) ∧ Ch (fun _ => False) w wr) (fun i _ => (intOf i + 1).toNat)
            case atStart => exact ⟨.inl ⟨15, by omega, rfl, by rw [incTo_16 _ HIL.out]; exact HF.out, rfl⟩, HO6.out, HC.out⟩
            case round =>
              obtain ⟨hF, hO, hC⟩ := hrel
              clear HF HO6 HC
              have HO := Lib.hid hO
              have HC := Lib.hid hC
              clear hO hC
              rcases hF with ⟨p, hp, rfl, hF, hcar⟩ | ⟨rfl, hF⟩
              · have HF := Lib.hid hF
                have HCAR := Lib.hid hcar
                clear hF hcar
                have cf := blk_nums HF.out p (by rw [incTo_len]; omega)
                rw [incTo_at _ _ (by omega)] at cf
                have ff : wr.frozen? ⟨gf, p, none⟩ = false := blk_frozen HF.out _
                have HSET := Lib.hid (incTo_set F p (by omega) HCAR.out)
                obtain ⟨x0, x1⟩ := HIB.out.at p
                by_cases hx : nt F p = 255
                · rw [hx, show (((255 : Int) + 1) % 256) = 0 from rfl] at HSET
                  rw [hx] at cf
                  have HX := Lib.hid hx
                  have HNEW : Hid (nt (incTo F p) p = 0) := Lib.hid (by rw [incTo, all16_at _ _ (by omega), if_pos (by omega), hx, HCAR.out]; rfl)
                  clear hx x0 x1
                  have hS := blk_set HF.out p (.int .u8 0)
                  rw [nums_set, HSET.out] at hS
                  have HF5 := Lib.hid hS
                  have HO5 := Lib.hid (own_move (w1 := wr.setCell ⟨gf, p, none⟩ (.int .u8 0)) HO.out (fun k hk => Below.heap_setCell _ _ _ _ (by have hk' : go = k := Option.some.inj hk; have := HGP.out; show k ≠ gf; omega)))
                  have HC5 : Hid (Ch (fun _ => False) w (wr.setCell ⟨gf, p, none⟩ (.int .u8 0))) := Lib.hid (HC.out.setCell (.inr (by have := HLO.out; show w.heap.size ≤ gf; omega)) _)
                  clear hS HNEW
                  go_wp2
                  refine ⟨⟨?_, HO5.out, HC5.out⟩, by simp [intOf]⟩
                  by_cases hp0 : p = 0
                  · subst hp0
                    exact .inr ⟨by go_num, by rw [← incTo_0]; exact HF5.out⟩
                  · exact .inl ⟨p - 1, by omega, by go_num, by rw [show p - 1 + 1 = p by omega]; exact HF5.out, cAt_go F p (by omega) (by omega) HCAR.out HX.out⟩
                · have HX := Lib.hid hx
                  have hlt5 : nt F p < 255 := by omega
                  have HNEW : Hid (nt (incTo F p) p = (nt F p + 1) % 256) := Lib.hid (by rw [incTo, all16_at _ _ (by omega), if_pos (by omega), HCAR.out])
                  have hm5 : (nt F p + 1) % 256 = nt F p + 1 := by omega
                  rw [hm5] at HSET HNEW
                  have hnz : (nt F p + 1 != 0) = true := by rw [bne_iff_ne]; omega
                  clear hx hm5 x1
                  have hS := blk_set HF.out p (.int .u8 (nt F p + 1))
                  rw [nums_set, HSET.out] at hS
                  have HF5 := Lib.hid hS
                  have HO5 := Lib.hid (own_move (w1 := wr.setCell ⟨gf, p, none⟩ (.int .u8 (nt F p + 1))) HO.out (fun k hk => Below.heap_setCell _ _ _ _ (by have hk' : go = k := Option.some.inj hk; have := HGP.out; show k ≠ gf; omega)))
                  have HC5 : Hid (Ch (fun _ => False) w (wr.setCell ⟨gf, p, none⟩ (.int .u8 (nt F p + 1)))) := Lib.hid (HC.out.setCell (.inr (by have := HLO.out; show w.heap.size ≤ gf; omega)) _)
                  clear hS HNEW
                  go_wp2
                  refine ⟨⟨q + 1, by omega, by go_num, ?_, HO5.out, HC5.out⟩, by simp [intOf]; omega⟩
                  rw [HGFN.out, HFN.out, ← incTo_end F p (by omega) HIB.out HX.out]
                  exact HF5.out
              · have HF := Lib.hid hF
                clear hF
                go_wp2
                refine ⟨⟨q + 1, by omega, by go_num, ?_, HO.out, HC.out⟩, by simp [intOf]; omega⟩
                rw [HGFN.out, HFN.out]
                exact HF.out
    · have hz := stTo_all ks f b (16 * q) (by rw [HBL.out]; omega)
      have HZ := Lib.hid hz
      clear hz
      go_wp2
      go_ret
      refine ⟨_, rfl, ?_, HC.out⟩
      rw [← HZ.out]
      exact own_weaken HO.out HLO.out.2.1
end Go.Proofs.Ytejhjlfakfaegaa
