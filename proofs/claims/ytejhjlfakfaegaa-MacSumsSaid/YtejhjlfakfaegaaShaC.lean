/- sha's Write: bytes taken in. -/
import Derived.Test.YtejhjlfakfaegaaShaB
set_option linter.unusedSimpArgs false
set_option linter.unusedVariables false
namespace Go.Proofs.Ytejhjlfakfaegaa
open Go.RowKit Go.Proofs.YtejhjlfakfaegaaW.PrintWords

theorem Ch.reads' {S : Nat → Prop} {w w' : World} (h : Ch S w w') {k : IntKind} {A : Option Addr} {n : Nat} {xs : List Int} (hr : ReadsInt w k A n xs) (hs : ∀ a, A = some a → 0 < n → ¬ S a.block) : ReadsInt w' k A n xs :=
  ⟨hr.1, hr.2.1, fun hn => by
    obtain ⟨ad, e, hc⟩ := hr.2.2 hn
    refine ⟨ad, e, fun j hj => h.cell (hc j hj) ?_⟩
    have : (ad.add j).block = ad.block := by unfold Addr.add; split <;> rfl
    rw [this]; exact hs ad e hn⟩
/-! ### append onto a row that may begin inside its block, whatever is appended -/
theorem wp_append_q {P : Program} {w : World} {o : Oper} {a : Act} {K : Act → World → Prop} {Q : Exit → Act → World → Prop} (base : Nat) (s x : Operand) (t e : TypeId) (k : IntKind) (bytes : Nat)
    (ho : o.op = .call { callee := .builtin .append, args := #[s, x], argTypes := #[t, t] })
    (ht : P.underlying t = some (.slice e)) (hinfo : (P.info? e).map (fun i => (i.zero, i.size, i.bytes)) = some (some (.int k 0), 1, bytes)) (hb0 : 0 < bytes)
    (v : Value) (xs ys : List Int) (A : Option Addr) (m c : Nat) (hs : a.eval s = v) (hx : a.eval x = .slice A m c)
    (HO : QRow w base e 1 v xs.length (nums k xs)) (HR : ReadsInt w k A m ys) (hbase : base ≤ w.heap.size) (hl : (xs.length + m) * bytes ≤ 140737488355328)
    (h : ∀ v' w', QRow w' base e 1 v' (xs ++ ys).length (nums k (xs ++ ys)) → w.grownBy w' v.ownBlock → (v'.ownBlock = v.ownBlock ∨ ∃ b, v'.ownBlock = some b ∧ w.heap.size ≤ b) → K (a.put o.dst v') w') :
    o.wp P a w K Q := by
  obtain ⟨i0, hi, hzz⟩ := Option.map_eq_some_iff.1 hinfo
  simp only [Prod.mk.injEq] at hzz
  obtain ⟨hz0, hz1, hz2⟩ := hzz
  have hm : ys.length = m := HR.1
  have hlen : xs.length + m ≤ 140737488355328 := Nat.le_trans (Nat.le_mul_of_pos_right _ hb0) hl
  have hrun : ∃ v1 w1, (Builtin.append_ #[t, t] o.type #[v, .slice A m c]).run P w = .ok v1 w1 ∧ QRow w1 base e 1 v1 (xs ++ ys).length (nums k (xs ++ ys)) ∧ w.grownBy w1 v.ownBlock ∧ (v1.ownBlock = v.ownBlock ∨ ∃ b, v1.ownBlock = some b ∧ w.heap.size ≤ b) := by
    rcases Nat.eq_zero_or_pos m with h0 | h0
    · subst h0
      obtain rfl : ys = [] := List.eq_nil_of_length_eq_zero hm
      refine ⟨v, w, ?_, by simpa using HO, World.grownBy.refl w _, .inl rfl⟩
      obtain ⟨A', c', rfl, hc'⟩ := q_slice HO
      rcases A with _ | ad <;> rcases A' with _ | ad' <;> simp [Builtin.append_, run_underlying ht, sizeOf, typeInfo, hi, Builtin.lenOf, Builtin.firstCells, hc', storeCells, loadCells, loadCellsFrom]
    · obtain ⟨ad, rfl, hc⟩ := HR.2.2 h0
      have hcells : ∀ j u, (nums k ys)[j]? = some u → w.cell? (ad.add j) = some u := by
        intro j u hu
        have hj : j < ys.length := by
          have := (List.getElem?_eq_some_iff.1 hu).1
          simpa [nums] using this
        have := hc j (by omega)
        simp [nums, List.getElem?_eq_getElem hj] at hu
        subst hu
        rw [this]
        simp [List.getD_eq_getElem?_getD, List.getElem?_eq_getElem hj]
      obtain ⟨v1, w1, hr, h2, h3, h4⟩ := q_append (P := P) w base t o.type e i0 (.int k 0) 1 bytes ht hi hz0 hz1 hz2 rfl (by omega) v xs.length (nums k xs) HO ad m c (nums k ys) (by simp [nums, hm]) hcells
        (by intro u hu; simp only [nums, List.mem_map] at hu; obtain ⟨q, _, rfl⟩ := hu; rfl) h0 (by simp only [maxLen]; omega) hl hbase
      exact ⟨v1, w1, hr, by simpa [nums, hm] using h2, h3, h4⟩
  obtain ⟨v1, w1, hr, hown, hg, hat⟩ := hrun
  unfold Oper.wp execOp
  simp only [ho, resolve, invoke, builtin, Sem.run_bind, Sem.run_pure, Result.andThen_ok, List.map_toArray, List.map_cons, List.map_nil, hs, hx, hr]
  exact h v1 w1 hown hg hat
theorem wpList_append_q {P : Program} {w : World} {ops : Array Oper} {rest : List Oper} {o : Oper} {a : Act} {Q : Exit → Act → World → Prop} (base : Nat) (hgd : o.guard = none) (s x : Operand) (t e : TypeId) (k : IntKind) (bytes : Nat)
    (ho : o.op = .call { callee := .builtin .append, args := #[s, x], argTypes := #[t, t] })
    (ht : P.underlying t = some (.slice e)) (hinfo : (P.info? e).map (fun i => (i.zero, i.size, i.bytes)) = some (some (.int k 0), 1, bytes)) (hb0 : 0 < bytes)
    (v : Value) (xs ys : List Int) (A : Option Addr) (m c : Nat) (hs : a.eval s = v) (hx : a.eval x = .slice A m c)
    (HO : QRow w base e 1 v xs.length (nums k xs)) (HR : ReadsInt w k A m ys) (hbase : base ≤ w.heap.size) (hl : (xs.length + m) * bytes ≤ 140737488355328)
    (h : ∀ v' w', QRow w' base e 1 v' (xs ++ ys).length (nums k (xs ++ ys)) → w.grownBy w' v.ownBlock → (v'.ownBlock = v.ownBlock ∨ ∃ b, v'.ownBlock = some b ∧ w.heap.size ≤ b) → wpList P ops Q rest (a.put o.dst v') w') :
    wpList P ops Q (o :: rest) a w :=
  wpList_plain hgd fun K hK => wp_append_q base s x t e k bytes ho ht hinfo hb0 v xs ys A m c hs hx HO HR hbase hl fun v' w' h1 h2 h3 => hK _ _ (h v' w' h1 h2 h3)
theorem step_append_q {P : Program} {w : World} {ops : Array Oper} {o : Oper} {a : Act} {K : Act → World → Prop} {Q : Exit → Act → World → Prop} {E : Prop} (base : Nat) (hgd : o.guard = none) (s x : Operand) (t e : TypeId) (k : IntKind) (bytes : Nat)
    (ho : o.op = .call { callee := .builtin .append, args := #[s, x], argTypes := #[t, t] })
    (ht : P.underlying t = some (.slice e)) (hinfo : (P.info? e).map (fun i => (i.zero, i.size, i.bytes)) = some (some (.int k 0), 1, bytes)) (hb0 : 0 < bytes)
    (v : Value) (xs ys : List Int) (A : Option Addr) (m c : Nat) (hs : a.eval s = v) (hx : a.eval x = .slice A m c)
    (HO : QRow w base e 1 v xs.length (nums k xs)) (HR : ReadsInt w k A m ys) (hbase : base ≤ w.heap.size) (hl : (xs.length + m) * bytes ≤ 140737488355328)
    (h : ∀ v' w', QRow w' base e 1 v' (xs ++ ys).length (nums k (xs ++ ys)) → w.grownBy w' v.ownBlock → (v'.ownBlock = v.ownBlock ∨ ∃ b, v'.ownBlock = some b ∧ w.heap.size ≤ b) → K (a.put o.dst v') w') :
    if Region.wanted o (yielded ops a.tmps) = true then Oper.wp P o a w K Q else E := by
  have hw : Region.wanted o (yielded ops a.tmps) = true := by simp [Region.wanted, hgd]
  rw [if_pos hw]
  exact wp_append_q base s x t e k bytes ho ht hinfo hb0 v xs ys A m c hs hx HO HR hbase hl h
theorem q_reads {w : World} {base : Nat} {e : TypeId} {k : IntKind} {A : Option Addr} {n c : Nat} {xs : List Int} (h : QRow w base e 1 (.slice A n c) n (nums k xs)) : ReadsInt w k A n xs := by
  have hl : xs.length = n := by have := h.1; simpa [nums] using this
  refine ⟨hl, q_max h, fun hn => ?_⟩
  obtain ⟨ad, rfl, hc⟩ := q_cells h hn
  refine ⟨ad, rfl, fun j hj => hc j _ ?_⟩
  simp [nums, List.getElem?_eq_getElem (show j < xs.length by omega), List.getD_eq_getElem?_getD]

/-! ### Taking in -/
theorem absorb_fuel (ks : List Int) : ∀ (n n' : Nat) (h m : List Int), m.length < 64 * (n + 1) → m.length < 64 * (n' + 1) → absorb ks n h m = absorb ks n' h m
  | 0, 0, h, m, _, _ => rfl
  | 0, n' + 1, h, m, h1, _ => by rw [absorb, absorb, if_neg (by omega)]
  | n + 1, 0, h, m, _, h2 => by rw [absorb, absorb, if_neg (by omega)]
  | n + 1, n' + 1, h, m, h1, h2 => by
    rw [absorb, absorb]
    by_cases hm : 64 ≤ m.length
    · rw [if_pos hm, if_pos hm]
      exact absorb_fuel ks n n' _ _ (by simp; omega) (by simp; omega)
    · rw [if_neg hm, if_neg hm]
def ab (h m : List Int) : List Int × List Int := absorb kst m.length h m
theorem ab_more (h m : List Int) (hm : 64 ≤ m.length) : ab h m = ab (blk kst h (m.take 64)) (m.drop 64) := by
  unfold ab
  rw [show m.length = (m.length - 1) + 1 by omega, absorb, if_pos hm]
  exact absorb_fuel _ _ _ _ _ (by simp; omega) (by simp; omega)
theorem ab_less (h m : List Int) (hm : m.length < 64) : ab h m = (h, m) := by
  unfold ab
  cases hl : m.length with
  | zero => rfl
  | succ n => rw [absorb, if_neg (by omega)]
theorem blk_length (ks h b : List Int) : (blk ks h b).length = 8 := by simp [blk, addAll]
theorem blk_w (ks h b : List Int) : ∀ x ∈ blk ks h b, W32 x := by
  intro x hx
  simp only [blk, addAll, List.mem_map] at hx
  obtain ⟨i, _, rfl⟩ := hx
  exact ad_w _ _
theorem Bs.append {a b : List Int} (ha : Bs a) (hb : Bs b) : Bs (a ++ b) := fun x hx => (List.mem_append.1 hx).elim (ha x) (hb x)
theorem Bs.drop {a : List Int} (ha : Bs a) (n : Nat) : Bs (a.drop n) := fun x hx => ha x (List.mem_of_mem_drop hx)
theorem Bs.take {a : List Int} (ha : Bs a) (n : Nat) : Bs (a.take n) := fun x hx => ha x (List.mem_of_mem_take hx)

/-- a Sum in memory -/
structure SumAt (w : World) (base bs : Nat) (h : List Int) (rest : Value) (r : List Int) (n : Int) : Prop where
  here : w.heap[bs]? = some (.cells (sumCells h rest n) 66 (0, 0))
  own : QRow w base 5 1 rest r.length (nums .u8 r)
  low : base ≤ bs
  h8 : h.length = 8
  hw : ∀ x ∈ h, W32 x
  rb : Bs r
  ne : rest.ownBlock ≠ some bs
  n0 : 0 ≤ n
  n1 : n < 1000000000
theorem sum_setrest (h : List Int) (rest v : Value) (n : Int) (h8 : h.length = 8) : (sumCells h rest n).setIfInBounds 8 v = sumCells h v n := by
  obtain ⟨a, b, c, d, e, f, g, i, rfl⟩ := list8 h8
  rfl
theorem sum_setn (h : List Int) (rest : Value) (n m : Int) (h8 : h.length = 8) : (sumCells h rest n).setIfInBounds 9 (.int .u64 m) = sumCells h rest m := by
  obtain ⟨a, b, c, d, e, f, g, i, rfl⟩ := list8 h8
  rfl
theorem sum_rest (h : List Int) (rest : Value) (n : Int) (h8 : h.length = 8) : (sumCells h rest n)[8]? = some rest := by
  obtain ⟨a, b, c, d, e, f, g, i, rfl⟩ := list8 h8
  rfl
theorem sum_n (h : List Int) (rest : Value) (n : Int) (h8 : h.length = 8) : (sumCells h rest n)[9]? = some (.int .u64 n) := by
  obtain ⟨a, b, c, d, e, f, g, i, rfl⟩ := list8 h8
  rfl

set_option maxHeartbeats 4000000 in
theorem write_any (base bs : Nat) (h : List Int) (rest : Value) (r : List Int) (n : Int) (A : Option Addr) (c : Nat) (l : List Int) (w : World)
    (hs : SumAt w base bs h rest r n) (hr : ReadsInt w .u8 A l.length l) (hl : Bs l) (hne : ∀ a, A = some a → 0 < l.length → a.block ≠ bs ∧ some a.block ≠ rest.ownBlock) (hn : n + l.length < 1000000000) (hrl : r.length < 64) :
    Calls Try.prog 22 #[.pointer (some ⟨bs, 0, none⟩), .slice A l.length c] w fun e w' =>
      e = .returned (.tuple #[]) ∧ ∃ rest', SumAt w' base bs (ab h (r ++ l)).1 rest' (ab h (r ++ l)).2 (n + l.length) ∧ Ch (fun i => i = bs ∨ some i = rest.ownBlock) w w' ∧ (rest'.ownBlock = rest.ownBlock ∨ ∃ b, rest'.ownBlock = some b ∧ w.heap.size ≤ b) := by
  obtain ⟨A', c', hv, hc'⟩ := q_slice hs.own
  have hlow : base ≤ w.heap.size := by have := blk_lt hs.here; have := hs.low; omega
  have c9 : w.cell? ⟨bs, 9, none⟩ = some (.int .u64 n) := by rw [blk_cell hs.here, sum_n _ _ _ hs.h8]
  have f9 : w.frozen? ⟨bs, 9, none⟩ = false := blk_frozen hs.here _
  have n0 := hs.n0
  have n1 := hs.n1
  generalize hm : l.length = m at *
  have HM := Lib.hid hm
  have HS := Lib.hid hs
  have HR := Lib.hid hr
  have HN := Lib.hid hne
  clear hs hr hne hm
  have HV := Lib.hid hv
  have h8' : ((w.setCell ⟨bs, 9, none⟩ (.int .u64 (n + m))).heap[bs]? = some (.cells (sumCells h rest (n + m)) 66 (0, 0))) := by rw [blk_set HS.out.here, sum_setn _ _ _ _ HS.out.h8]
  have c8 : (w.setCell ⟨bs, 9, none⟩ (.int .u64 (n + m))).cell? ⟨bs, 8, none⟩ = some (.slice A' r.length c') := by rw [blk_cell h8', sum_rest _ _ _ HS.out.h8, hv]
  have H8 := Lib.hid h8'
  obtain ⟨W, hW⟩ : ∃ W, w.setCell ⟨bs, 9, none⟩ (.int .u64 (n + m)) = W := ⟨_, rfl⟩
  have hq0 : QRow W base 5 1 (.slice A' r.length c') r.length (nums .u8 r) := by
    rw [← hW, ← hv]
    exact q_move HS.out.own fun k hk => Below.heap_setCell _ _ _ _ (fun e => HS.out.ne (by rw [hk, e]))
  have hr0 : ReadsInt W .u8 A m l := by
    rw [← hW]
    exact (Ch.setCell (S := (· = bs)) (Ch.refl _ w) (.inl rfl) _).reads' HR.out (fun a e hp h => (HN.out a e hp).1 h)
  have hC0 : Hid (Ch (fun i => i = bs ∨ some i = rest.ownBlock) w W) := by rw [← hW]; exact (Ch.refl _ w).setCell (.inl (.inl rfl)) _
  have hb0 : base ≤ W.heap.size := by rw [← hW]; simpa [World.setCell] using hlow
  have hH : W.heap[bs]? = some (.cells (sumCells h rest (n + m)) 66 (0, 0)) := by rw [← hW]; exact h8'
  have hl0 : (r.length + m) * 1 ≤ 140737488355328 := by omega
  have HH := Lib.hid hH
  have HNE : Hid ((Value.slice A' r.length c').ownBlock ≠ some bs) := by rw [← hv]; exact HS.out.ne
  have c8 : W.cell? ⟨bs, 8, none⟩ = some (.slice A' r.length c') := by rw [← hW]; exact c8
  have HQ0 := Lib.hid hq0
  have HR0 := Lib.hid hr0
  obtain ⟨N, hNN⟩ : ∃ N, (r ++ l).length = N := ⟨_, rfl⟩
  have HNN := Lib.hid hNN
  clear h8' hv hH hq0 hr0 hNN
  go_enter Try.func22, Try.ntmps22
  go_wp2_with (at_builtin; refine wpList_append_q base rfl _ _ 22 5 .u8 1 rfl Try.underlying22 info_u8 (by decide) (.slice A' r.length c') _ _ _ _ _ rfl rfl HQ0.out HR0.out hb0 hl0 ?_; intro v1 w1 hq hg hat; rw [HNN.out] at hq; obtain ⟨A1, c1, rfl, hc1⟩ := q_slice hq; (have hH1 : Hid (w1.heap[bs]? = some (.cells (sumCells h rest (n + m)) 66 (0, 0))) := blk_grown HH.out hg (fun e => HNE.out e.symm)); (have c8 : w1.cell? ⟨bs, 8, none⟩ = some rest := by rw [blk_cell hH1.out, sum_rest _ _ _ HS.out.h8]); (have f8 : w1.frozen? ⟨bs, 8, none⟩ = false := blk_frozen hH1.out _); have HQ := Lib.hid hq; have HG := Lib.hid hg; have HAT := Lib.hid hat; clear hq hg hat)
  obtain ⟨w2, hw2⟩ : ∃ w2, w1.setCell ⟨bs, 8, none⟩ (.slice A1 N c1) = w2 := ⟨_, rfl⟩
  have hS2 : SumAt w2 base bs h (.slice A1 N c1) (r ++ l) (n + m) := by
    rw [← hw2]
    refine ⟨by rw [blk_set hH1.out, sum_setrest _ _ _ _ HS.out.h8], ?_, HS.out.low, HS.out.h8, HS.out.hw, HS.out.rb.append hl, ?_, by omega, hn⟩
    · rw [HNN.out]
      refine q_move HQ.out fun k hk => Below.heap_setCell _ _ _ _ fun (e : k = bs) => ?_
      rcases HAT.out with hat | ⟨b, hb, hlt⟩
      · exact HNE.out (by rw [← hat, hk, e])
      · rw [hb] at hk; injection hk with hk; have := blk_lt HH.out; omega
    · intro e
      rcases HAT.out with hat | ⟨b, hb, hlt⟩
      · exact HNE.out (by rw [← hat, e])
      · rw [hb] at e; injection e with e; have := blk_lt HH.out; omega
  have hC2 : Ch (fun i => i = bs ∨ some i = rest.ownBlock) w w2 := by
    rw [← hw2]
    refine (hC0.out.grown HG.out fun k hk => .inl (.inr ?_)).setCell (.inl (.inl rfl)) _
    rw [HV.out, hk]
  have hA2 : (Value.slice A1 N c1).ownBlock = rest.ownBlock ∨ ∃ b, (Value.slice A1 N c1).ownBlock = some b ∧ w.heap.size ≤ b := by
    rcases HAT.out with hat | ⟨b, hb, hlt⟩
    · exact .inl (by rw [hat, HV.out])
    · refine .inr ⟨b, hb, ?_⟩
      have := hC0.out.size
      omega
  rw [hw2]
  have HS2 := Lib.hid hS2
  have HC2 := Lib.hid hC2
  have HA2 := Lib.hid hA2
  clear hS2 hC2 hA2 hw2
  go_loopg [] N (fun k wr => ∃ h' r' rest', r'.length = k ∧ SumAt wr base bs h' rest' r' (n + m) ∧ ab h' r' = ab h (r ++ l) ∧ Ch (fun i => i = bs ∨ some i = rest.ownBlock) w wr ∧ (rest'.ownBlock = rest.ownBlock ∨ ∃ b, rest'.ownBlock = some b ∧ w.heap.size ≤ b))
  case atStart => exact ⟨h, r ++ l, _, HNN.out, HS2.out, rfl, HC2.out, HA2.out⟩
  case round =>
    obtain ⟨h', r', rest', hlen, hS', hab, hC, hA⟩ := hrel
    clear HS2 HC2 HA2 HQ HG HAT c8 f8 c9 f9 hH1 HH HQ0 HR0 hC0 HNE H8 HV hW
    obtain ⟨A2, c2, rfl, hc2⟩ := q_slice hS'.own
    have c8 : wr.cell? ⟨bs, 8, none⟩ = some (.slice A2 gk c2) := by rw [blk_cell hS'.here, sum_rest _ _ _ hS'.h8, hlen]
    have HSK := Lib.hid hS'
    have HAB := Lib.hid hab
    have HC := Lib.hid hC
    have HA := Lib.hid hA
    have HLN := Lib.hid hlen
    clear hS' hab hC hA hlen
    by_cases hlt : 64 ≤ gk
    · obtain ⟨ad2, hA2, _⟩ := (q_reads HSK.out.own).2.2 (by rw [HLN.out]; omega)
      subst hA2
      have hg2 : gk ≤ c2 := by have := HLN.out; omega
      have h64 : 64 ≤ c2 := by omega
      have hr2 : ReadsInt wr .u8 (some ad2) 64 (r'.take 64) := by
        have := reads_sub (q_reads HSK.out.own) 0 64 (by rw [HLN.out]; omega)
        simpa [Addr.add] using this
      have hb2 := HSK.out.rb.take 64
      have hnb : ad2.block ≠ bs := fun e => HSK.out.ne (by simp [Value.ownBlock, e])
      obtain ⟨i0, hi0, hz0, hz1, hz2⟩ := info_parts info_u8
      have hcut := cut_from (P := Try.prog) 22 5 .i64 Try.underlying22 hi0 1 hz1 (some ad2) gk c2 64 (by omega) (by omega)
      have hdrop := q_drop HSK.out.own (k := 64) (by rw [HLN.out]; omega)
      rw [show (64 : Int).toNat = 64 from rfl] at hcut
      rw [HLN.out] at hdrop
      obtain ⟨A3, hA3⟩ : ∃ A3, (if c2 = 64 then some ad2 else (some ad2).map (·.add (64 * 1))) = A3 := ⟨_, rfl⟩
      rw [hA3] at hcut hdrop
      have HDR := Lib.hid hdrop
      have HR2 := Lib.hid hr2
      have HB2 := Lib.hid hb2
      have hob : Hid ((Value.slice A3 (gk - 64) (c2 - 64)).ownBlock = (Value.slice (some ad2) gk c2).ownBlock) := by
        show (Value.slice A3 (gk - 64) (c2 - 64)).ownBlock = (Value.slice (some ad2) gk c2).ownBlock
        rw [← hA3]
        have : ∀ a : Addr, (a.add 64).block = a.block := fun a => rfl
        split <;> simp [Value.ownBlock, this]
      clear hdrop hr2 hb2 hA3 hi0 hz0 hz1 hz2
      go_wp2_with fail
      refine (block_any bs h' _ _ _ c2 (r'.take 64) wr HSK.out.here HSK.out.h8 HSK.out.hw HR2.out HB2.out hnb h64).mono ?_
      rintro e w3 ⟨rfl, hh3, hC3⟩
      have c8 : w3.cell? ⟨bs, 8, none⟩ = some (.slice (some ad2) gk c2) := by rw [blk_cell hh3, sum_rest _ _ _ (blk_length _ _ _), HLN.out]
      have f8 : w3.frozen? ⟨bs, 8, none⟩ = false := blk_frozen hh3 _
      have HH3 := Lib.hid hh3
      have HC3 := Lib.hid hC3
      clear hh3 hC3
      go_wp2
      go_roundg (gk - 64)
      case measure => omega
      case rel =>
        refine ⟨blk kst h' (r'.take 64), r'.drop 64, _, by rw [List.length_drop, HLN.out], ⟨by rw [blk_set HH3.out, sum_setrest _ _ _ _ (blk_length _ _ _)], ?_, HSK.out.low, blk_length _ _ _, blk_w _ _ _, HSK.out.rb.drop 64, ?_, HSK.out.n0, HSK.out.n1⟩, ?_, ?_, ?_⟩
        · rw [List.length_drop, HLN.out, show nums .u8 (r'.drop 64) = (nums .u8 r').drop (64 * 1) by simp [nums, List.map_drop]]
          refine q_move HDR.out fun k hk => ?_
          rw [hob.out] at hk
          have hkb : k ≠ bs := fun e => HSK.out.ne (by rw [HLN.out, hk, e])
          exact (Below.heap_setCell _ _ _ _ hkb).trans (HC3.out.block k (q_lt HSK.out.own k (by rw [HLN.out]; exact hk)) hkb)
        · rw [hob.out]
          have := HSK.out.ne
          rwa [HLN.out] at this
        · rw [← ab_more _ _ (by rw [HLN.out]; omega), HAB.out]
        · exact (HC.out.then_ HC3.out (fun i _ e => .inl e)).setCell (.inl (.inl rfl)) _
        · rw [hob.out]
          have := HA.out
          rwa [HLN.out] at this
    · go_wp2
      go_end0
      have hab : ab h' r' = (h', r') := ab_less _ _ (by rw [HLN.out]; omega)
      rw [HAB.out] at hab
      rw [hab]
      exact ⟨rfl, _, HSK.out, HC.out, HA.out⟩
end Go.Proofs.Ytejhjlfakfaegaa
