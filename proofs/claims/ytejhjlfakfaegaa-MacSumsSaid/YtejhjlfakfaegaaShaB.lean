/- sha's block: sixty-four bytes taken in. -/
import Derived.Test.YtejhjlfakfaegaaShaW
import Derived.Test.YtejhjlfakfaegaaTail
set_option linter.unusedSimpArgs false
set_option linter.unusedVariables false
namespace Go.Proofs.Ytejhjlfakfaegaa
open Go.RowKit Go.Proofs.YtejhjlfakfaegaaW.PrintWords

/-! ### What a call may turn: the blocks that S names, and new ones -/
structure Ch (S : Nat → Prop) (w w' : World) : Prop where
  os : w'.os = w.os
  tape : w'.tape = w.tape
  output : w'.output = w.output
  size : w.heap.size ≤ w'.heap.size
  block : ∀ k, k < w.heap.size → ¬ S k → w'.heap[k]? = w.heap[k]?
theorem Ch.refl (S : Nat → Prop) (w : World) : Ch S w w := ⟨rfl, rfl, rfl, Nat.le_refl _, fun _ _ _ => rfl⟩
theorem Ch.trans {S : Nat → Prop} {a b c : World} (h : Ch S a b) (k : Ch S b c) : Ch S a c :=
  ⟨k.os.trans h.os, k.tape.trans h.tape, k.output.trans h.output, Nat.le_trans h.size k.size, fun i hi hs => (k.block i (Nat.lt_of_lt_of_le hi h.size) hs).trans (h.block i hi hs)⟩
theorem Ch.imp {S S' : Nat → Prop} {a b : World} (h : Ch S a b) (hs : ∀ k, S k → S' k) : Ch S' a b := ⟨h.os, h.tape, h.output, h.size, fun k hk hn => h.block k hk fun h' => hn (hs k h')⟩
/-- a later call may turn, besides, what is new -/
theorem Ch.then_ {S S' : Nat → Prop} {a b c : World} (h : Ch S a b) (k : Ch S' b c) (hs : ∀ i, i < a.heap.size → S' i → S i) : Ch S a c :=
  ⟨k.os.trans h.os, k.tape.trans h.tape, k.output.trans h.output, Nat.le_trans h.size k.size, fun i hi hn => (k.block i (Nat.lt_of_lt_of_le hi h.size) fun h' => hn (hs i hi h')).trans (h.block i hi hn)⟩
theorem Ch.drewN {S : Nat → Prop} {a w : World} (h : Ch S a w) (n : Nat) : Ch S a (w.drewN n) := ⟨h.os, h.tape, h.output, h.size, h.block⟩
theorem Ch.drew {S : Nat → Prop} {a w : World} (h : Ch S a w) : Ch S a w.drew := ⟨h.os, h.tape, h.output, h.size, h.block⟩
theorem Ch.alloc {S : Nat → Prop} {a w : World} (h : Ch S a w) (o : Obj) : Ch S a (w.alloc o) :=
  h.trans ⟨rfl, rfl, rfl, by simp, fun k hk _ => Below.heap_alloc _ _ _ hk⟩
theorem Ch.setCell {S : Nat → Prop} {a w : World} (h : Ch S a w) {p : Addr} (hp : S p.block ∨ a.heap.size ≤ p.block) (u : Value) : Ch S a (w.setCell p u) :=
  h.then_ (S' := (· = p.block)) ⟨rfl, rfl, rfl, by simp [World.setCell], fun k hk hn => Below.heap_setCell _ _ _ _ hn⟩ (fun i hi e => by subst e; rcases hp with hp | hp; exact hp; omega)
theorem Ch.setRow {S : Nat → Prop} {a w : World} (h : Ch S a w) {g : Nat} (hp : S g ∨ a.heap.size ≤ g) (cs : Array Value) : Ch S a (w.setRow g cs) :=
  h.then_ (S' := (· = g)) ⟨rfl, rfl, rfl, by simp, fun k hk hn => setRow_other w g k cs hn⟩ (fun i hi e => by subst e; rcases hp with hp | hp; exact hp; omega)
theorem Ch.of_below {S : Nat → Prop} {w w' : World} (h : Below w.heap.size w w') : Ch S w w' := ⟨h.os, h.tape, h.output, h.size, fun k hk _ => h.block k hk⟩
theorem Ch.below {w w' : World} (h : Ch (fun _ => False) w w') : Below w.heap.size w w' := ⟨h.os, h.tape, h.output, h.size, fun k hk => h.block k hk id⟩
theorem Ch.grown {S : Nat → Prop} {a w w' : World} {row : Option Nat} (h : Ch S a w) (hg : w.grownBy w' row) (hr : ∀ k, row = some k → S k ∨ a.heap.size ≤ k) : Ch S a w' :=
  h.then_ (S' := fun k => some k = row) ⟨hg.os, hg.tape, hg.output, hg.size, fun k hk hn => hg.block k hk hn⟩ (fun i hi e => by rcases hr i e.symm with hp | hp; exact hp; omega)
theorem Ch.blk {S : Nat → Prop} {w w' : World} (h : Ch S w w') {g : Nat} {o : Obj} (hg : w.heap[g]? = some o) (hs : ¬ S g) : w'.heap[g]? = some o := (h.block g (blk_lt hg) hs).trans hg
theorem Ch.cell {S : Nat → Prop} {w w' : World} (h : Ch S w w') {a : Addr} {v : Value} (hc : w.cell? a = some v) (hs : ¬ S a.block) : w'.cell? a = some v :=
  (World.cell?_of_block (h.block a.block (World.block_lt_of_cell? w a hc) hs)).trans hc
theorem Ch.reads {S : Nat → Prop} {w w' : World} (h : Ch S w w') {k : IntKind} {A : Option Addr} {n : Nat} {xs : List Int} (hr : ReadsInt w k A n xs) (hs : ∀ a, A = some a → ¬ S a.block) : ReadsInt w' k A n xs :=
  ⟨hr.1, hr.2.1, fun hn => by
    obtain ⟨ad, e, hc⟩ := hr.2.2 hn
    refine ⟨ad, e, fun j hj => h.cell (hc j hj) ?_⟩
    have : (ad.add j).block = ad.block := by unfold Addr.add; split <;> rfl
    rw [this]; exact hs ad e⟩

/-! ### The words' array -/
def wPad (ws : List Int) : Array Value := (nums .u32 ws ++ List.replicate (64 - ws.length) (Value.int .u32 0)).toArray
theorem wPad_nil : wPad [] = z64 := by simp only [wPad, z64, nums, List.map_nil, List.nil_append, List.length_nil, Nat.sub_zero, List.toArray_replicate]
theorem add_add (a : Addr) (i j : Nat) : (a.add i).add j = a.add (i + j) := by
  unfold Addr.add
  by_cases hi : i = 0
  · subst hi; simp
  · by_cases hj : j = 0
    · subst hj; simp
    · simp [hi, hj, Nat.add_assoc]
theorem reads_sub {w : World} {k : IntKind} {ad : Addr} {n : Nat} {xs : List Int} (h : ReadsInt w k (some ad) n xs) (i m : Nat) (hi : i + m ≤ n) : ReadsInt w k (some (ad.add i)) m ((xs.drop i).take m) := by
  obtain ⟨h1, h2, h3⟩ := h
  refine ⟨by simp [h1]; omega, by omega, fun hm => ?_⟩
  obtain ⟨a', e, hc⟩ := h3 (by omega)
  injection e with e
  subst e
  refine ⟨_, rfl, fun j hj => ?_⟩
  rw [add_add, hc (i + j) (by omega)]
  simp [List.getD_eq_getElem?_getD, List.getElem?_take, hj]
theorem wPad_get (ws : List Int) (k : Nat) (h : k < ws.length) : (wPad ws)[k]? = some (.int .u32 (nt ws k)) := by
  rw [nt_get h]
  simp [wPad, nums, List.getElem?_append_left, h]
theorem wPad_set (ws : List Int) (x : Int) (h : ws.length < 64) : (wPad ws).setIfInBounds ws.length (.int .u32 x) = wPad (ws ++ [x]) := by
  unfold wPad
  apply Array.ext'
  have e : 64 - ws.length = (64 - (ws.length + 1)) + 1 := by omega
  simp only [List.setIfInBounds_toArray, nums, List.map_append, List.length_append, List.length_cons, List.length_nil, List.map_cons, List.map_nil]
  rw [e, List.replicate_succ, List.set_append_right _ _ (by simp)]
  simp
theorem wPad_here (ws : List Int) (h : ws.length < 64) : (wPad ws)[ws.length]? = some (.int .u32 0) := by
  unfold wPad
  have e : 64 - ws.length = (63 - ws.length) + 1 := by omega
  simp [nums, List.getElem?_append_right, h, e, List.replicate_succ]
theorem w16_succ (b : List Int) (k : Nat) : w16 b (k + 1) = w16 b k ++ [be ((b.drop (4 * k)).take 4)] := by simp [w16, List.range_succ]
theorem w16_length (b : List Int) (k : Nat) : (w16 b k).length = k := by simp [w16]
theorem be4 (l : List Int) (hb : Bs l) (h : l.length = 4) : W32 (be l) := by
  have := beTo_le l hb 4 (by omega)
  rw [show beTo l 4 = be l by simp [beTo, be, ← h]] at this
  exact ⟨this.1, this.2⟩
theorem Bs.sub {l : List Int} (h : Bs l) (i n : Nat) : Bs ((l.drop i).take n) := fun x hx => h x (List.mem_of_mem_drop (List.mem_of_mem_take hx))
theorem w16_w (b : List Int) (hb : Bs b) (h : b.length = 64) (k : Nat) (hk : k ≤ 16) : ∀ x ∈ w16 b k, W32 x := by
  intro x hx
  simp only [w16, List.mem_map, List.mem_range] at hx
  obtain ⟨i, hi, rfl⟩ := hx
  exact be4 _ (hb.sub _ _) (by simp [h]; omega)
theorem wGo_succ : ∀ (j : Nat) (w : List Int), wGo (j + 1) w = wGo j w ++ [wNext (wGo j w)]
  | 0, w => rfl
  | j + 1, w => by rw [show wGo (j + 1 + 1) w = wGo (j + 1) (w ++ [wNext w]) from rfl, wGo_succ j]; rfl
def wTo (b : List Int) (k : Nat) : List Int := wGo (k - 16) (w16 b 16)
theorem wTo_succ (b : List Int) (k : Nat) (h : 16 ≤ k) : wTo b (k + 1) = wTo b k ++ [wNext (wTo b k)] := by
  unfold wTo
  rw [show k + 1 - 16 = (k - 16) + 1 by omega, wGo_succ]
theorem wNext_w (w : List Int) : W32 (wNext w) := ad_w _ _
theorem wGo_w : ∀ (j : Nat) (w : List Int), (∀ x ∈ w, W32 x) → ∀ x ∈ wGo j w, W32 x
  | 0, _, h => h
  | j + 1, w, h => wGo_w j _ fun x hx => by rcases List.mem_append.1 hx with h' | h'; exact h x h'; rw [List.mem_singleton.1 h']; exact wNext_w w
theorem wGo_length : ∀ (j : Nat) (w : List Int), (wGo j w).length = w.length + j
  | 0, _ => rfl
  | j + 1, w => by rw [wGo, wGo_length j]; simp; omega
theorem wTo_length (b : List Int) (k : Nat) (h : 16 ≤ k) : (wTo b k).length = k := by rw [wTo, wGo_length, w16_length]; omega
theorem wTo_w (b : List Int) (hb : Bs b) (h : b.length = 64) (k : Nat) : ∀ x ∈ wTo b k, W32 x := wGo_w _ _ (w16_w b hb h 16 (by omega))
theorem nt_w {l : List Int} (h : ∀ x ∈ l, W32 x) (k : Nat) : W32 (nt l k) := by
  by_cases hk : k < l.length
  · rw [nt_get hk]; exact h _ (List.getElem_mem hk)
  · simp [nt, List.getD_eq_getElem?_getD, List.getElem?_eq_none (Nat.le_of_not_lt hk), W32]

theorem wNext_eq (ws : List Int) (k : Nat) (h : ws.length = k) : wNext ws = (nt ws (k - 16) + sg0 (nt ws (k - 15)) + nt ws (k - 7) + sg1 (nt ws (k - 2))) % 4294967296 := by
  subst h
  simp only [wNext, ad]
  omega
def sumCells (hs : List Int) (rest : Value) (n : Int) : Array Value := (nums .u32 hs ++ [rest, .int .u64 n]).toArray
theorem quiet_of2 {P : Program} {f : FuncId} {args : Array Value} {w : World} {k n : Nat} {v : Value}
    (h : Calls P f args (w.drewN (k + n)) fun e w' => e = .returned v ∧ ∃ m, w' = (w.drewN (k + n)).drewN m) : Calls P f args (w.drewN (k + n)) fun e w'' => e = .returned v ∧ ∃ m, w'' = w.drewN (k + m) :=
  h.mono fun _ _ ⟨he, m, hm⟩ => ⟨he, n + m, by rw [hm, World.drewN_drewN, Nat.add_assoc]⟩
theorem wpList_copy_row {P : Program} {w : World} {ops : Array Oper} {rest : List Oper} {o : Oper} {a : Act} {Q : Exit → Act → World → Prop} (hgd : o.guard = none) (d s : Operand) (dT sT : TypeId)
    (ho : o.op = .call { callee := .builtin .copy, args := #[d, s], argTypes := #[dT, sT] }) (elem : TypeId) (hu : P.underlying dT = some (.slice elem)) (hsz : (P.info? elem).map (·.size) = some 1)
    (g off dLen dCap : Nat) (ad : Addr) (sLen sCap : Nat) (hd : a.eval d = .slice (some ⟨g, off, none⟩) dLen dCap) (hs : a.eval s = .slice (some ad) sLen sCap)
    (cur : Array Value) (t : TypeId) (hg : w.heap[g]? = some (.cells cur t (0, 0))) (cs : List Value) (hn : cs.length = Nat.min sLen dLen)
    (hsrc : ∀ j v, cs[j]? = some v → w.cell? (ad.add j) = some v) (hfit : off + cs.length ≤ cur.size) (h1 : ∀ v ∈ cs, v.oneCell' = true)
    (h : ∀ w', w'.heap[g]? = some (.cells (cur.toList.take off ++ cs ++ cur.toList.drop (off + cs.length)).toArray t (0, 0)) → Ch (· = g) w w' → wpList P ops Q rest (a.put o.dst (goInt cs.length)) w') :
    wpList P ops Q (o :: rest) a w := by
  refine wpList_plain hgd fun K hK => ?_
  have hr := run_copy_row (P := P) w dT sT o.type elem g off dLen dCap ad sLen sCap cur t cs hu hsz hg hn hsrc hfit h1
  unfold Oper.wp execOp
  simp only [ho, resolve, invoke, builtin, Sem.run_bind, Sem.run_pure, Result.andThen_ok, List.map_toArray, List.map_cons, List.map_nil, hd, hs, hr]
  exact hK _ _ (h _ (setRow_heap w g cur _ t (0, 0) hg) (Ch.setRow (S := (· = g)) (Ch.refl _ _) (.inl rfl) _))
theorem sum_get {W : World} {bs : Nat} {hs : List Int} {rest : Value} {n : Int} {T : TypeId} (hb : W.heap[bs]? = some (.cells (sumCells hs rest n) T (0, 0))) (j : Nat) (hj : j < hs.length) : W.cell? ⟨bs, j, none⟩ = some (.int .u32 (nt hs j)) := by
  rw [blk_cell hb, nt_get hj]
  simp [sumCells, nums, List.getElem?_append_left, hj]
theorem sum_range {W : World} {bs : Nat} {hs : List Int} {rest : Value} {n : Int} {T : TypeId} (hb : W.heap[bs]? = some (.cells (sumCells hs rest n) T (0, 0))) : W.rangeAt bs 0 (nums .u32 hs) := fun j v hv => by
  have hj : j < hs.length := by
    have := (List.getElem?_eq_some_iff.1 hv).1
    simpa [nums] using this
  rw [Nat.zero_add, sum_get hb j hj, nt_get hj, ← hv]
  simp [nums, hj]
theorem list8 {l : List Int} (h : l.length = 8) : ∃ a b c d e f g i, l = [a, b, c, d, e, f, g, i] := by
  match l, h with
  | [a, b, c, d, e, f, g, i], _ => exact ⟨a, b, c, d, e, f, g, i, rfl⟩
theorem rnd_length (k w : Int) (v : List Int) (h : v.length = 8) : (rnd k w v).length = 8 := by
  obtain ⟨a, b, c, d, e, f, g, i, rfl⟩ := list8 h
  rfl
theorem rounds_length (ks ws v : List Int) (h : v.length = 8) : ∀ n, (rounds ks ws n v).length = 8
  | 0 => h
  | n + 1 => rnd_length _ _ _ (rounds_length ks ws v h n)
theorem rnd_w (k w : Int) (v : List Int) (h : v.length = 8) (hw : ∀ x ∈ v, W32 x) : ∀ x ∈ rnd k w v, W32 x := by
  obtain ⟨a, b, c, d, e, f, g, i, rfl⟩ := list8 h
  intro x hx
  simp only [rnd, List.mem_cons, List.not_mem_nil, or_false] at hx
  have q := fun y (hy : y ∈ [a, b, c, d, e, f, g, i]) => hw y hy
  simp only [List.mem_cons, List.not_mem_nil, or_false] at q
  rcases hx with rfl | rfl | rfl | rfl | rfl | rfl | rfl | rfl
  · exact ad_w _ _
  · exact q _ (by simp)
  · exact q _ (by simp)
  · exact q _ (by simp)
  · exact ad_w _ _
  · exact q _ (by simp)
  · exact q _ (by simp)
  · exact q _ (by simp)
theorem rounds_w (ks ws v : List Int) (h : v.length = 8) (hw : ∀ x ∈ v, W32 x) : ∀ n, ∀ x ∈ rounds ks ws n v, W32 x
  | 0 => hw
  | n + 1 => rnd_w _ _ _ (rounds_length ks ws v h n) (rounds_w ks ws v h hw n)
theorem one_eq (i S C k w d : Int) : (d + (i + S + C + k + w)) % 4294967296 = ad d (ad (ad (ad (ad i S) C) k) w) := by unfold ad; omega
theorem two_eq (i S C k w x y : Int) : (i + S + C + k + w + (x + y)) % 4294967296 = ad (ad (ad (ad (ad i S) C) k) w) (ad x y) := by unfold ad; omega
def addTo (h v : List Int) (k : Nat) : List Int := (List.range 8).map fun i => if i < k then ad (nt h i) (nt v i) else nt h i
theorem addTo_length (h v : List Int) (k : Nat) : (addTo h v k).length = 8 := by simp [addTo]
theorem addTo_0 (h v : List Int) (h8 : h.length = 8) : addTo h v 0 = h := by
  obtain ⟨a, b, c, d, e, f, g, i, rfl⟩ := list8 h8
  rfl
theorem addTo_8 (h v : List Int) : addTo h v 8 = addAll h v := by
  simp only [addTo, addAll]
  apply List.map_congr_left
  intro i hi
  rw [if_pos (List.mem_range.1 hi)]
theorem addTo_at (h v : List Int) (k : Nat) (hk : k < 8) : nt (addTo h v k) k = nt h k := by
  rw [nt_get (by rw [addTo_length]; exact hk)]
  simp [addTo]
theorem addTo_set (h v : List Int) (rest : Value) (n : Int) (k : Nat) (hk : k < 8) : (sumCells (addTo h v k) rest n).setIfInBounds k (.int .u32 (ad (nt h k) (nt v k))) = sumCells (addTo h v (k + 1)) rest n := by
  rcases k with _|_|_|_|_|_|_|_|k
  all_goals first | rfl | omega
theorem kArr_get (k : Nat) (h : k < 64) : kArr[k]? = some (.int .u32 (nt kst k)) := by
  have hl : kst.length = 64 := rfl
  rw [nt_get (by omega)]
  simp [kArr, nums, hl, h]
theorem kst_w : ∀ x ∈ kst, W32 x := by unfold W32; decide +kernel
theorem all_nums (k : IntKind) (l : List Int) : ((nums k l).toArray.all fun x => x.oneCell') = true := by
  apply all_oneCell_toArray
  intro v hv
  simp only [nums, List.mem_map] at hv
  obtain ⟨x, _, rfl⟩ := hv
  rfl
set_option maxHeartbeats 8000000 in
set_option maxRecDepth 100000 in
theorem block_any (bs : Nat) (hs : List Int) (rest : Value) (n : Int) (ad : Addr) (c : Nat) (l : List Int) (w : World)
    (hb : w.heap[bs]? = some (.cells (sumCells hs rest n) 66 (0, 0))) (h8 : hs.length = 8) (hw : ∀ x ∈ hs, W32 x) (hr : ReadsInt w .u8 (some ad) 64 l) (hl : Bs l) (hne : ad.block ≠ bs) (hc : 64 ≤ c) :
    Calls Try.prog 35 #[.pointer (some ⟨bs, 0, none⟩), .slice (some ad) 64 c] w fun e w' =>
      e = .returned (.tuple #[]) ∧ w'.heap[bs]? = some (.cells (sumCells (blk kst hs l) rest n) 66 (0, 0)) ∧ Ch (· = bs) w w' := by
  have HB := Lib.hid hb
  have HR := Lib.hid hr
  have HL := Lib.hid hr.1
  have H8 := Lib.hid h8
  have hsz := blk_lt hb
  clear hb hr h8
  go_enter Try.func35, Try.ntmps35
  go_wp2_with (refine Great.wpList_runTo rfl (some 4) rfl (.pointer (some ⟨w.heap.size, 0, none⟩)) (w.alloc (.cells z64 75)) (by kernel_rfl) ?_)
  go_loopw [5, 6, 7, 19] (fun _ _ _ i wr => ∃ k : Nat, k ≤ 16 ∧ i = .int .i64 k ∧ wr.heap[w.heap.size]? = some (.cells (wPad (w16 l k)) 75 (0, 0)) ∧ wr.heap.size = w.heap.size + 1 ∧ Ch (fun _ => False) w wr) (fun _ _ _ i _ => (16 - intOf i).toNat)
  case atStart => exact ⟨0, by omega, rfl, by rw [show w16 l 0 = [] from rfl, wPad_nil]; exact heap_alloc_new _ _, by simp, (Ch.refl _ _).alloc _⟩
  case round =>
    obtain ⟨k, hk, rfl, hW, hS, hC⟩ := hrel
    by_cases hlt : k < 16
    · --[L1
      have hr4 := reads_sub (hC.reads HR.out (fun _ _ h => h)) (4 * k) 4 (by omega)
      have hb4 := hl.sub (4 * k) 4
      obtain ⟨q0, q1⟩ := be4 _ hb4 hr4.1
      have hset := Lib.hid (wPad_set (w16 l k) (be ((l.drop (4 * k)).take 4)) (by rw [w16_length]; omega))
      have hsuc := Lib.hid (w16_succ l k)
      have hcell : wr.cell? ⟨w.heap.size, k, none⟩ = some (.int .u32 0) := by rw [blk_cell hW]; have := wPad_here (w16 l k) (by rw [w16_length]; omega); rwa [w16_length] at this
      have hfz : wr.frozen? ⟨w.heap.size, k, none⟩ = false := blk_frozen hW _
      have HC := Lib.hid hC
      have HW := Lib.hid hW
      have HS := Lib.hid hS
      clear hC hW hS
      have HR4 := Lib.hid hr4
      clear hr4
      go_wp2_with (go_at_call 44; refine (get_any _ _ _ _ _ HR4.out hb4 (by omega) (by omega)).mono ?_; rintro e w' ⟨rfl, rfl⟩)
      go_roundw
      case rel => 
        refine ⟨k + 1, by omega, by go_num, ?_, by simp [HS.out], HC.out.setCell (.inr (Nat.le_refl _)) _⟩
        rw [blk_set HW.out, hsuc.out, ← hset.out, w16_length]
      case measure => simp [intOf]; omega
      --L1]
    · obtain rfl : k = 16 := by omega
      have HC0 := Lib.hid hC
      have HW0 := Lib.hid hW
      have HS0 := Lib.hid hS
      clear hC hW hS hlt hk
      go_wp2
      obtain ⟨wo, rfl⟩ : ∃ wo : World, wo = wr := ⟨_, rfl⟩
      go_loopw [8, 9, 10] (fun i _ _ wr => ∃ k : Nat, 16 ≤ k ∧ k ≤ 64 ∧ i = .int .i64 k ∧ wr.heap[w.heap.size]? = some (.cells (wPad (wTo l k)) 75 (0, 0)) ∧ wr.heap.size = w.heap.size + 1 ∧ Ch (fun _ => False) w wr) (fun i _ _ _ => (64 - intOf i).toNat)
      case atStart => exact ⟨16, by omega, by omega, rfl, HW0.out, HS0.out, HC0.out⟩
      case round =>
        obtain ⟨k, hk16, hk, rfl, hW, hS, hC⟩ := hrel
        clear HC0 HW0 HS0
        by_cases hlt : k < 64
        · --[L2
          have hln := wTo_length l k hk16
          have hws := wTo_w l hl HL.out k
          have g16 := wPad_get (wTo l k) (k - 16) (by omega)
          have g15 := wPad_get (wTo l k) (k - 15) (by omega)
          have g7 := wPad_get (wTo l k) (k - 7) (by omega)
          have g2 := wPad_get (wTo l k) (k - 2) (by omega)
          rw [← blk_cell hW] at g16 g15 g7 g2
          have v16 := nt_w hws (k - 16)
          have v15 := nt_w hws (k - 15)
          have v7 := nt_w hws (k - 7)
          have v2 := nt_w hws (k - 2)
          have hcell : wr.cell? ⟨w.heap.size, k, none⟩ = some (.int .u32 0) := by rw [blk_cell hW]; have := wPad_here (wTo l k) (by omega); rwa [hln] at this
          have hfz : wr.frozen? ⟨w.heap.size, k, none⟩ = false := blk_frozen hW _
          have hset := Lib.hid (wPad_set (wTo l k) (wNext (wTo l k)) (by omega))
          have hsuc := Lib.hid (wTo_succ l k hk16)
          have HLN := Lib.hid hln
          have HC := Lib.hid hC
          have HW := Lib.hid hW
          have HS := Lib.hid hS
          have V15 := Lib.hid v15
          have V2 := Lib.hid v2
          obtain ⟨a0, a1⟩ := v16
          obtain ⟨b0, b1⟩ := v15
          obtain ⟨c0, c1⟩ := v7
          obtain ⟨d0, d1⟩ := v2
          clear hC hW hS hln hws
          go_wp2
          go_quiet (fail)
          go_wp2
          obtain ⟨wq, hwq⟩ : ∃ wq : World, wr.drewN nq = wq := ⟨_, rfl⟩
          rw [hwq]
          have hcell : wq.cell? ⟨w.heap.size, k, none⟩ = some (.int .u32 0) := by rw [← hwq]; exact hcell
          have hfz : wq.frozen? ⟨w.heap.size, k, none⟩ = false := by rw [← hwq]; exact hfz
          have g16 : wq.cell? ⟨w.heap.size, k - 16, none⟩ = some (.int .u32 (nt (wTo l k) (k - 16))) := by rw [← hwq]; exact g16
          have g7 : wq.cell? ⟨w.heap.size, k - 7, none⟩ = some (.int .u32 (nt (wTo l k) (k - 7))) := by rw [← hwq]; exact g7
          have HC : Hid (Ch (fun _ => False) w wq) := by rw [← hwq]; exact HC.out.drewN _
          have HW : Hid (wq.heap[w.heap.size]? = some (.cells (wPad (wTo l k)) 75 (0, 0))) := by rw [← hwq]; exact HW.out
          have HS : Hid (wq.heap.size = w.heap.size + 1) := by rw [← hwq]; exact HS.out
          clear hwq
          refine wp_region_quiet_tail 28 (by kernel_rfl) (by kernel_rfl) ?_
          simp only [List.take_succ_cons, List.take_zero, List.drop_succ_cons, List.drop_zero]
          repeat (go_big_quiet_step ((go_at_call 45; refine Calls.quiet_of (turn_lit _ _ _ (by omega) (by omega) (by first | exact V15.out | exact V2.out)))))
          refine wpQuiet_nil ?_
          intro _ hw'
          obtain ⟨nd, hw''⟩ := hw'
          subst hw''
          go_wp2
          go_roundw
          case rel =>
            refine ⟨k + 1, by omega, by omega, by go_num, ?_, by simp [HS.out], (HC.out.drewN nd).setCell (.inr (Nat.le_refl _)) _⟩
            rw [blk_set (w := wq.drewN nd) HW.out, hsuc.out, ← hset.out, HLN.out, wNext_eq _ _ HLN.out]
            rfl
          case measure => simp [intOf]; omega
          --L2]
        · obtain rfl : k = 64 := by omega
          have HC := Lib.hid hC
          have HW := Lib.hid hW
          have HS := Lib.hid hS
          clear hC hW hS hlt hk hk16
          go_wp2_with fail
          refine (rounds_any _).mono ?_
          rintro e w1 ⟨rfl, hw1⟩
          have HC1 : Hid (Ch (fun _ => False) w w1) := by rw [hw1]; exact HC.out.alloc _
          have HW1 : Hid (w1.heap[w.heap.size]? = some (.cells (wPad (wTo l 64)) 75 (0, 0))) := by rw [hw1]; rw [heap_alloc_old _ _ (blk_lt HW.out)]; exact HW.out
          clear hw1 HC HW HS
          have hr8 := Lib.hid (sum_range (HC1.out.blk HB.out (fun h => h)))
          have HB1 := Lib.hid (HC1.out.blk HB.out (fun h => h))
          go_wp2_with (first
            | (refine Great.wpList_runTo rfl (some 11) rfl (.pointer (some ⟨w1.heap.size, 0, none⟩)) (w1.alloc (.cells z64 75)) (by kernel_rfl) ?_)
            | (refine wpList_store_row rfl 75 (.tmp 11) (.tmp 79) rfl w1.heap.size kArr rfl rfl 75 z64 (heap_alloc_new _ _) (by kernel_rfl) (by kernel_rfl) all_kArr ?_; rw [setRow_alloc]; obtain ⟨w2, hw2⟩ : ∃ w2, w1.alloc (.cells kArr 75) = w2 := ⟨_, rfl⟩; rw [hw2])
            | (refine wpList_load_mid rfl 64 (.tmp 82) rfl bs 0 rfl (nums .u32 hs) (.array 8 46) (by rw [← hw2]; exact sum_range (((Ch.refl (fun _ => False) _).alloc _).blk HB1.out (fun h => h))) Try.underlying64 rfl (by rw [show (nums .u32 hs).length = 8 by simp [nums, H8.out]]; kernel_rfl) ?_)
            | (refine Great.wpList_runTo rfl (some 12) rfl (.pointer (some ⟨w2.heap.size, 0, none⟩)) (w2.alloc (.cells (Array.replicate 8 (.int .u32 0)) 64)) (by kernel_rfl) ?_)
            | (refine wpList_store_row rfl 64 (.tmp 12) (.tmp 83) rfl w2.heap.size (nums .u32 hs).toArray rfl rfl 64 (Array.replicate 8 (.int .u32 0)) (heap_alloc_new _ _) (by rw [show (nums .u32 hs).toArray.size = 8 by simp [nums, H8.out]]; kernel_rfl) (by simp [nums, H8.out]) (all_nums _ _) ?_; rw [setRow_alloc]; obtain ⟨w3, hw3⟩ : ∃ w3, w2.alloc (.cells (nums .u32 hs).toArray 64) = w3 := ⟨_, rfl⟩; rw [hw3]))
          have hW3 : w3.heap[w.heap.size]? = some (.cells (wPad (wTo l 64)) 75 (0, 0)) := by rw [← hw3, heap_alloc_old _ _ (by rw [← hw2]; have := blk_lt HW1.out; simp; omega), ← hw2, heap_alloc_old _ _ (blk_lt HW1.out)]; exact HW1.out
          have hK3 : w3.heap[w1.heap.size]? = some (.cells kArr 75 (0, 0)) := by rw [← hw3, heap_alloc_old _ _ (by rw [← hw2]; simp), ← hw2]; exact heap_alloc_new _ _
          have hV3 : w3.heap[w2.heap.size]? = some (.cells (nums .u32 hs).toArray 64 (0, 0)) := by rw [← hw3]; exact heap_alloc_new _ _
          have hC3 : Ch (fun _ => False) w w3 := by rw [← hw3, ← hw2]; exact (HC1.out.alloc _).alloc _
          have lt1 : w.heap.size < w1.heap.size := blk_lt HW1.out
          have lt2 : w2.heap.size = w1.heap.size + 1 := by rw [← hw2]; simp
          have LT2 := Lib.hid lt2
          have HW3 := Lib.hid hW3
          have HK3 := Lib.hid hK3
          have HV3 := Lib.hid hV3
          have HC3 := Lib.hid hC3
          clear hw3 hw2 hW3 hK3 hV3 hC3 lt2 HC1 HW1 HB1 hr8
          go_loopw [13, 14, 15, 16, 17, 84] (fun _ _ _ _ _ i wr => ∃ k : Nat, k ≤ 64 ∧ i = .int .i64 k ∧ wr.heap[w2.heap.size]? = some (.cells (nums .u32 (rounds kst (wTo l 64) k hs)).toArray 64 (0, 0)) ∧ Ch (· = w2.heap.size) w3 wr) (fun _ _ _ _ _ i _ => (64 - intOf i).toNat)
          case atStart => exact ⟨0, by omega, rfl, HV3.out, Ch.refl _ _⟩
          case round =>
            obtain ⟨k, hk, rfl, hV, hC⟩ := hrel
            by_cases hlt : k < 64
            · --[L3
              have hkc : wr.cell? ⟨w1.heap.size, k, none⟩ = some (.int .u32 (nt kst k)) := by rw [blk_cell (hC.blk HK3.out (by have := LT2.out; omega)), kArr_get k hlt]
              have hwc : wr.cell? ⟨w.heap.size, k, none⟩ = some (.int .u32 (nt (wTo l 64) k)) := by rw [blk_cell (hC.blk HW3.out (by have := LT2.out; omega)), wPad_get _ _ (by rw [wTo_length l 64 (by omega)]; omega)]
              obtain ⟨k0, k1⟩ := nt_w kst_w k
              obtain ⟨m0, m1⟩ := nt_w (wTo_w l hl HL.out 64) k
              have h8 := rounds_length kst (wTo l 64) hs H8.out k
              have hws := rounds_w kst (wTo l 64) hs H8.out hw k
              have hR : rounds kst (wTo l 64) (k + 1) hs = rnd (nt kst k) (nt (wTo l 64) k) (rounds kst (wTo l 64) k hs) := rfl
              obtain ⟨a, b, c', d, e, f, g, i, hv⟩ := list8 h8
              rw [hv] at hV hws hR
              have HR1 := Lib.hid hR
              have HV := Lib.hid hV
              have HC := Lib.hid hC
              have c0 : wr.cell? ⟨w2.heap.size, 0, none⟩ = some (.int .u32 a) := by rw [blk_cell hV]; rfl
              have c1 : wr.cell? ⟨w2.heap.size, 1, none⟩ = some (.int .u32 b) := by rw [blk_cell hV]; rfl
              have c2 : wr.cell? ⟨w2.heap.size, 2, none⟩ = some (.int .u32 c') := by rw [blk_cell hV]; rfl
              have c4 : wr.cell? ⟨w2.heap.size, 4, none⟩ = some (.int .u32 e) := by rw [blk_cell hV]; rfl
              have c5 : wr.cell? ⟨w2.heap.size, 5, none⟩ = some (.int .u32 f) := by rw [blk_cell hV]; rfl
              have c6 : wr.cell? ⟨w2.heap.size, 6, none⟩ = some (.int .u32 g) := by rw [blk_cell hV]; rfl
              have c7 : wr.cell? ⟨w2.heap.size, 7, none⟩ = some (.int .u32 i) := by rw [blk_cell hV]; rfl
              have WA : Hid (W32 a) := hws a (by simp)
              have WE : Hid (W32 e) := hws e (by simp)
              have Q := Lib.hid hws
              clear hV hC h8 hws hR hv
              generalize nt kst k = kk at *
              generalize nt (wTo l 64) k = ww at *
              go_wp2
              go_quiet (fail)
              go_wp2
              go_quiet ((go_at_call 45; refine quiet_of2 (turn_lit _ _ _ (by omega) (by omega) WE.out)))
              go_wp2
              go_quiet ((go_at_call 45; refine quiet_of2 (turn_lit _ _ _ (by omega) (by omega) WA.out)))
              go_wp2
              refine wp_region_quiet_tail 2 (by kernel_rfl) (by kernel_rfl) ?_
              simp only [List.take_succ_cons, List.take_zero, List.drop_succ_cons, List.drop_zero]
              repeat (go_big_quiet_step (fail))
              refine wpQuiet_nil ?_
              intro wq hw'
              obtain ⟨nd, hw''⟩ := hw'
              have HVq : Hid (wq.heap[w2.heap.size]? = some (.cells (nums .u32 [a, b, c', d, e, f, g, i]).toArray 64 (0, 0))) := by rw [hw'']; exact HV.out
              have HCq : Hid (Ch (· = w2.heap.size) w3 wq) := by rw [hw'']; simp only [World.drewN_drewN]; exact HC.out.drewN _
              have hsrc : ∀ j v, (nums .u32 [a, b, c', d, e, f, g])[j]? = some v → wq.cell? ((⟨w2.heap.size, 0, none⟩ : Addr).add j) = some v := by
                intro j v hv
                rw [add_plain, blk_cell HVq.out, show nums .u32 [a, b, c', d, e, f, g, i] = nums .u32 [a, b, c', d, e, f, g] ++ nums .u32 [i] from rfl]
                rw [List.getElem?_toArray, List.getElem?_append_left (List.getElem?_eq_some_iff.1 hv).1]
                exact hv
              have HSRC := Lib.hid hsrc
              clear hw'' hsrc c0 c1 c2 c4 c5 c6 c7 hkc hwc HV HC
              go_wp2_with (refine wpList_copy_row rfl (.tmp 145) (.tmp 146) 27 27 rfl 46 Try.underlying27 (by kernel_rfl) w2.heap.size 1 7 7 ⟨w2.heap.size, 0, none⟩ 7 8 rfl rfl (nums .u32 [a, b, c', d, e, f, g, i]).toArray 64 HVq.out (nums .u32 [a, b, c', d, e, f, g]) rfl HSRC.out (by simp [nums]) (by intro v hv; simp only [nums, List.mem_map] at hv; obtain ⟨x, _, rfl⟩ := hv; rfl) ?_; intro w4 hV4 hC4; have HV4 : Hid (w4.heap[w2.heap.size]? = some (.cells (nums .u32 [a, a, b, c', d, e, f, g]).toArray 64 (0, 0))) := hV4; have HC4 := Lib.hid (HCq.out.trans hC4); clear hV4 hC4 HVq HCq HSRC; (have c4 : w4.cell? ⟨w2.heap.size, 4, none⟩ = some (.int .u32 d) := by rw [blk_cell HV4.out]; rfl); (have c0 : w4.cell? ⟨w2.heap.size, 0, none⟩ = some (.int .u32 a) := by rw [blk_cell HV4.out]; rfl); have f4 : w4.frozen? ⟨w2.heap.size, 4, none⟩ = false := blk_frozen HV4.out _; have f0 : w4.frozen? ⟨w2.heap.size, 0, none⟩ = false := blk_frozen HV4.out _)
              go_roundw
              case rel =>
                refine ⟨k + 1, by omega, by go_num, ?_, (HC4.out.setCell (.inl rfl) _).setCell (.inl rfl) _⟩
                rw [blk_set (blk_set HV4.out _ _), HR1.out]
                simp only [nums, rnd, List.map_cons, List.map_nil, List.setIfInBounds_toArray, List.set_cons_succ, List.set_cons_zero]
                rw [one_eq, two_eq]
                rfl
              case measure => simp [intOf]; omega
              --L3]
            · obtain rfl : k = 64 := by omega
              have HV := Lib.hid hV
              have HC := Lib.hid hC
              have h8 := Lib.hid (rounds_length kst (wTo l 64) hs H8.out 64)
              have hws := Lib.hid (rounds_w kst (wTo l 64) hs H8.out hw 64)
              have HBL : Hid (blk kst hs l = addTo hs (rounds kst (wTo l 64) 64 hs) 8) := by rw [addTo_8]; rfl
              generalize rounds kst (wTo l 64) 64 hs = v8 at *
              clear hV hC hlt hk
              go_wp2
              obtain ⟨w5, rfl⟩ : ∃ w5 : World, w5 = wr := ⟨_, rfl⟩
              have HB5 := Lib.hid (HC.out.blk (HC3.out.blk HB.out (fun h => h)) (by have := LT2.out; omega))
              go_loopw [18, 158] (fun _ i wr => ∃ k : Nat, k ≤ 8 ∧ i = .int .i64 k ∧ wr.heap[bs]? = some (.cells (sumCells (addTo hs v8 k) rest n) 66 (0, 0)) ∧ Ch (· = bs) w5 wr) (fun _ i _ => (8 - intOf i).toNat)
              case atStart => exact ⟨0, by omega, rfl, by rw [addTo_0 _ _ H8.out]; exact HB5.out, Ch.refl _ _⟩
              case round =>
                obtain ⟨k, hk, rfl, hB, hC⟩ := hrel
                by_cases hlt : k < 8
                · have c1 : wr.cell? ⟨bs, k, none⟩ = some (.int .u32 (nt hs k)) := by rw [sum_get hB k (by rw [addTo_length]; exact hlt), addTo_at _ _ _ hlt]
                  have c2 : wr.cell? ⟨w2.heap.size, k, none⟩ = some (.int .u32 (nt v8 k)) := by
                    rw [blk_cell (hC.blk HV.out (by have := LT2.out; omega)), nt_get (by rw [h8.out]; exact hlt)]
                    simp [nums, h8.out, hlt]
                  have f1 : wr.frozen? ⟨bs, k, none⟩ = false := blk_frozen hB _
                  have hset := Lib.hid (addTo_set hs v8 rest n k hlt)
                  obtain ⟨m0, m1⟩ := nt_w hw k
                  obtain ⟨k0, k1⟩ := nt_w hws.out k
                  have HBk := Lib.hid hB
                  have HCk := Lib.hid hC
                  clear hB hC
                  go_wp2
                  refine wp_region_quiet_tail 12 (by kernel_rfl) (by kernel_rfl) ?_
                  simp only [List.take_succ_cons, List.take_zero, List.drop_succ_cons, List.drop_zero]
                  repeat (go_big_quiet_step (fail))
                  refine wpQuiet_nil ?_
                  intro wq hw'
                  obtain ⟨nd, hw''⟩ := hw'
                  subst hw''
                  go_wp2
                  go_roundw
                  case rel =>
                    refine ⟨k + 1, by omega, by go_num, ?_, (HCk.out.drewN nd).setCell (.inl rfl) _⟩
                    rw [blk_set (w := wr.drewN nd) HBk.out, ← hset.out]
                    rfl
                  case measure => simp [intOf]; omega
                · obtain rfl : k = 8 := by omega
                  have HBk := Lib.hid hB
                  have HCk := Lib.hid hC
                  clear hB hC
                  go_wp2
                  go_end0
                  refine ⟨rfl, by rw [HBL.out]; exact HBk.out, ?_⟩
                  refine Ch.then_ (S' := (· = bs)) (Ch.then_ (S' := (· = w2.heap.size)) (HC3.out.imp fun _ h => h.elim) HC.out fun i hi e => ?_) HCk.out fun i _ e => e
                  have := LT2.out
                  omega
end Go.Proofs.Ytejhjlfakfaegaa
