/- aes' mix: a column turned. -/
import Derived.Test.YtejhjlfakfaegaaAesB
set_option linter.unusedSimpArgs false
set_option linter.unusedVariables false
namespace Go.Proofs.Ytejhjlfakfaegaa
open Go.RowKit Go.Proofs.YtejhjlfakfaegaaW.PrintWords

/-- a value of one cell goes into a block whose cells are known; the world behind it is told by that block alone -/
theorem wpList_store_at {P : Program} {ops : Array Oper} {rest : List Oper} {op : Oper} {a : Act} {w : World} {Q : Exit → Act → World → Prop} (hgd : op.guard = none) (ty : TypeId) (x y : Operand) (ho : op.op = .store ty x y)
    (g i : Nat) (v : Value) (hx : a.eval x = .pointer (some ⟨g, i, none⟩)) (hy : a.eval y = v) (h1 : v.oneCell' = true)
    (cur : Array Value) (t : TypeId) (hg : w.heap[g]? = some (.cells cur t (0, 0))) (hfit : i < cur.size) (hi : (P.info? ty).map (·.size) = some 1)
    (h : ∀ w', w'.heap[g]? = some (.cells (cur.setIfInBounds i v) t (0, 0)) → Ch (· = g) w w' → wpList P ops Q rest (a.put op.dst undef) w') : wpList P ops Q (op :: rest) a w := by
  have hrun : (storeVar ty ⟨g, i, none⟩ v).run P w = .ok () (w.setCell ⟨g, i, none⟩ v) := by
    have := run_storeCells_cells (P := P) g i [v] 0 w (fun j hj => by
      have : j = 0 := by simp at hj; omega
      subst this
      show (w.cell? ⟨g, i + 0 + 0, none⟩).isSome = true; rw [show i + 0 + 0 = i from rfl, blk_cell hg, Array.getElem?_eq_getElem hfit]; rfl) (fun j hj => blk_frozen hg _)
      (fun x hx => by simp at hx; subst hx; exact h1)
    have hc : v.cells = #[v] := by cases v <;> first | rfl | cases h1
    cases hq : P.info? ty with
    | none => simp [hq] at hi
    | some q =>
      have hs : q.size = 1 := by simpa [hq] using hi
      simp only [Nat.add_zero] at this
      simp [storeVar, sizeOf, typeInfo, hq, hc, hs, this, World.setCells]
  refine wpList_plain hgd fun _ hK => ?_
  unfold Oper.wp execOp
  simp only [ho, hx, hy, Instr.storeAt, Instr.sureAddr, Sem.run_bind, Sem.run_pure, Result.andThen_ok, hrun]
  exact hK _ _ (h _ (blk_set hg _ _) (Ch.setCell (S := (· = g)) (Ch.refl _ w) (.inl rfl) _))

theorem product_q (a b : Int) (w : World) (ha : B8 a) (hb : B8 b) :
    Calls Try.prog 42 #[.int .u8 a, .int .u8 b] w fun e w' => e = .returned (.int .u8 (prd 8 a b 0)) ∧ w' = w :=
  (product_any a b w ha hb).mono fun _ _ ⟨h1, h2⟩ => ⟨h1, h2.symm⟩
def mul2 (a : Int) : Int := prd 8 a 2 0
def mul3 (a : Int) : Int := prd 8 a 3 0
def mixAt (l : List Int) (c : Nat) : List Int :=
  (((l.set c (x8 (x8 (x8 (mul2 (nt l c)) (mul3 (nt l (c+1)))) (nt l (c+2))) (nt l (c+3)))).set (c+1) (x8 (x8 (x8 (nt l c) (mul2 (nt l (c+1)))) (mul3 (nt l (c+2)))) (nt l (c+3)))).set (c+2)
    (x8 (x8 (x8 (nt l c) (nt l (c+1))) (mul2 (nt l (c+2)))) (mul3 (nt l (c+3))))).set (c+3) (x8 (x8 (x8 (mul3 (nt l c)) (nt l (c+1))) (nt l (c+2))) (mul2 (nt l (c+3))))
theorem nums_set (k : IntKind) (l : List Int) (i : Nat) (v : Int) : (nums k l).toArray.setIfInBounds i (.int k v) = (nums k (l.set i v)).toArray := by simp [nums, List.map_set]
theorem drewN_blk {w : World} {g : Nat} {o : Option Obj} (n : Nat) (h : w.heap[g]? = o) : (w.drewN n).heap[g]? = o := h
theorem blk_nums {w : World} {g : Nat} {k : IntKind} {l : List Int} {T : TypeId} (h : w.heap[g]? = some (.cells (nums k l).toArray T (0, 0))) (j : Nat) (hj : j < l.length) : w.cell? ⟨g, j, none⟩ = some (.int k (nt l j)) := by
  rw [blk_cell h, nt_get hj]
  simp [nums, hj]
set_option maxRecDepth 100000 in
set_option maxHeartbeats 4000000 in
theorem mix_any (g : Nat) (l : List Int) (T : TypeId) (c : Nat) (w : World) (hl : l.length = 16) (hb : Bs l) (hg : w.heap[g]? = some (.cells (nums .u8 l).toArray T (0, 0))) (hc : c = 0 ∨ c = 4 ∨ c = 8 ∨ c = 12) :
    Calls Try.prog 31 #[.pointer (some ⟨g, 0, none⟩), .int .i64 c] w fun e w' =>
      e = .returned (.tuple #[]) ∧ w'.heap[g]? = some (.cells (nums .u8 (mixAt l c)).toArray T (0, 0)) ∧ Ch (· = g) w w' := by
  have b0 := blk_nums hg c (by omega)
  have b1 := blk_nums hg (c+1) (by omega)
  have b2 := blk_nums hg (c+2) (by omega)
  have b3 := blk_nums hg (c+3) (by omega)
  have B0 := Lib.hid (hb.at c)
  have B1 := Lib.hid (hb.at (c+1))
  have B2 := Lib.hid (hb.at (c+2))
  have B3 := Lib.hid (hb.at (c+3))
  have HL := Lib.hid hl
  have HG := Lib.hid hg
  clear hl hg hb
  rcases hc with rfl | rfl | rfl | rfl
  all_goals
    simp only [Nat.reduceAdd, Nat.zero_add] at b0 b1 b2 b3 B0 B1 B2 B3
    generalize ha : nt l _ = a at b0 B0
    generalize he : nt l _ = b at b1 B1
    generalize hh : nt l _ = e at b2 B2
    generalize hd : nt l _ = d at b3 B3
    have HA := Lib.hid ha
    have HE := Lib.hid he
    have HH := Lib.hid hh
    have HDD := Lib.hid hd
    clear ha he hh hd
    go_enter Try.func31, Try.ntmps31
    go_wp2
    go_quiet (fail)
    obtain ⟨w0, hw0⟩ : ∃ w0, w.drewN nq = w0 := ⟨_, rfl⟩
    have HW0 : Hid (w0.heap[g]? = some (.cells (nums .u8 l).toArray T (0, 0))) := by rw [← hw0]; exact HG.out
    have HC0 : Hid (Ch (· = g) w w0) := by rw [← hw0]; exact (Ch.refl _ _).drewN _
    rw [hw0]
    clear hw0 b0 b1 b2 b3
    go_wp2
    refine wp_region_quiet_tail 13 (by kernel_rfl) (by kernel_rfl) ?_
    simp only [List.take_succ_cons, List.take_zero, List.drop_succ_cons, List.drop_zero]
    repeat (go_big_quiet_step ((go_at_call 42; refine Calls.quiet_of_same (product_q _ _ _ (by first | exact B0.out | exact B1.out | exact B2.out | exact B3.out) (by unfold B8; decide)))))
    refine wpQuiet_nil ?_
    intro wq hw'
    obtain ⟨nd, rfl⟩ := hw'
    have HQ0 := Lib.hid (drewN_blk nd HW0.out)
    have HD0 := Lib.hid (HC0.out.drewN nd)
    generalize w0.drewN nd = wq0 at *
    refine wpList_store_at rfl 5 (.tmp 43) (.tmp 41) rfl g _ (.int .u8 (x8 (x8 (x8 (mul2 a) (mul3 b)) e) d)) rfl rfl rfl _ T HQ0.out (by rw [List.size_toArray, nums_len]; (try simp only [List.length_set]); rw [HL.out]; decide) (by kernel_rfl) ?_
    intro w1 hw' hc'
    rw [nums_set] at hw'
    have HW1 := Lib.hid hw'
    have HC1 := Lib.hid (HD0.out.trans hc')
    clear hw' hc'
    simp only [Act.put]
    go_wp2
    refine wp_region_quiet_tail 14 (by kernel_rfl) (by kernel_rfl) ?_
    simp only [List.take_succ_cons, List.take_zero, List.drop_succ_cons, List.drop_zero]
    repeat (go_big_quiet_step ((go_at_call 42; refine Calls.quiet_of_same (product_q _ _ _ (by first | exact B0.out | exact B1.out | exact B2.out | exact B3.out) (by unfold B8; decide)))))
    refine wpQuiet_nil ?_
    intro wq hw'
    obtain ⟨nd, rfl⟩ := hw'
    have HQ1 := Lib.hid (drewN_blk nd HW1.out)
    have HD1 := Lib.hid (HC1.out.drewN nd)
    generalize w1.drewN nd = wq1 at *
    refine wpList_store_at rfl 5 (.tmp 57) (.tmp 55) rfl g _ (.int .u8 (x8 (x8 (x8 a (mul2 b)) (mul3 e)) d)) rfl rfl rfl _ T HQ1.out (by rw [List.size_toArray, nums_len]; (try simp only [List.length_set]); rw [HL.out]; decide) (by kernel_rfl) ?_
    intro w2 hw' hc'
    rw [nums_set] at hw'
    have HW2 := Lib.hid hw'
    have HC2 := Lib.hid (HD1.out.trans hc')
    clear hw' hc'
    simp only [Act.put]
    go_wp2
    refine wp_region_quiet_tail 14 (by kernel_rfl) (by kernel_rfl) ?_
    simp only [List.take_succ_cons, List.take_zero, List.drop_succ_cons, List.drop_zero]
    repeat (go_big_quiet_step ((go_at_call 42; refine Calls.quiet_of_same (product_q _ _ _ (by first | exact B0.out | exact B1.out | exact B2.out | exact B3.out) (by unfold B8; decide)))))
    refine wpQuiet_nil ?_
    intro wq hw'
    obtain ⟨nd, rfl⟩ := hw'
    have HQ2 := Lib.hid (drewN_blk nd HW2.out)
    have HD2 := Lib.hid (HC2.out.drewN nd)
    generalize w2.drewN nd = wq2 at *
    refine wpList_store_at rfl 5 (.tmp 71) (.tmp 69) rfl g _ (.int .u8 (x8 (x8 (x8 a b) (mul2 e)) (mul3 d))) rfl rfl rfl _ T HQ2.out (by rw [List.size_toArray, nums_len]; (try simp only [List.length_set]); rw [HL.out]; decide) (by kernel_rfl) ?_
    intro w3 hw' hc'
    rw [nums_set] at hw'
    have HW3 := Lib.hid hw'
    have HC3 := Lib.hid (HD2.out.trans hc')
    clear hw' hc'
    simp only [Act.put]
    go_wp2
    refine wp_region_quiet_tail 14 (by kernel_rfl) (by kernel_rfl) ?_
    simp only [List.take_succ_cons, List.take_zero, List.drop_succ_cons, List.drop_zero]
    repeat (go_big_quiet_step ((go_at_call 42; refine Calls.quiet_of_same (product_q _ _ _ (by first | exact B0.out | exact B1.out | exact B2.out | exact B3.out) (by unfold B8; decide)))))
    refine wpQuiet_nil ?_
    intro wq hw'
    obtain ⟨nd, rfl⟩ := hw'
    have HQ3 := Lib.hid (drewN_blk nd HW3.out)
    have HD3 := Lib.hid (HC3.out.drewN nd)
    generalize w3.drewN nd = wq3 at *
    refine wpList_store_at rfl 5 (.tmp 85) (.tmp 83) rfl g _ (.int .u8 (x8 (x8 (x8 (mul3 a) b) e) (mul2 d))) rfl rfl rfl _ T HQ3.out (by rw [List.size_toArray, nums_len]; (try simp only [List.length_set]); rw [HL.out]; decide) (by kernel_rfl) ?_
    intro w4 hw' hc'
    rw [nums_set] at hw'
    have HW4 := Lib.hid hw'
    have HC4 := Lib.hid (HD3.out.trans hc')
    clear hw' hc'
    simp only [Act.put]
    go_wp2
    go_end0
    refine ⟨rfl, ?_, HC4.out⟩
    rw [HW4.out, ← HA.out, ← HE.out, ← HH.out, ← HDD.out]
    rfl
end Go.Proofs.Ytejhjlfakfaegaa
