/- Two keys compared. -/
import Derived.Test.YtejhjlfakfaegaaMacC
import Derived.DeepKeys
set_option linter.unusedSimpArgs false
set_option linter.unusedVariables false
namespace Go.Proofs.Ytejhjlfakfaegaa
open Go.RowKit Go.Proofs.YtejhjlfakfaegaaW.PrintWords
theorem iteAnd {α : Type} (p q : Prop) [Decidable p] [Decidable q] (a b : α) : (if p then if q then a else b else b) = if p ∧ q then a else b := by
  by_cases hp : p <;> by_cases hq : q <;> simp [hp, hq]
theorem list16 {l : List Int} (h : l.length = 16) : ∃ a0 a1 a2 a3 a4 a5 a6 a7 a8 a9 b0 b1 b2 b3 b4 b5, l = [a0, a1, a2, a3, a4, a5, a6, a7, a8, a9, b0, b1, b2, b3, b4, b5] := by
  match l, h with
  | [a0, a1, a2, a3, a4, a5, a6, a7, a8, a9, b0, b1, b2, b3, b4, b5], _ => exact ⟨a0, a1, a2, a3, a4, a5, a6, a7, a8, a9, b0, b1, b2, b3, b4, b5, rfl⟩
set_option maxRecDepth 100000 in
set_option maxHeartbeats 2000000 in
theorem key_eq (l l' : List Int) (h : l.length = 16) (h' : l'.length = 16) (W : World) :
    (Op.equalIn 10000 51 (.agg (nums .u8 l).toArray) (.agg (nums .u8 l').toArray)).run Try.prog W = .ok (decide (l = l')) W := by
  obtain ⟨a0, a1, a2, a3, a4, a5, a6, a7, a8, a9, b0, b1, b2, b3, b4, b5, rfl⟩ := list16 h
  obtain ⟨c0, c1, c2, c3, c4, c5, c6, c7, c8, c9, d0, d1, d2, d3, d4, d5, rfl⟩ := list16 h'
  generalize hr : decide ([a0, a1, a2, a3, a4, a5, a6, a7, a8, a9, b0, b1, b2, b3, b4, b5] = [c0, c1, c2, c3, c4, c5, c6, c7, c8, c9, d0, d1, d2, d3, d4, d5]) = r
  have u3 := Try.underlying5
  have a3 := Try.isAgg5
  have z3 := Try.sizeOf5
  have e : ∀ (x : List Int), (nums .u8 x).toArray = (x.map (Value.int .u8)).toArray := fun _ => rfl
  simp only [e, List.map_cons, List.map_nil]
  rw [show (10000 : Nat) = 9999 + 1 from rfl, Op.equalIn]
  simp only [Sem.run_bind, run_underlying Try.underlying51, Result.andThen_ok]
  simp only [Std.Legacy.Range.forIn_eq_forIn_range', Std.Legacy.Range.size, Nat.sub_zero, Nat.add_sub_cancel, Nat.div_one, List.range'_succ, List.range'_zero, List.forIn_cons, List.forIn_nil]
  go_simp
  have hd : ∀ (p q : Prop) [Decidable p] [Decidable q], (p ↔ q) → (if p then Result.ok true W else Result.ok false W) = Result.ok (decide q) W := fun p q _ _ h => by
    by_cases hp : p
    · rw [if_pos hp, decide_eq_true (h.1 hp)]
    · rw [if_neg hp, decide_eq_false (fun hq => hp (h.2 hq))]
  rw [iteAnd, iteAnd, iteAnd, iteAnd, iteAnd, iteAnd, iteAnd, iteAnd, iteAnd, iteAnd, iteAnd, iteAnd, iteAnd, iteAnd, iteAnd]
  rw [← hr]
  apply hd
  simp only [List.cons.injEq, and_true, and_assoc]
end Go.Proofs.Ytejhjlfakfaegaa
