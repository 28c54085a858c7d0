/- A byte slice converted to its own type: the same value; its block is marked. -/
import Derived.Test.YtejhjlfakfaegaaApp
import Derived.Lib.UnsafeStr
set_option linter.unusedSimpArgs false
set_option linter.unusedVariables false
namespace Go.Proofs.Ytejhjlfakfaegaa
open Go.RowKit Go.Proofs.YtejhjlfakfaegaaW.PrintWords

theorem run_convert_own (w : World) (t e : TypeId) (ht : Try.prog.underlying t = some (.slice e)) (he : Try.prog.underlying e = some (.int .u8)) (g n c : Nat) (cs : Array Value) (T : TypeId) (fz : Nat × Nat) (h : w.heap[g]? = some (.cells cs T fz)) :
    (convert t t (.slice (some ⟨g, 0, none⟩) n c)).run Try.prog w = .ok (.slice (some ⟨g, 0, none⟩) n c) (w.freeze ⟨g, cs.size, none⟩ 1) := by
  have hs : w.shape? g = some (T, cs.size) := by simp [World.shape?, h]
  simp [convert, run_underlying ht, run_underlying he, markStringish, shape, Sem.run, hs]
theorem frz_far (w : World) (p : Addr) (n k : Nat) (h : k ≠ p.block) : (w.freeze p n).heap[k]? = w.heap[k]? := by
  unfold World.freeze
  split
  · rfl
  · show (w.heap.modify _ _)[k]? = _
    rw [Array.getElem?_modify, if_neg (fun e => h e.symm)]
theorem frz_here (w : World) (g n : Nat) (cs : Array Value) (T : TypeId) (fz : Nat × Nat) (h : w.heap[g]? = some (.cells cs T fz)) : ∃ fz', (w.freeze ⟨g, n, none⟩ 1).heap[g]? = some (.cells cs T fz') := by
  unfold World.freeze
  rw [if_neg (by decide)]
  obtain ⟨lo, hi⟩ := fz
  refine ⟨(if lo == hi then (n, n + 1) else (min lo n, max hi (n + 1))), ?_⟩
  show (w.heap.modify _ _)[g]? = _
  rw [Array.getElem?_modify, if_pos rfl, h]
  rfl
theorem Ch.freeze {S : Nat → Prop} {a w : World} (h : Ch S a w) {p : Addr} (hp : S p.block ∨ a.heap.size ≤ p.block) (n : Nat) : Ch S a (w.freeze p n) := by
  refine h.then_ (S' := (· = p.block)) ?_ (fun i hi e => by subst e; rcases hp with hp | hp; exact hp; omega)
  unfold World.freeze
  split
  · exact Ch.refl _ _
  · exact ⟨rfl, rfl, rfl, by simp, fun k hk hn => by show (w.heap.modify _ _)[k]? = _; rw [Array.getElem?_modify, if_neg (fun e => hn e.symm)]⟩
end Go.Proofs.Ytejhjlfakfaegaa
