/- What comes in as an array of sixteen bytes. -/
import Derived.Test.YtejhjlfakfaegaaOct
import Derived.WideShapes
set_option linter.unusedSimpArgs false
set_option linter.unusedVariables false
namespace Go.Proofs.Ytejhjlfakfaegaa
open Go.RowKit Go.Proofs.YtejhjlfakfaegaaW.PrintWords

def numOf8 : Value → Int
  | .int _ n => n
  | _ => 0
theorem b16_of {W : World} {r : Reach} {base : Nat} {v : Value} (h : Value.okWide Try.prog W r base 30 v) : ∃ l : List Int, v = .agg (nums .u8 l).toArray ∧ l.length = 16 ∧ Bs l := by
  simp only [Value.okWide, Try.underlying30] at h
  obtain ⟨cs, rfl, hsz, ts, hts, _, hall⟩ := h
  have ht : Try.prog.cellTypes Try.prog.depth 30 = some (List.replicate 16 5) := by kernel_rfl
  rw [ht] at hts
  injection hts with hts
  subst hts
  have hsz' : cs.size = 16 := by rw [hsz]; kernel_rfl
  have hcell : ∀ i (hi : i < cs.size), ∃ n, cs[i] = .int .u8 n ∧ 0 ≤ n ∧ n < 256 := by
    intro i hi
    obtain ⟨u, hu, hok⟩ := hall i cs[i] (Array.getElem?_eq_getElem hi)
    have hu5 : u = 5 := by
      simp only [List.length_replicate, List.getElem?_replicate] at hu
      split at hu
      · exact (Option.some.inj hu).symm
      · cases hu
    subst hu5
    simp only [Cell.okWide, Try.underlying5] at hok
    revert hok
    generalize cs[i] = x
    cases x <;> simp only [Cell.ok, Try.underlying5, false_implies, implies_true]
    rename_i k n
    rintro ⟨rfl, hk⟩
    refine ⟨n, rfl, ?_⟩
    simp [IntKind.has, IntKind.min, IntKind.max, IntKind.bits, IntKind.signed] at hk
    omega
  refine ⟨cs.toList.map numOf8, ?_, by simpa using hsz', ?_⟩
  · congr 1
    apply Array.ext'
    rw [List.toList_toArray]
    unfold nums
    rw [List.map_map]
    apply List.ext_getElem
    · simp
    · intro i h1 h2
      obtain ⟨n, hn, _⟩ := hcell i (by simpa using h1)
      simp [hn, numOf8]
  · intro x hx
    simp only [List.mem_map] at hx
    obtain ⟨y, hy, rfl⟩ := hx
    obtain ⟨i, hi, rfl⟩ := List.getElem_of_mem hy
    obtain ⟨n, hn, h0, h1⟩ := hcell i (by simpa using hi)
    simp [hn, numOf8]
    exact ⟨h0, h1⟩
end Go.Proofs.Ytejhjlfakfaegaa
