/- One row of bytes as rows. -/
import Derived.Test.YtejhjlfakfaegaaApp
set_option linter.unusedSimpArgs false
set_option linter.unusedVariables false
namespace Go.Proofs.Ytejhjlfakfaegaa
open Go.RowKit Go.Proofs.YtejhjlfakfaegaaW.PrintWords
theorem rows2_one1 {W : World} {g n1 c1 : Nat} {A1 : Option Addr} {T : TypeId} {l1 : List Int} (h : W.heap[g]? = some (.cells #[.slice A1 n1 c1] T (0, 0))) (h1 : ReadsInt W .u8 A1 n1 l1) :
    Rows2 W (some ⟨g, 0, none⟩) 1 [l1] := by
  refine ⟨rfl, by omega, fun _ => ⟨_, rfl, fun j hj => ?_⟩⟩
  obtain rfl := h1.1
  obtain rfl : j = 0 := by omega
  rw [add_plain, blk_cell h]
  exact ⟨A1, c1, rfl, h1⟩
end Go.Proofs.Ytejhjlfakfaegaa
