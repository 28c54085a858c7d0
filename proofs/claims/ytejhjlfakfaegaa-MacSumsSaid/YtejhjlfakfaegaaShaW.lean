/- sha's functions: what each leaves. -/
import Derived.Test.YtejhjlfakfaegaaShaMath
import Derived.Deep.RegionHeld3
import Derived.StillTailTactics
import Derived.Outline
import Derived.Great.Walk
set_option linter.unusedSimpArgs false
set_option linter.unusedVariables false
namespace Go.Proofs.Ytejhjlfakfaegaa
open Go.RowKit Go.Proofs.YtejhjlfakfaegaaW.PrintWords

set_option maxHeartbeats 400000 in
theorem turn_any (x : Int) (n : Nat) (w : World) (h0 : 0 < n) (h : n < 32) (hx : W32 x) :
    Calls Try.prog 45 #[.int .u32 x, .int .i64 n] w fun e w' => e = .returned (.int .u32 (rot n x)) ∧ ∃ m, w' = w.drewN m := by
  obtain ⟨hx0, hx1⟩ := hx
  have e1 : (32 - (n : Int)).toNat = 32 - n := by omega
  go_enter Try.func45, Try.ntmps45
  go_wp2
  go_quiet (fail)
  go_wp2
  go_ret
  refine ⟨?_, _, rfl⟩
  show Ending.returned (Value.int .u32 (bits BinOp.or IntKind.u32 (x / 2 ^ n) _)) = _
  rfl
/-- as the program's own numerals stand -/
theorem turn_lit (x : Int) (n : Int) (w : World) (h0 : 0 < n) (h : n < 32) (hx : W32 x) :
    Calls Try.prog 45 #[.int .u32 x, .int .i64 n] w fun e w' => e = .returned (.int .u32 (rot n.toNat x)) ∧ ∃ m, w' = w.drewN m := by
  obtain ⟨k, rfl⟩ := Int.eq_ofNat_of_zero_le (show 0 ≤ n by omega)
  exact turn_any x k w (by omega) (by omega) hx

/-- the rounds' constants, as cells -/
def kArr : Array Value := (nums .u32 kst).toArray
/-- sixty-four noughts -/
def z64 : Array Value := Array.replicate 64 (.int .u32 0)
theorem all_kArr : (kArr.all fun x => x.oneCell') = true := by decide +kernel
theorem setRow_alloc (w : World) (cs ds : Array Value) (t : TypeId) : (w.alloc (.cells cs t)).setRow w.heap.size ds = w.alloc (.cells ds t) := by
  have h : ((w.alloc (.cells cs t)).setRow w.heap.size ds).heap = (w.alloc (.cells ds t)).heap := by
    apply Array.ext_getElem?
    intro k
    show ((w.heap.push _).modify _ _)[k]? = (w.heap.push _)[k]?
    rw [Array.getElem?_modify, Array.getElem?_push, Array.getElem?_push]
    by_cases hk : k = w.heap.size
    · subst hk; simp
    · rw [if_neg (fun e => hk e.symm), if_neg hk, if_neg hk]
  exact congrArg (fun h => { w with heap := h }) h
set_option maxHeartbeats 400000 in
set_option maxRecDepth 100000 in
theorem rounds_any (w : World) :
    Calls Try.prog 46 #[] w fun e w' => e = .returned (.agg kArr) ∧ w' = w.alloc (.cells kArr 75) := by
  go_enter Try.func46, Try.ntmps46
  go_wp2_with (first
    | (refine Great.wpList_runTo rfl (some 0) rfl (.pointer (some ⟨w.heap.size, 0, none⟩)) (w.alloc (.cells z64 75)) (by kernel_rfl) ?_)
    | (refine Great.wpList_runTo rfl (some 1) rfl (.agg kArr) _ (by kernel_rfl) ?_)
    | (refine wpList_store_row rfl 75 (.tmp 0) (.tmp 1) rfl w.heap.size kArr rfl rfl 75 z64 (heap_alloc_new _ _) (by kernel_rfl) (by kernel_rfl) all_kArr ?_; rw [setRow_alloc]))
  refine bodyPost_ret (results_cell_row rfl _ _ w.heap.size 75 kArr (0, 0) (.array 64 46) rfl (heap_alloc_new _ _) Try.underlying75 rfl (by kernel_rfl)) rfl ⟨rfl, rfl⟩
end Go.Proofs.Ytejhjlfakfaegaa
