/- The reference's cube. -/
import Derived.Test.YtejhjlfakfaegaaRefU
set_option linter.unusedSimpArgs false
set_option linter.unusedVariables false
namespace Go.Proofs.Ytejhjlfakfaegaa
open Go.RowKit Go.Proofs.YtejhjlfakfaegaaW.PrintWords

def cubeSt (n : Int) : Nat → Int
  | 0 => 0
  | s + 1 => if aboveM (cubeSt n s + 2 ^ (35 - s)) n then cubeSt n s else cubeSt n s + 2 ^ (35 - s)
theorem pow_half (s : Nat) (h : s < 36) : (2 : Int) ^ (36 - s) = 2 ^ (35 - s) + 2 ^ (35 - s) ∧ (0 : Int) ≤ 2 ^ (35 - s) := by
  have : ∀ s, s < 36 → (2 : Int) ^ (36 - s) = 2 ^ (35 - s) + 2 ^ (35 - s) ∧ (0 : Int) ≤ 2 ^ (35 - s) := by decide
  exact this s h
theorem cubeSt_le (n : Int) : ∀ s, s ≤ 36 → 0 ≤ cubeSt n s ∧ cubeSt n s + 2 ^ (36 - s) ≤ 68719476736
  | 0, _ => by simp [cubeSt]
  | s + 1, h => by
    have ih := cubeSt_le n s (by omega)
    have hp := pow_half s (by omega)
    rw [show 36 - (s + 1) = 35 - s by omega]
    unfold cubeSt
    split <;> omega
def cubeM (n : Int) : Int := cubeSt n 36 % 4294967296
theorem pow_le (p : Nat) (h : p < 36) : (0 : Int) ≤ 2 ^ p ∧ (2 : Int) ^ p ≤ 34359738368 := by
  have : ∀ p, p < 36 → (0 : Int) ≤ 2 ^ p ∧ (2 : Int) ^ p ≤ 34359738368 := by decide
  exact this p h
set_option maxHeartbeats 1000000 in
set_option maxRecDepth 100000 in
theorem cube_any (n : Int) (w : World) (n0 : 0 ≤ n) (n1 : n < 100000) :
    Calls Try.prog 26 #[.int .u64 n] w fun e w' => e = .returned (.int .u32 (cubeM n)) ∧ Below w.heap.size w w' := by
  go_enter Try.func26, Try.ntmps26
  go_wp2
  go_loopw [3, 4, 5] (fun x i _ wr => ∃ q : Nat, q ≤ 36 ∧ i = .int .i64 ((q : Int) - 1) ∧ x = .int .u64 (cubeSt n (36 - q)) ∧ Ch (fun _ => False) w wr) (fun _ i _ _ => (intOf i + 1).toNat)
  case atStart => exact ⟨36, by omega, rfl, rfl, Ch.refl _ _⟩
  case round =>
    obtain ⟨q, hq, rfl, rfl, hC⟩ := hrel
    have HC := Lib.hid hC
    clear hC
    rcases q with _ | p
    · rw [show (((0 : Nat) : Int) - 1) = -1 from rfl]
      obtain ⟨x0, x1⟩ := cubeSt_le n 36 (by omega)
      have HM : Hid (cubeM n = cubeSt n (36 - 0) % 4294967296) := Lib.hid rfl
      change 0 ≤ cubeSt n (36 - 0) at x0
      change cubeSt n (36 - 0) + 1 ≤ _ at x1
      generalize cubeSt n (36 - 0) = x at *
      go_wp2
      go_ret
      exact ⟨by rw [HM.out]; rfl, HC.out.below⟩
    · rw [show (((p + 1 : Nat) : Int) - 1) = (p : Int) by omega]
      obtain ⟨x0, x1⟩ := cubeSt_le n (36 - (p + 1)) (by omega)
      rw [show 36 - (36 - (p + 1)) = p + 1 by omega] at x1
      obtain ⟨p0, p1⟩ := pow_le p (by omega)
      have hs : cubeSt n (36 - p) = if aboveM (cubeSt n (36 - (p + 1)) + 2 ^ p) n then cubeSt n (36 - (p + 1)) else cubeSt n (36 - (p + 1)) + 2 ^ p := by
        rw [show 36 - p = (36 - (p + 1)) + 1 by omega, cubeSt, show 35 - (36 - (p + 1)) = p by omega]
      have hx2 : cubeSt n (36 - (p + 1)) ≤ 68719476736 := by
        have : (0 : Int) ≤ 2 ^ (p + 1) := by rw [Int.pow_succ]; omega
        omega
      have HS := Lib.hid hs
      generalize hx : cubeSt n (36 - (p + 1)) = x at *
      generalize hP : (2 : Int) ^ p = P at *
      have i0 : IntKind.u64.wrap (x + P) = x + P := by rw [IntKind.wrap_u64]; omega
      have i1 : IntKind.u64.wrap P = P := by rw [IntKind.wrap_u64]; omega
      have i2 : IntKind.u64.wrap (p : Int) = (p : Int) := by rw [IntKind.wrap_u64]; omega
      have HAV := Lib.hid (above_any (x + P) n wr (by omega) (by omega) n0 n1)
      clear hs hx x1
      generalize hB : aboveM (x + P) n = B at *
      cases B with
      | true =>
        go_wp2_with (go_at_call 39; with_reducible refine (HAV.out).mono ?_; rintro e w' ⟨rfl, hb⟩; have HB1 := Lib.hid hb; clear hb)
        refine ⟨⟨p, by omega, rfl, by rw [HS.out]; rfl, HC.out.trans (Ch.of_below HB1.out)⟩, by simp [intOf]⟩
      | false =>
        go_wp2_with (go_at_call 39; with_reducible refine (HAV.out).mono ?_; rintro e w' ⟨rfl, hb⟩; have HB1 := Lib.hid hb; clear hb)
        refine ⟨⟨p, by omega, rfl, by rw [HS.out]; rfl, HC.out.trans (Ch.of_below HB1.out)⟩, by simp [intOf]⟩

def divs (p : Nat) (l : List Nat) : Bool := l.any fun d => p % d == 0
/-- the primes among 2 .. p+1 -/
def pr : Nat → List Nat
  | 0 => []
  | p + 1 => if divs (p + 2) (pr p) then pr p else pr p ++ [p + 2]
def ints (l : List Nat) : List Int := l.map Int.ofNat
end Go.Proofs.Ytejhjlfakfaegaa
