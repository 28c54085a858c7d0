/- The reference's products and box. -/
import Derived.Test.YtejhjlfakfaegaaPAesStreamsx10
import Derived.Test.YtejhjlfakfaegaaAesC
set_option linter.unusedSimpArgs false
set_option linter.unusedVariables false
namespace Go.Proofs.Ytejhjlfakfaegaa
open Go.RowKit Go.Proofs.YtejhjlfakfaegaaW.PrintWords Go.Proofs.Ytejhjlfakfaegaa.PAesStreams

theorem w64_id {x : Int} (h : -9223372036854775808 ≤ x) (h' : x < 9223372036854775808) : wrap64 x = x := by unfold wrap64; omega
theorem u64_pos (x : Int) : 0 ≤ IntKind.u64.wrap x := by rw [IntKind.wrap_u64]; omega
theorem pl1 : ∀ (d K : Nat) (x5 : Int), d ≤ 7 → ∃ r, compeerref05_Product.l1 (K + d + 1) x5 (7 + d) = some r ∧ B8 r
  | 0, K, x5, _ => ⟨_, by rw [show K + 0 + 1 = K + 1 from rfl, compeerref05_Product.l1, if_neg (by omega)], by omega, by omega⟩
  | d + 1, K, x5, h => by
    rw [show K + (d + 1) + 1 = (K + d + 1) + 1 by omega, compeerref05_Product.l1, if_pos (by omega), if_pos (u64_pos _), if_pos (u64_pos _)]
    rw [show wrap64 (7 + ((d + 1 : Nat) : Int) - 1) = 7 + (d : Int) by rw [w64_id (by omega) (by omega)]; omega]
    split
    · exact pl1 d K _ (by omega)
    · exact pl1 d K _ (by omega)
theorem pl0 : ∀ (d K : Nat) (x0 x1 x5 : Int), d ≤ 8 → ∃ r, compeerref05_Product.l0 (K + 9 + d) x0 x1 x5 (8 - d) = some r ∧ B8 r
  | 0, K, x0, x1, x5, _ => by
    rw [show K + 9 + 0 = (K + 8) + 1 from rfl, compeerref05_Product.l0, if_neg (by omega)]
    exact pl1 7 K x5 (by omega)
  | d + 1, K, x0, x1, x5, h => by
    rw [show K + 9 + (d + 1) = (K + 9 + d) + 1 by omega, compeerref05_Product.l0, if_pos (by omega), if_pos (u64_pos _)]
    rw [show wrap64 (8 - ((d + 1 : Nat) : Int) + 1) = 8 - (d : Int) by rw [w64_id (by omega) (by omega)]; omega]
    split
    · exact pl0 d K _ _ _ (by omega)
    · exact pl0 d K _ _ _ (by omega)
theorem pf_some (K : Nat) (a b : Int) : ∃ r, compeerref05_Product.f (K + 17) a b = some r ∧ B8 r := pl0 8 K a b 0 (by omega)
theorem leo_up {α : Type} (g : Nat → Option α) (h : ∀ k, LeO (g k) (g (k + 1))) {k k' : Nat} {r : α} (hk : k ≤ k') (e : g k = some r) : g k' = some r := by
  obtain ⟨d, rfl⟩ := Nat.exists_eq_add_of_le hk
  clear hk
  induction d with
  | zero => exact e
  | succ d ih => exact h (k + d) r ih
theorem pf_mono {k k' : Nat} {a b r : Int} (hk : k ≤ k') (h : compeerref05_Product.f k a b = some r) : compeerref05_Product.f k' a b = some r := leo_up (fun k => compeerref05_Product.f k a b) (compeerref05_Product.mono a b) hk h
theorem pf2 (a : Int) (h : B8 a) {k : Nat} (hk : 40 ≤ k) : compeerref05_Product.f k 2 a = some (mul2 a) := by
  obtain ⟨h0, h1⟩ := h
  obtain ⟨n, rfl⟩ := Int.eq_ofNat_of_zero_le h0
  have : ∀ m : Nat, m < 256 → compeerref05_Product.f 40 2 (m : Int) = some (mul2 (m : Int)) := by decide +kernel
  exact pf_mono hk (this n (by omega))
theorem pf3 (a : Int) (h : B8 a) {k : Nat} (hk : 40 ≤ k) : compeerref05_Product.f k 3 a = some (mul3 a) := by
  obtain ⟨h0, h1⟩ := h
  obtain ⟨n, rfl⟩ := Int.eq_ofNat_of_zero_le h0
  have : ∀ m : Nat, m < 256 → compeerref05_Product.f 40 3 (m : Int) = some (mul3 (m : Int)) := by decide +kernel
  exact pf_mono hk (this n (by omega))
theorem pfd (a : Int) (h : B8 a) {k : Nat} (hk : 40 ≤ k) : compeerref05_Product.f k a 2 = some (dbl a) := by
  obtain ⟨h0, h1⟩ := h
  obtain ⟨n, rfl⟩ := Int.eq_ofNat_of_zero_le h0
  have : ∀ m : Nat, m < 256 → compeerref05_Product.f 40 (m : Int) 2 = some (dbl (m : Int)) := by decide +kernel
  exact pf_mono hk (this n (by omega))
end Go.Proofs.Ytejhjlfakfaegaa
