/- The reference's box: what it answers, by reckoning. -/
import Derived.Test.YtejhjlfakfaegaaPAesStreamsx10
import Derived.Test.YtejhjlfakfaegaaAesC
set_option linter.unusedSimpArgs false
set_option linter.unusedVariables false
namespace Go.Proofs.Ytejhjlfakfaegaa
open Go.RowKit Go.Proofs.YtejhjlfakfaegaaW.PrintWords Go.Proofs.Ytejhjlfakfaegaa.PAesStreams

/-- a number is reckoned before it is handed on -/
def force {α : Type} (n : Nat) (f : Nat → α) : α := Nat.rec (f 0) (fun m _ => f (m + 1)) n
theorem force_eq {α : Type} (n : Nat) (f : Nat → α) : force n f = f n := by cases n <;> rfl
def prN (a b : Nat) : Nat := ((compeerref05_Product.f 40 (a : Int) (b : Int)).getD 0).toNat
def powF (b : Nat) : Nat → Nat
  | 0 => 1
  | n + 1 => force (powF b n) fun x => prN x b
/-- the bits of what a byte becomes -/
def bitTo (x : Int) (k : Nat) : Nat → Int
  | 0 => 0
  | j + 1 => bitTo x k j + x / 2 ^ ((k + 8 - j) % 8) % 2
def outM (x : Int) : Nat → Int
  | 0 => 0
  | k + 1 => (outM x k + (bitTo x k 5 + 99 / 2 ^ k % 2) % 2 * 2 ^ k) % 256
def boxOk (b : Nat) : Bool := force (powF b 254) fun x => outM (x : Int) 8 == sbx (b : Int)
theorem box_row0 : ((List.range 16).map (· + 0)).all boxOk = true := by decide +kernel
theorem box_row1 : ((List.range 16).map (· + 16)).all boxOk = true := by decide +kernel
theorem box_row2 : ((List.range 16).map (· + 32)).all boxOk = true := by decide +kernel
theorem box_row3 : ((List.range 16).map (· + 48)).all boxOk = true := by decide +kernel
theorem box_row4 : ((List.range 16).map (· + 64)).all boxOk = true := by decide +kernel
theorem box_row5 : ((List.range 16).map (· + 80)).all boxOk = true := by decide +kernel
theorem box_row6 : ((List.range 16).map (· + 96)).all boxOk = true := by decide +kernel
theorem box_row7 : ((List.range 16).map (· + 112)).all boxOk = true := by decide +kernel
theorem box_row8 : ((List.range 16).map (· + 128)).all boxOk = true := by decide +kernel
theorem box_row9 : ((List.range 16).map (· + 144)).all boxOk = true := by decide +kernel
theorem box_row10 : ((List.range 16).map (· + 160)).all boxOk = true := by decide +kernel
theorem box_row11 : ((List.range 16).map (· + 176)).all boxOk = true := by decide +kernel
theorem box_row12 : ((List.range 16).map (· + 192)).all boxOk = true := by decide +kernel
theorem box_row13 : ((List.range 16).map (· + 208)).all boxOk = true := by decide +kernel
theorem box_row14 : ((List.range 16).map (· + 224)).all boxOk = true := by decide +kernel
theorem box_row15 : ((List.range 16).map (· + 240)).all boxOk = true := by decide +kernel
theorem box_all (b : Nat) (h : b < 256) : outM (powF b 254 : Nat) 8 = sbx (b : Int) := by
  have hk : boxOk b = true := by
    have : ∀ (i : Nat), ((List.range 16).map (· + i)).all boxOk = true → i ≤ b → b < i + 16 → boxOk b = true := fun i hi h0 h1 =>
      List.all_eq_true.1 hi b (List.mem_map.2 ⟨b - i, List.mem_range.2 (by omega), by omega⟩)
    by_cases h0 : b < 16
    · exact this 0 box_row0 (by omega) (by omega)
    by_cases h1 : b < 32
    · exact this 16 box_row1 (by omega) (by omega)
    by_cases h2 : b < 48
    · exact this 32 box_row2 (by omega) (by omega)
    by_cases h3 : b < 64
    · exact this 48 box_row3 (by omega) (by omega)
    by_cases h4 : b < 80
    · exact this 64 box_row4 (by omega) (by omega)
    by_cases h5 : b < 96
    · exact this 80 box_row5 (by omega) (by omega)
    by_cases h6 : b < 112
    · exact this 96 box_row6 (by omega) (by omega)
    by_cases h7 : b < 128
    · exact this 112 box_row7 (by omega) (by omega)
    by_cases h8 : b < 144
    · exact this 128 box_row8 (by omega) (by omega)
    by_cases h9 : b < 160
    · exact this 144 box_row9 (by omega) (by omega)
    by_cases h10 : b < 176
    · exact this 160 box_row10 (by omega) (by omega)
    by_cases h11 : b < 192
    · exact this 176 box_row11 (by omega) (by omega)
    by_cases h12 : b < 208
    · exact this 192 box_row12 (by omega) (by omega)
    by_cases h13 : b < 224
    · exact this 208 box_row13 (by omega) (by omega)
    by_cases h14 : b < 240
    · exact this 224 box_row14 (by omega) (by omega)
    by_cases h15 : b < 256
    · exact this 240 box_row15 (by omega) (by omega)
    omega
  unfold boxOk at hk
  rw [force_eq] at hk
  exact beq_iff_eq.1 hk
end Go.Proofs.Ytejhjlfakfaegaa
