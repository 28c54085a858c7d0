-- PRINTED BY print.sh 35421559b90ae4d0a3588c463048766b98c2df88dd9212a6774a882060cdf62d: not written by this session
import Derived.Test.YtejhjlfakfaegaaDoorPSealOpensx0
import Derived.Test.YtejhjlfakfaegaaDoorPSealOpensx59
import Derived.Test.YtejhjlfakfaegaaDoorPSealOpensx60
namespace Go.Proofs.YtejhjlfakfaegaaDoor.PSealOpens
open Go.RowKit Go.Proofs.YtejhjlfakfaegaaDoorW.PrintWords Go.Proofs.YtejhjlfakfaegaaDoorW.PrintLast Go.Proofs.YtejhjlfakfaegaaDoorW.PrintMore
attribute [local go_sem] max2_int min2_int max_two min_two max_three min_three max_four min_four   -- for this text's walks alone
set_option linter.unusedVariables false
set_option linter.unusedSimpArgs false

/-! ### compeerref05_Block: function 45 -/
mutual
def compeerref05_Block.l0 : Nat → List Int → List Int → List Int → List Int → Int → Option (List Int)
  | 0, _, _, _, _, _ => none
  | k + 1, x0, x2, x7, x8, x9 => if x9 < 16 then (if 0 ≤ x9 then (if x9 < (x2.length : Int) then (if x9 < (x7.length : Int) then (if x8.length < 140737488355328 then (compeerref05_Block.l0 k x0 x2 x7 (x8 ++ [Go.bits .xor .u8 (rd x2 x9) (rd x7 x9)]) (wrap64 (x9 + 1))) else (none)) else (none)) else (none)) else (none)) else (compeerref05_Block.l1 k x0 x7 x8 1)
def compeerref05_Block.l1 : Nat → List Int → List Int → List Int → Int → Option (List Int)
  | 0, _, _, _, _ => none
  | k + 1, x0, x7, x8, x10 => if x10 ≤ 10 then (compeerref05_Block.l2 k x0 x7 x8 x10 (([] : List Int)) 0) else (some x8)
def compeerref05_Block.l2 : Nat → List Int → List Int → List Int → Int → List Int → Int → Option (List Int)
  | 0, _, _, _, _, _, _ => none
  | k + 1, x0, x7, x8, x10, x11, x12 => if x12 < 4 then (compeerref05_Block.l3 k x0 x7 x8 x10 x11 x12 0) else (if x10 < 10 then (compeerref05_Block.l4 k x0 x7 x10 x11 (([] : List Int)) 0) else (compeerref05_Block.j6 k x0 x7 x10 x11))
def compeerref05_Block.l3 : Nat → List Int → List Int → List Int → Int → List Int → Int → Int → Option (List Int)
  | 0, _, _, _, _, _, _, _ => none
  | k + 1, x0, x7, x8, x10, x11, x12, x13 => if x13 < 4 then (if 0 ≤ (wrap64 ((wrap64 ((Int.tmod (wrap64 (x12 + x13)) 4) * 4)) + x13)) then (if (wrap64 ((wrap64 ((Int.tmod (wrap64 (x12 + x13)) 4) * 4)) + x13)) < (x8.length : Int) then (if 0 ≤ (rd x8 (wrap64 ((wrap64 ((Int.tmod (wrap64 (x12 + x13)) 4) * 4)) + x13))) then (if (rd x8 (wrap64 ((wrap64 ((Int.tmod (wrap64 (x12 + x13)) 4) * 4)) + x13))) < (x0.length : Int) then (if x11.length < 140737488355328 then (compeerref05_Block.l3 k x0 x7 x8 x10 (x11 ++ [rd x0 (rd x8 (wrap64 ((wrap64 ((Int.tmod (wrap64 (x12 + x13)) 4) * 4)) + x13)))]) x12 (wrap64 (x13 + 1))) else (none)) else (none)) else (none)) else (none)) else (none)) else (compeerref05_Block.l2 k x0 x7 x8 x10 x11 (wrap64 (x12 + 1)))
def compeerref05_Block.j6 : Nat → List Int → List Int → Int → List Int → Option (List Int)
  | 0, _, _, _, _ => none
  | k + 1, x0, x7, x10, x11 => compeerref05_Block.l6 k x0 x7 x10 x11 0
def compeerref05_Block.l6 : Nat → List Int → List Int → Int → List Int → Int → Option (List Int)
  | 0, _, _, _, _, _ => none
  | k + 1, x0, x7, x10, x11, x21 => if x21 < 16 then (if 0 ≤ x21 then (if x21 < (x11.length : Int) then (if 0 ≤ (wrap64 ((wrap64 (16 * x10)) + x21)) then (if (wrap64 ((wrap64 (16 * x10)) + x21)) < (x7.length : Int) then (compeerref05_Block.l6 k x0 x7 x10 (x11.set (x21 : Int).toNat (Go.bits .xor .u8 (rd x11 x21) (rd x7 (wrap64 ((wrap64 (16 * x10)) + x21))))) (wrap64 (x21 + 1))) else (none)) else (none)) else (none)) else (none)) else (compeerref05_Block.l1 k x0 x7 x11 (wrap64 (x10 + 1)))
def compeerref05_Block.l4 : Nat → List Int → List Int → Int → List Int → List Int → Int → Option (List Int)
  | 0, _, _, _, _, _, _ => none
  | k + 1, x0, x7, x10, x11, x14, x15 => if x15 < 4 then (compeerref05_Block.l5 k x0 x7 x10 x11 x14 x15 0) else (compeerref05_Block.j6 k x0 x7 x10 x14)
def compeerref05_Block.l5 : Nat → List Int → List Int → Int → List Int → List Int → Int → Int → Option (List Int)
  | 0, _, _, _, _, _, _, _ => none
  | k + 1, x0, x7, x10, x11, x14, x15, x16 => if x16 < 4 then (if 0 ≤ (wrap64 ((wrap64 (x15 * 4)) + x16)) then (if (wrap64 ((wrap64 (x15 * 4)) + x16)) < (x11.length : Int) then (if 0 ≤ (wrap64 ((wrap64 (x15 * 4)) + (Int.tmod (wrap64 (x16 + 1)) 4))) then (if (wrap64 ((wrap64 (x15 * 4)) + (Int.tmod (wrap64 (x16 + 1)) 4))) < (x11.length : Int) then (if 0 ≤ (wrap64 ((wrap64 (x15 * 4)) + (Int.tmod (wrap64 (x16 + 2)) 4))) then (if (wrap64 ((wrap64 (x15 * 4)) + (Int.tmod (wrap64 (x16 + 2)) 4))) < (x11.length : Int) then (if 0 ≤ (wrap64 ((wrap64 (x15 * 4)) + (Int.tmod (wrap64 (x16 + 3)) 4))) then (if (wrap64 ((wrap64 (x15 * 4)) + (Int.tmod (wrap64 (x16 + 3)) 4))) < (x11.length : Int) then ((compeerref05_Product.f k 2 (rd x11 (wrap64 ((wrap64 (x15 * 4)) + x16)))).bind fun t315 => ((compeerref05_Product.f k 3 (rd x11 (wrap64 ((wrap64 (x15 * 4)) + (Int.tmod (wrap64 (x16 + 1)) 4))))).bind fun t316 => (if x14.length < 140737488355328 then (compeerref05_Block.l5 k x0 x7 x10 x11 (x14 ++ [Go.bits .xor .u8 (Go.bits .xor .u8 (Go.bits .xor .u8 t315 t316) (rd x11 (wrap64 ((wrap64 (x15 * 4)) + (Int.tmod (wrap64 (x16 + 2)) 4))))) (rd x11 (wrap64 ((wrap64 (x15 * 4)) + (Int.tmod (wrap64 (x16 + 3)) 4))))]) x15 (wrap64 (x16 + 1))) else (none)))) else (none)) else (none)) else (none)) else (none)) else (none)) else (none)) else (none)) else (none)) else (compeerref05_Block.l4 k x0 x7 x10 x11 x14 (wrap64 (x15 + 1)))
end
def compeerref05_Block.f (k : Nat) (l0 : List Int) (l1 : List Int) (l2 : List Int) : Option (List Int) := (compeerref05_Keys.f k l0 l1).bind fun t289 => (compeerref05_Block.l0 k l0 l2 t289 (([] : List Int)) 0)
theorem compeerref05_Block.mono_l : ∀ k, (∀ y0 y1 y2 y3 y4, LeO (compeerref05_Block.l0 k y0 y1 y2 y3 y4) (compeerref05_Block.l0 (k + 1) y0 y1 y2 y3 y4)) ∧ (∀ y0 y1 y2 y3, LeO (compeerref05_Block.l1 k y0 y1 y2 y3) (compeerref05_Block.l1 (k + 1) y0 y1 y2 y3)) ∧ (∀ y0 y1 y2 y3 y4 y5, LeO (compeerref05_Block.l2 k y0 y1 y2 y3 y4 y5) (compeerref05_Block.l2 (k + 1) y0 y1 y2 y3 y4 y5)) ∧ (∀ y0 y1 y2 y3 y4 y5 y6, LeO (compeerref05_Block.l3 k y0 y1 y2 y3 y4 y5 y6) (compeerref05_Block.l3 (k + 1) y0 y1 y2 y3 y4 y5 y6)) ∧ (∀ y0 y1 y2 y3, LeO (compeerref05_Block.j6 k y0 y1 y2 y3) (compeerref05_Block.j6 (k + 1) y0 y1 y2 y3)) ∧ (∀ y0 y1 y2 y3 y4, LeO (compeerref05_Block.l6 k y0 y1 y2 y3 y4) (compeerref05_Block.l6 (k + 1) y0 y1 y2 y3 y4)) ∧ (∀ y0 y1 y2 y3 y4 y5, LeO (compeerref05_Block.l4 k y0 y1 y2 y3 y4 y5) (compeerref05_Block.l4 (k + 1) y0 y1 y2 y3 y4 y5)) ∧ (∀ y0 y1 y2 y3 y4 y5 y6, LeO (compeerref05_Block.l5 k y0 y1 y2 y3 y4 y5 y6) (compeerref05_Block.l5 (k + 1) y0 y1 y2 y3 y4 y5 y6))
  | 0 => ⟨fun _ _ _ _ _ r h => by simp [compeerref05_Block.l0] at h, fun _ _ _ _ r h => by simp [compeerref05_Block.l1] at h, fun _ _ _ _ _ _ r h => by simp [compeerref05_Block.l2] at h, fun _ _ _ _ _ _ _ r h => by simp [compeerref05_Block.l3] at h, fun _ _ _ _ r h => by simp [compeerref05_Block.j6] at h, fun _ _ _ _ _ r h => by simp [compeerref05_Block.l6] at h, fun _ _ _ _ _ _ r h => by simp [compeerref05_Block.l4] at h, fun _ _ _ _ _ _ _ r h => by simp [compeerref05_Block.l5] at h⟩
  | k + 1 => by
    obtain ⟨ih0, ih1, ih2, ih3, ih4, ih5, ih6, ih7⟩ := compeerref05_Block.mono_l k
    refine ⟨?_, ?_, ?_, ?_, ?_, ?_, ?_, ?_⟩
    · intro y0 y1 y2 y3 y4
      unfold compeerref05_Block.l0
      repeat' first
      | (with_reducible exact ih0 _ _ _ _ _)
      | (with_reducible exact ih1 _ _ _ _)
      | (with_reducible exact ih2 _ _ _ _ _ _)
      | (with_reducible exact ih3 _ _ _ _ _ _ _)
      | (with_reducible exact ih4 _ _ _ _)
      | (with_reducible exact ih5 _ _ _ _ _)
      | (with_reducible exact ih6 _ _ _ _ _ _)
      | (with_reducible exact ih7 _ _ _ _ _ _ _)
      | (with_reducible exact compeerref05_Keys.mono _ _ _)
      | (with_reducible exact compeerref05_Product.mono _ _ _)
      | (with_reducible exact LeO.refl _)
      | (with_reducible exact LeO.none _)
      | (with_reducible refine LeO.ite ?_ ?_)
      | (with_reducible refine LeO.bind ?_ (fun _ => ?_))
      | exact ih0 _ _ _ _ _
      | exact ih1 _ _ _ _
      | exact ih2 _ _ _ _ _ _
      | exact ih3 _ _ _ _ _ _ _
      | exact ih4 _ _ _ _
      | exact ih5 _ _ _ _ _
      | exact ih6 _ _ _ _ _ _
      | exact ih7 _ _ _ _ _ _ _
      | exact compeerref05_Keys.mono _ _ _
      | exact compeerref05_Product.mono _ _ _
      | exact LeO.none _
      | refine LeO.ite ?_ ?_
      | refine LeO.bind ?_ (fun _ => ?_)
    · intro y0 y1 y2 y3
      unfold compeerref05_Block.l1
      repeat' first
      | (with_reducible exact ih0 _ _ _ _ _)
      | (with_reducible exact ih1 _ _ _ _)
      | (with_reducible exact ih2 _ _ _ _ _ _)
      | (with_reducible exact ih3 _ _ _ _ _ _ _)
      | (with_reducible exact ih4 _ _ _ _)
      | (with_reducible exact ih5 _ _ _ _ _)
      | (with_reducible exact ih6 _ _ _ _ _ _)
      | (with_reducible exact ih7 _ _ _ _ _ _ _)
      | (with_reducible exact compeerref05_Keys.mono _ _ _)
      | (with_reducible exact compeerref05_Product.mono _ _ _)
      | (with_reducible exact LeO.refl _)
      | (with_reducible exact LeO.none _)
      | (with_reducible refine LeO.ite ?_ ?_)
      | (with_reducible refine LeO.bind ?_ (fun _ => ?_))
      | exact ih0 _ _ _ _ _
      | exact ih1 _ _ _ _
      | exact ih2 _ _ _ _ _ _
      | exact ih3 _ _ _ _ _ _ _
      | exact ih4 _ _ _ _
      | exact ih5 _ _ _ _ _
      | exact ih6 _ _ _ _ _ _
      | exact ih7 _ _ _ _ _ _ _
      | exact compeerref05_Keys.mono _ _ _
      | exact compeerref05_Product.mono _ _ _
      | exact LeO.none _
      | refine LeO.ite ?_ ?_
      | refine LeO.bind ?_ (fun _ => ?_)
    · intro y0 y1 y2 y3 y4 y5
      unfold compeerref05_Block.l2
      repeat' first
      | (with_reducible exact ih0 _ _ _ _ _)
      | (with_reducible exact ih1 _ _ _ _)
      | (with_reducible exact ih2 _ _ _ _ _ _)
      | (with_reducible exact ih3 _ _ _ _ _ _ _)
      | (with_reducible exact ih4 _ _ _ _)
      | (with_reducible exact ih5 _ _ _ _ _)
      | (with_reducible exact ih6 _ _ _ _ _ _)
      | (with_reducible exact ih7 _ _ _ _ _ _ _)
      | (with_reducible exact compeerref05_Keys.mono _ _ _)
      | (with_reducible exact compeerref05_Product.mono _ _ _)
      | (with_reducible exact LeO.refl _)
      | (with_reducible exact LeO.none _)
      | (with_reducible refine LeO.ite ?_ ?_)
      | (with_reducible refine LeO.bind ?_ (fun _ => ?_))
      | exact ih0 _ _ _ _ _
      | exact ih1 _ _ _ _
      | exact ih2 _ _ _ _ _ _
      | exact ih3 _ _ _ _ _ _ _
      | exact ih4 _ _ _ _
      | exact ih5 _ _ _ _ _
      | exact ih6 _ _ _ _ _ _
      | exact ih7 _ _ _ _ _ _ _
      | exact compeerref05_Keys.mono _ _ _
      | exact compeerref05_Product.mono _ _ _
      | exact LeO.none _
      | refine LeO.ite ?_ ?_
      | refine LeO.bind ?_ (fun _ => ?_)
    · intro y0 y1 y2 y3 y4 y5 y6
      unfold compeerref05_Block.l3
      repeat' first
      | (with_reducible exact ih0 _ _ _ _ _)
      | (with_reducible exact ih1 _ _ _ _)
      | (with_reducible exact ih2 _ _ _ _ _ _)
      | (with_reducible exact ih3 _ _ _ _ _ _ _)
      | (with_reducible exact ih4 _ _ _ _)
      | (with_reducible exact ih5 _ _ _ _ _)
      | (with_reducible exact ih6 _ _ _ _ _ _)
      | (with_reducible exact ih7 _ _ _ _ _ _ _)
      | (with_reducible exact compeerref05_Keys.mono _ _ _)
      | (with_reducible exact compeerref05_Product.mono _ _ _)
      | (with_reducible exact LeO.refl _)
      | (with_reducible exact LeO.none _)
      | (with_reducible refine LeO.ite ?_ ?_)
      | (with_reducible refine LeO.bind ?_ (fun _ => ?_))
      | exact ih0 _ _ _ _ _
      | exact ih1 _ _ _ _
      | exact ih2 _ _ _ _ _ _
      | exact ih3 _ _ _ _ _ _ _
      | exact ih4 _ _ _ _
      | exact ih5 _ _ _ _ _
      | exact ih6 _ _ _ _ _ _
      | exact ih7 _ _ _ _ _ _ _
      | exact compeerref05_Keys.mono _ _ _
      | exact compeerref05_Product.mono _ _ _
      | exact LeO.none _
      | refine LeO.ite ?_ ?_
      | refine LeO.bind ?_ (fun _ => ?_)
    · intro y0 y1 y2 y3
      unfold compeerref05_Block.j6
      repeat' first
      | (with_reducible exact ih0 _ _ _ _ _)
      | (with_reducible exact ih1 _ _ _ _)
      | (with_reducible exact ih2 _ _ _ _ _ _)
      | (with_reducible exact ih3 _ _ _ _ _ _ _)
      | (with_reducible exact ih4 _ _ _ _)
      | (with_reducible exact ih5 _ _ _ _ _)
      | (with_reducible exact ih6 _ _ _ _ _ _)
      | (with_reducible exact ih7 _ _ _ _ _ _ _)
      | (with_reducible exact compeerref05_Keys.mono _ _ _)
      | (with_reducible exact compeerref05_Product.mono _ _ _)
      | (with_reducible exact LeO.refl _)
      | (with_reducible exact LeO.none _)
      | (with_reducible refine LeO.ite ?_ ?_)
      | (with_reducible refine LeO.bind ?_ (fun _ => ?_))
      | exact ih0 _ _ _ _ _
      | exact ih1 _ _ _ _
      | exact ih2 _ _ _ _ _ _
      | exact ih3 _ _ _ _ _ _ _
      | exact ih4 _ _ _ _
      | exact ih5 _ _ _ _ _
      | exact ih6 _ _ _ _ _ _
      | exact ih7 _ _ _ _ _ _ _
      | exact compeerref05_Keys.mono _ _ _
      | exact compeerref05_Product.mono _ _ _
      | exact LeO.none _
      | refine LeO.ite ?_ ?_
      | refine LeO.bind ?_ (fun _ => ?_)
    · intro y0 y1 y2 y3 y4
      unfold compeerref05_Block.l6
      repeat' first
      | (with_reducible exact ih0 _ _ _ _ _)
      | (with_reducible exact ih1 _ _ _ _)
      | (with_reducible exact ih2 _ _ _ _ _ _)
      | (with_reducible exact ih3 _ _ _ _ _ _ _)
      | (with_reducible exact ih4 _ _ _ _)
      | (with_reducible exact ih5 _ _ _ _ _)
      | (with_reducible exact ih6 _ _ _ _ _ _)
      | (with_reducible exact ih7 _ _ _ _ _ _ _)
      | (with_reducible exact compeerref05_Keys.mono _ _ _)
      | (with_reducible exact compeerref05_Product.mono _ _ _)
      | (with_reducible exact LeO.refl _)
      | (with_reducible exact LeO.none _)
      | (with_reducible refine LeO.ite ?_ ?_)
      | (with_reducible refine LeO.bind ?_ (fun _ => ?_))
      | exact ih0 _ _ _ _ _
      | exact ih1 _ _ _ _
      | exact ih2 _ _ _ _ _ _
      | exact ih3 _ _ _ _ _ _ _
      | exact ih4 _ _ _ _
      | exact ih5 _ _ _ _ _
      | exact ih6 _ _ _ _ _ _
      | exact ih7 _ _ _ _ _ _ _
      | exact compeerref05_Keys.mono _ _ _
      | exact compeerref05_Product.mono _ _ _
      | exact LeO.none _
      | refine LeO.ite ?_ ?_
      | refine LeO.bind ?_ (fun _ => ?_)
    · intro y0 y1 y2 y3 y4 y5
      unfold compeerref05_Block.l4
      repeat' first
      | (with_reducible exact ih0 _ _ _ _ _)
      | (with_reducible exact ih1 _ _ _ _)
      | (with_reducible exact ih2 _ _ _ _ _ _)
      | (with_reducible exact ih3 _ _ _ _ _ _ _)
      | (with_reducible exact ih4 _ _ _ _)
      | (with_reducible exact ih5 _ _ _ _ _)
      | (with_reducible exact ih6 _ _ _ _ _ _)
      | (with_reducible exact ih7 _ _ _ _ _ _ _)
      | (with_reducible exact compeerref05_Keys.mono _ _ _)
      | (with_reducible exact compeerref05_Product.mono _ _ _)
      | (with_reducible exact LeO.refl _)
      | (with_reducible exact LeO.none _)
      | (with_reducible refine LeO.ite ?_ ?_)
      | (with_reducible refine LeO.bind ?_ (fun _ => ?_))
      | exact ih0 _ _ _ _ _
      | exact ih1 _ _ _ _
      | exact ih2 _ _ _ _ _ _
      | exact ih3 _ _ _ _ _ _ _
      | exact ih4 _ _ _ _
      | exact ih5 _ _ _ _ _
      | exact ih6 _ _ _ _ _ _
      | exact ih7 _ _ _ _ _ _ _
      | exact compeerref05_Keys.mono _ _ _
      | exact compeerref05_Product.mono _ _ _
      | exact LeO.none _
      | refine LeO.ite ?_ ?_
      | refine LeO.bind ?_ (fun _ => ?_)
    · intro y0 y1 y2 y3 y4 y5 y6
      unfold compeerref05_Block.l5
      repeat' first
      | (with_reducible exact ih0 _ _ _ _ _)
      | (with_reducible exact ih1 _ _ _ _)
      | (with_reducible exact ih2 _ _ _ _ _ _)
      | (with_reducible exact ih3 _ _ _ _ _ _ _)
      | (with_reducible exact ih4 _ _ _ _)
      | (with_reducible exact ih5 _ _ _ _ _)
      | (with_reducible exact ih6 _ _ _ _ _ _)
      | (with_reducible exact ih7 _ _ _ _ _ _ _)
      | (with_reducible exact compeerref05_Keys.mono _ _ _)
      | (with_reducible exact compeerref05_Product.mono _ _ _)
      | (with_reducible exact LeO.refl _)
      | (with_reducible exact LeO.none _)
      | (with_reducible refine LeO.ite ?_ ?_)
      | (with_reducible refine LeO.bind ?_ (fun _ => ?_))
      | exact ih0 _ _ _ _ _
      | exact ih1 _ _ _ _
      | exact ih2 _ _ _ _ _ _
      | exact ih3 _ _ _ _ _ _ _
      | exact ih4 _ _ _ _
      | exact ih5 _ _ _ _ _
      | exact ih6 _ _ _ _ _ _
      | exact ih7 _ _ _ _ _ _ _
      | exact compeerref05_Keys.mono _ _ _
      | exact compeerref05_Product.mono _ _ _
      | exact LeO.none _
      | refine LeO.ite ?_ ?_
      | refine LeO.bind ?_ (fun _ => ?_)
theorem compeerref05_Block.mono : ∀ a0 a1 a2 k, LeO (compeerref05_Block.f k a0 a1 a2) (compeerref05_Block.f (k + 1) a0 a1 a2) := by
  intro a0 a1 a2 k
  obtain ⟨ih0, ih1, ih2, ih3, ih4, ih5, ih6, ih7⟩ := compeerref05_Block.mono_l k
  unfold compeerref05_Block.f
  repeat' first
      | (with_reducible exact ih0 _ _ _ _ _)
      | (with_reducible exact ih1 _ _ _ _)
      | (with_reducible exact ih2 _ _ _ _ _ _)
      | (with_reducible exact ih3 _ _ _ _ _ _ _)
      | (with_reducible exact ih4 _ _ _ _)
      | (with_reducible exact ih5 _ _ _ _ _)
      | (with_reducible exact ih6 _ _ _ _ _ _)
      | (with_reducible exact ih7 _ _ _ _ _ _ _)
      | (with_reducible exact compeerref05_Keys.mono _ _ _)
      | (with_reducible exact compeerref05_Product.mono _ _ _)
      | (with_reducible exact LeO.refl _)
      | (with_reducible exact LeO.none _)
      | (with_reducible refine LeO.ite ?_ ?_)
      | (with_reducible refine LeO.bind ?_ (fun _ => ?_))
      | exact ih0 _ _ _ _ _
      | exact ih1 _ _ _ _
      | exact ih2 _ _ _ _ _ _
      | exact ih3 _ _ _ _ _ _ _
      | exact ih4 _ _ _ _
      | exact ih5 _ _ _ _ _
      | exact ih6 _ _ _ _ _ _
      | exact ih7 _ _ _ _ _ _ _
      | exact compeerref05_Keys.mono _ _ _
      | exact compeerref05_Product.mono _ _ _
      | exact LeO.none _
      | refine LeO.ite ?_ ?_
      | refine LeO.bind ?_ (fun _ => ?_)
def compeerref05_Block.T6 : Bool × List (List Nat × List Nat) := (true, [([], []), ([], []), ([], []), ([1, 2], [1, 2]), ([3], [3]), ([], []), ([], []), ([5, 6], [5, 6]), ([7], [7]), ([4, 8], [4, 8]), ([9], [9]), ([0, 10], [0, 10]), ([11, 11, 0, 1, 2, 3, 4, 5, 6, 7, 8, 9, 10, 11], [0, 11])])
def compeerref05_Block.B6 : List Nat := [0, 0, 0, 6, 14, 0, 0, 96, 224, 510, 1022, 2047, 4095]
theorem compeerref05_Block.tab6 : rtab .any (opsOf Tryd.f45 6) = compeerref05_Block.T6 := by kernel_rfl
theorem compeerref05_Block.bits6 : waitsOk compeerref05_Block.T6.2 compeerref05_Block.B6 = true := by kernel_rfl
def compeerref05_Block.T35 : Bool × List (List Nat × List Nat) := (true, [([], []), ([], []), ([], []), ([], []), ([2, 3], [2, 3]), ([4], [4]), ([], []), ([], []), ([7], [7]), ([], []), ([8, 9], [8, 9]), ([6, 10], [6, 10]), ([11], [11]), ([5, 12], [5, 12]), ([0, 1, 0, 1, 2, 3, 4, 5, 6, 7, 8, 9, 10, 11, 12, 13], [0, 1]), ([14, 13, 0, 1, 2, 3, 4, 5, 6, 7, 8, 9, 10, 11, 12, 13], [13, 14])])
def compeerref05_Block.B35 : List Nat := [0, 0, 0, 0, 12, 28, 0, 0, 128, 0, 896, 1984, 4032, 8188, 16383, 32767]
theorem compeerref05_Block.tab35 : rtab .any (opsOf Tryd.f45 35) = compeerref05_Block.T35 := by kernel_rfl
theorem compeerref05_Block.bits35 : waitsOk compeerref05_Block.T35.2 compeerref05_Block.B35 = true := by kernel_rfl
set_option maxHeartbeats 8000000 in
set_option maxRecDepth 100000 in
theorem compeerref05_Block.calls (k : Nat) (A0 : Option Addr) (c0 : Nat) (l0 : List Int) (A1 : Option Addr) (c1 : Nat) (l1 : List Int) (A2 : Option Addr) (c2 : Nat) (l2 : List Int) (r : List Int) (w : World) (hr0 : Kd.C (Kd.int .u8) w A0 l0.length l0) (hc0 : l0.length ≤ c0) (hr1 : Kd.C (Kd.int .u8) w A1 l1.length l1) (hc1 : l1.length ≤ c1) (hr2 : Kd.C (Kd.int .u8) w A2 l2.length l2) (hc2 : l2.length ≤ c2) (h : compeerref05_Block.f k l0 l1 l2 = some r) :
    Calls Tryd.prog 45 #[.slice A0 l0.length c0, .slice A1 l1.length c1, .slice A2 l2.length c2] w fun e w' => ∃ v0_ : Value, e = .returned (v0_) ∧ Kd.R (Kd.int .u8) 5 w' w.heap.size (fun _ => True) v0_ r ∧ Below w.heap.size w w' := by
  have HR0 := Aside0.mk hr0
  have HC0 := Aside0.mk hc0
  clear hr0 hc0
  have HR1 := Aside0.mk hr1
  have HC1 := Aside0.mk hc1
  clear hr1 hc1
  have HR2 := Aside0.mk hr2
  have HC2 := Aside0.mk hc2
  clear hr2 hc2
  have HB := Aside0.mk (Below.refl w.heap.size w)
  have H : ((compeerref05_Keys.f k l0 l1).bind fun t289 => (compeerref05_Block.l0 k l0 l2 t289 (([] : List Int)) 0)) = some r := h
  clear h
  replace H := Option.bind_eq_some_iff.mp H
  obtain ⟨t289, A40, H⟩ := H
  replace H : (compeerref05_Block.l0 k l0 l2 t289 (([] : List Int)) 0) = some r := H
  have A4 := Aside0.mk A40
  clear A40
  obtain ⟨y292, hy292⟩ : ∃ y_ : List Int, y_ = (([] : List Int)) := ⟨_, rfl⟩
  replace H : (compeerref05_Block.l0 k l0 l2 t289 y292 0) = some r := by first | (rw [hy292]; with_reducible exact H) | (have H2_ := (Option.bind_some _ _).symm.trans H; rw [hy292]; with_reducible exact H2_) | (have H2_ := (Option.bind_some _ _).symm.trans H; with_reducible exact H2_) | with_reducible exact H | (rw [hy292]; exact H) | exact H
  have Ny292 := Aside0.mk hy292
  clear hy292
  have H' := Aside0.mk H
  clear H
  go_enter Tryd.func45, Tryd.ntmps45
  go_wp2_with (first | ((with_reducible refine gate_callee (f := 54) rfl ?_); refine goesL_ (some 24) rfl rfl Tryd.func54 (by kernel_rfl) rfl #[.slice A0 l0.length c0, .slice A1 l1.length c1] rfl (by (try simp only [List.map_toArray, List.map_cons, List.map_nil]); first | done | rfl | (simp only [List.length_drop, List.length_take]; rfl)) ?_; (with_reducible refine (compeerref05_Keys.calls k _ _ l0 _ _ l1 t289 _ ?side1 ?side2 ?side3 ?side4 A4.out).mono ?_); (case side1 => repeat (first | exact HR0.out | (with_reducible refine Kd.C_alloc ?_ _) | (with_reducible refine Kd.C_drewN ?_ _) | (with_reducible refine Kd.C_drew ?_))); (case side2 => exact HC0.out); (case side3 => repeat (first | exact HR1.out | (with_reducible refine Kd.C_alloc ?_ _) | (with_reducible refine Kd.C_drewN ?_ _) | (with_reducible refine Kd.C_drew ?_))); (case side4 => exact HC1.out); rintro e w5 ⟨v290, rfl, ho0, hb⟩; refine ⟨_, rfl, ?_⟩; have n0_ := Aside0.mk (Kd.R_lower ho0 (below_size (by repeat (first | (with_reducible first | exact HB.out | apply below_alloc | apply pw_below_drewN | apply below_drew1) | exact HB.out)))); have n1_ := Aside0.mk (below_step (by repeat (first | (with_reducible first | exact HB.out | apply below_alloc | apply pw_below_drewN | apply below_drew1) | exact HB.out)) hb); clear HB; have HO291 := n0_; have HB := n1_; clear n0_ n1_; (try clear hb); (try clear hb2); (try clear hk); (try clear hi); (try clear ho0)) | ((with_reducible refine gate_dst (N := 25) rfl ?_); refine Kd.R_lit (Kd.int .u8) _ 5 ?hg (N := 25) ?hd (xs := ([] : List Int)) (inner := []) (ok := fun _ => True) (okp := fun _ => True) ?hr ?hp (fun _ hk => hk) trivial (Below.refl _ _) (Nat.le_refl _) (by simp) ?_; (case hd => rfl); (case hg => rfl); (case hr => first | (go_simp; done) | (go_simp; rfl)); (case hp => exact (Reps.none _ _)); intro v293 w6 ho7 hb hg_ hnew_; clear hg_ hnew_; (first | rw [← Ny292.out] at ho7 | (simp only [Int.reduceToNat] at ho7; rw [← Ny292.out] at ho7)); have n0_ := Aside0.mk (Kd.R_elder' (by (with_reducible repeat (first | apply Kd.R_alloc | apply Kd.R_drewN | apply Kd.R_drew)); exact HO291.out) (Kd.R_base ho7) hb); have n1_ := Aside0.mk (Kd.R_lower (Kd.R_new' ho7 (Kd.R_lt (by (with_reducible repeat (first | apply Kd.R_alloc | apply Kd.R_drewN | apply Kd.R_drew)); exact HO291.out))) (below_size (by repeat (first | (with_reducible first | exact HB.out | apply below_alloc | apply pw_below_drewN | apply below_drew1) | exact HB.out)))); have n2_ := Aside0.mk (below_step (by repeat (first | (with_reducible first | exact HB.out | apply below_alloc | apply pw_below_drewN | apply below_drew1) | exact HB.out)) hb); clear HO291; clear HB; have HO291 := n0_; have HO294 := n1_; have HB := n2_; clear n0_ n1_ n2_; clear hb ho7))
  go_loopg [8, 9] k (fun kq v8 v9 w' => ∃ (x8_1 : List Int) (x9_1 : Int), v9 = .int .i64 x9_1 ∧ Aside0 (compeerref05_Block.l0 kq l0 l2 t289 x8_1 x9_1 = some r) ∧ Aside0 (kq ≤ k) ∧ Aside0 (Kd.R (Kd.int .u8) 5 w' w.heap.size (fun k_ => some k_ ≠ (v8 : Value).ownBlock) v290 t289) ∧ Aside0 (Kd.R (Kd.int .u8) 5 w' w.heap.size (fun k_ => some k_ ≠ (v290 : Value).ownBlock) v8 x8_1) ∧ Aside0 (Below w.heap.size w w'))
  case atStart => exact ⟨(y292), (0), (by first | rfl | (simp; done) | (simp [*]; done)), H', ⟨Nat.le_refl _⟩, ⟨by (with_reducible repeat (first | apply Kd.R_alloc | apply Kd.R_drewN | apply Kd.R_drew)); exact Kd.R_mono HO291.out (fun _ hk => hk.2)⟩, ⟨by (with_reducible repeat (first | apply Kd.R_alloc | apply Kd.R_drewN | apply Kd.R_drew)); exact Kd.R_mono HO294.out (fun _ hk => hk.2)⟩, ⟨by repeat (first | (with_reducible first | exact HB.out | apply below_alloc | apply pw_below_drewN | apply below_drew1) | exact HB.out)⟩⟩
  case round =>
    clear H'
    try clear c1
    try clear c2
    try clear p2
    try clear c4
    try clear c5
    obtain ⟨x8_1, x9_1, rfl, HA, HK1, HO_7, HO_8, HB⟩ := hrel
    cases gk with
    | zero => exact absurd HA.out (by simp [compeerref05_Block.l0])
    | succ k1 =>
      have H := HA.out
      clear HA
      simp only [compeerref05_Block.l0] at H
      by_cases c8 : x9_1 < 16
      · rw [if_pos c8] at H
        have c8b0 : decide (x9_1 < 16) = true := decide_eq_true c8
        clear c8
        by_cases c9 : 0 ≤ x9_1
        · rw [if_pos c9] at H
          have c9b0 : decide (0 ≤ x9_1) = true := decide_eq_true c9
          clear c9
          by_cases c10 : x9_1 < (l2.length : Int)
          · rw [if_pos c10] at H
            have c10b0 : decide (x9_1 < (l2.length : Int)) = true := decide_eq_true c10
            clear c10
            by_cases c11 : x9_1 < (t289.length : Int)
            · rw [if_pos c11] at H
              have c11b0 : decide (x9_1 < (t289.length : Int)) = true := decide_eq_true c11
              clear c11
              by_cases c12 : x8_1.length < 140737488355328
              · rw [if_pos c12] at H
                have LMc12 := Aside0.mk c12
                clear c12
                obtain ⟨y297, hy297⟩ : ∃ y_ : List Int, y_ = (x8_1 ++ [Go.bits .xor .u8 (rd l2 x9_1) (rd t289 x9_1)]) := ⟨_, rfl⟩
                replace H : (compeerref05_Block.l0 k1 l0 l2 t289 y297 (wrap64 (x9_1 + 1))) = some r := by first | (rw [hy297]; with_reducible exact H) | (have H2_ := (Option.bind_some _ _).symm.trans H; rw [hy297]; with_reducible exact H2_) | (have H2_ := (Option.bind_some _ _).symm.trans H; with_reducible exact H2_) | with_reducible exact H | (rw [hy297]; exact H) | exact H
                have Ny297 := Aside0.mk hy297
                clear hy297
                have H' := Aside0.mk H
                clear H
                try go_wp2
                have n0_ := Aside0.mk (Kd.R_drew HO_7.out)
                have n1_ := Aside0.mk (Kd.R_drew HO_8.out)
                have n2_ := Aside0.mk (below_drew1 HB.out)
                clear HO_7
                clear HO_8
                clear HB
                have HO_7 := n0_
                have HO_8 := n1_
                have HB := n2_
                clear n0_ n1_ n2_
                have p295 : 0 ≤ (x9_1 : Int) := of_decide_eq_true (by first | (with_reducible assumption) | assumption)
                have q295 : x9_1 < (l2.length : Int) := of_decide_eq_true (by first | (with_reducible assumption) | assumption)
                obtain ⟨ad295, e295, hx295_0⟩ := Kd.at_int HR2.out x9_1 p295 q295
                have hw295_0 := hx295_0
                cases e295
                replace hx295_0 := (HB.out.cell (World.block_lt_of_cell? w _ hx295_0)).trans hx295_0
                replace p295 := eq_true p295
                replace q295 := eq_true q295
                obtain ⟨Ao14, co14, eo14⟩ := Kd.R_slice HO_7.out
                (first | subst eo14 | (injection eo14 with f1_ f2_ f3_; have f4_ := f1_.symm; have f5_ := f3_.symm; clear f1_ f2_ f3_; subst f4_; subst f5_))
                have p296 : 0 ≤ (x9_1 : Int) := of_decide_eq_true (by first | (with_reducible assumption) | assumption)
                have q296 : x9_1 < (t289.length : Int) := of_decide_eq_true (by first | (with_reducible assumption) | assumption)
                obtain ⟨ad296, e296, hx296_0⟩ := Kd.at_int (Kd.R_reads' HO_7.out).2.2 x9_1 p296 q296
                cases e296
                replace p296 := eq_true p296
                replace q296 := eq_true q296
                refine start_ (n := 13) (S := fun w' => w'.cell? (ad295.add (x9_1).toNat) = some (.int .u8 (rd l2 x9_1)) ∧ w'.cell? (ad296.add (x9_1).toNat) = some (.int .u8 (rd t289 x9_1))) (ds := [10, 11]) #[false, false, false, false, false, false, false, false, false, false, false, false, false] (by kernel_rfl) rfl rfl ⟨((HB.out.cell (World.block_lt_of_cell? w _ hw295_0)).trans hw295_0), hx296_0⟩ (fun hHeld => ?_); refine with_tabW compeerref05_Block.tab6 compeerref05_Block.bits6 (fun HT_ HW_ => ?_)
                generalize wr.drew = w13 at HO_7 HO_8 HB hx295_0 hx296_0 hHeld ⊢
                refine pure_ (i := 0) (N := some 30) (v := ?_) (a' := ?_) #[true, false, false, false, false, false, false, false, false, false, false, false, false] rfl rfl (any_of HT_.out (by kernel_rfl)) (fun _ _ _ h => h) (Or.inl ⟨by rfl, ?_⟩) ?_ ?_
                rotate_left
                · intro w'
                  go_simp
                  with_reducible rfl
                rotate_left
                · simp only [Act.put, List.setIfInBounds_toArray, List.set_cons_zero, List.set_cons_succ, i64_w, i32_w]
                  rfl
                refine pure_ (i := 1) (N := some 31) (v := ?_) (a' := ?_) #[true, true, false, false, false, false, false, false, false, false, false, false, false] rfl rfl (any_of HT_.out (by kernel_rfl)) (fun _ _ _ h => h) (Or.inl ⟨by rfl, ?_⟩) ?_ ?_
                rotate_left
                · intro w'
                  go_simp
                  with_reducible rfl
                rotate_left
                · simp only [Act.put, List.setIfInBounds_toArray, List.set_cons_zero, List.set_cons_succ, i64_w, i32_w]
                  rfl
                refine pure_ (i := 2) (N := some 32) (v := ?_) (a' := ?_) #[true, true, true, false, false, false, false, false, false, false, false, false, false] rfl rfl (any_of HT_.out (by kernel_rfl)) (fun _ _ _ h => h) (Or.inl ⟨by rfl, ?_⟩) ?_ ?_
                rotate_left
                · intro w'
                  go_simp
                  with_reducible rfl
                rotate_left
                · simp only [Act.put, List.setIfInBounds_toArray, List.set_cons_zero, List.set_cons_succ, i64_w, i32_w]
                  rfl
                refine pure_ (i := 3) (N := some 33) (v := ?_) (a' := ?_) #[true, true, true, true, false, false, false, false, false, false, false, false, false] rfl rfl (any_of HT_.out (by kernel_rfl)) (fun _ _ _ h => h) (Or.inl ⟨by rfl, ?_⟩) ?_ ?_
                rotate_left
                · intro w'
                  go_simp
                  with_reducible rfl
                rotate_left
                · simp only [Act.put, List.setIfInBounds_toArray, List.set_cons_zero, List.set_cons_succ, i64_w, i32_w]
                  rfl
                refine pure_ (i := 5) (N := some 35) (v := ?_) (a' := ?_) #[true, true, true, true, false, true, false, false, false, false, false, false, false] rfl rfl (any_of HT_.out (by kernel_rfl)) (fun _ _ _ h => h) (Or.inl ⟨by rfl, ?_⟩) ?_ ?_
                rotate_left
                · intro w'
                  go_simp
                  with_reducible rfl
                rotate_left
                · simp only [Act.put, List.setIfInBounds_toArray, List.set_cons_zero, List.set_cons_succ, i64_w, i32_w]
                  rfl
                refine pure_ (i := 6) (N := some 36) (v := ?_) (a' := ?_) #[true, true, true, true, false, true, true, false, false, false, false, false, false] rfl rfl (any_of HT_.out (by kernel_rfl)) (fun _ _ _ h => h) (Or.inl ⟨by rfl, ?_⟩) ?_ ?_
                rotate_left
                · intro w'
                  go_simp
                  with_reducible rfl
                rotate_left
                · simp only [Act.put, List.setIfInBounds_toArray, List.set_cons_zero, List.set_cons_succ, i64_w, i32_w]
                  rfl
                refine pure_ (i := 7) (N := some 37) (v := ?_) (a' := ?_) #[true, true, true, true, false, true, true, true, false, false, false, false, false] rfl rfl (any_of HT_.out (by kernel_rfl)) (fun _ _ _ h => h) (Or.inl ⟨by rfl, ?_⟩) ?_ ?_
                rotate_left
                · intro w'
                  go_simp
                  with_reducible rfl
                rotate_left
                · simp only [Act.put, List.setIfInBounds_toArray, List.set_cons_zero, List.set_cons_succ, i64_w, i32_w]
                  rfl
                refine take_ (i := 4) (N := some 34) (v := ?_) (a' := ?_) #[true, true, true, true, true, true, true, true, false, false, false, false, false] rfl rfl (take_ofW HT_.out HW_.out (by kernel_rfl)) (fun _ _ _ h => h) (Or.inl ⟨by rfl, ?_⟩) hHeld ?_ ?_
                rotate_left
                · rintro w' ⟨s0, s1⟩
                  go_simp
                  with_reducible rfl
                rotate_left
                · simp only [Act.put, List.setIfInBounds_toArray, List.set_cons_zero, List.set_cons_succ, i64_w, i32_w]
                  rfl
                refine take_ (i := 8) (N := some 38) (v := ?_) (a' := ?_) #[true, true, true, true, true, true, true, true, true, false, false, false, false] rfl rfl (take_ofW HT_.out HW_.out (by kernel_rfl)) (fun _ _ _ h => h) (Or.inl ⟨by rfl, ?_⟩) hHeld ?_ ?_
                rotate_left
                · rintro w' ⟨s0, s1⟩
                  go_simp
                  with_reducible rfl
                rotate_left
                · simp only [Act.put, List.setIfInBounds_toArray, List.set_cons_zero, List.set_cons_succ, i64_w, i32_w]
                  rfl
                refine pure_ (i := 9) (N := some 39) (v := ?_) (a' := ?_) #[true, true, true, true, true, true, true, true, true, true, false, false, false] rfl rfl (any_of HT_.out (by kernel_rfl)) (fun _ _ _ h => h) (Or.inl ⟨by rfl, ?_⟩) ?_ ?_
                rotate_left
                · intro w'
                  go_simp
                  with_reducible rfl
                rotate_left
                · simp only [Act.put, List.setIfInBounds_toArray, List.set_cons_zero, List.set_cons_succ, i64_w, i32_w]
                  rfl
                refine last_ (i := 10) (N := some 40) #[true, true, true, true, true, true, true, true, true, true, true, false, false] rfl rfl (one_of HT_.out (by kernel_rfl)) (by decide) (fun K hK => ?_)
                refine value_ (w1 := ?_) (v := ?_) (by rfl) rfl ?_ ?_
                rotate_left 2
                · go_simp
                  constructor
                  · rfl
                  · rfl
                refine hK.out _ _ ?_
                clear hK K
                refine norm_ (a' := ?_) ?_ ?_
                rotate_left
                · show Act.put _ (some 40) _ = _
                  simp only [Act.put, List.setIfInBounds_toArray, List.set_cons_zero, List.set_cons_succ, i64_w, i32_w]
                  rfl
                refine last_ (i := 11) (N := some 41) #[true, true, true, true, true, true, true, true, true, true, true, true, false] rfl rfl (one_of HT_.out (by kernel_rfl)) (by decide) (fun K hK => ?_)
                refine Kd.R_append_step (Kd.int .u8) (w0 := w) w.heap.size (by rfl) (.tmp 30) (.tmp 40) 23 5 (.int .u8 0) 1 rfl Tryd.underlying23 info5 rfl (by decide) (by omega) u8 x8_1 (Go.bits .xor .u8 (rd l2 x9_1) (rd t289 x9_1)) [.int .u8 (Go.bits .xor .u8 (rd l2 x9_1) (rd t289 x9_1))] (fun k_ => some k_ ≠ (.slice (some ad296) t289.length co14 : Value).ownBlock) (fun _ => False) rfl rfl ?aP (fun _ hk => hk.elim) ?aF ?aO ?aB ?aS ?aL ?_
                (case aP => exact rfl)
                (case aB => exact (by repeat (first | (with_reducible first | exact HB.out | apply below_alloc | apply pw_below_drewN | apply below_drew1) | exact HB.out)))
                (case aF => exact (fun k_ hk => Kd.fresh' (Kd.R_lt (by (with_reducible repeat (first | apply Kd.R_alloc | apply Kd.R_drewN | apply Kd.R_drew)); exact HO_7.out)) k_ hk))
                (case aO => exact (by (with_reducible repeat (first | apply Kd.R_alloc | apply Kd.R_drewN | apply Kd.R_drew)); exact HO_8.out))
                (case aS => exact (below_size (by repeat (first | (with_reducible first | exact HB.out | apply below_alloc | apply pw_below_drewN | apply below_drew1) | exact HB.out))))
                (case aL => have := LMc12.out; omega)
                intro v298 w15 ho hb hg hat
                rw [← Ny297.out] at ho
                have n0_ := Aside0.mk (Kd.R_after (ok := (fun _ => True)) (by (with_reducible repeat (first | apply Kd.R_alloc | apply Kd.R_drewN | apply Kd.R_drew)); exact Kd.R_mono HO_7.out (fun _ hk => ⟨trivial, hk⟩)) hg hat)
                have n1_ := Aside0.mk (hb)
                have n2_ := Aside0.mk (ho)
                clear HO_7
                clear HB
                clear HO_8
                have HO_7 := n0_
                have HB := n1_
                have HO299 := n2_
                clear n0_ n1_ n2_
                clear ho hb hg hat
                refine hK.out _ _ ?_
                clear hK K
                refine norm_ (a' := ?_) ?_ ?_
                rotate_left
                · show Act.put _ (some 41) _ = _
                  simp only [Act.put, List.setIfInBounds_toArray, List.set_cons_zero, List.set_cons_succ, i64_w, i32_w]
                  rfl
                refine pure_ (i := 12) (N := some 8) (v := ?_) (a' := ?_) #[true, true, true, true, true, true, true, true, true, true, true, true, true] rfl rfl (any_of HT_.out (by kernel_rfl)) (fun _ _ _ h => h) (Or.inl ⟨by rfl, ?_⟩) ?_ ?_
                rotate_left
                · intro w'
                  go_simp
                  with_reducible rfl
                rotate_left
                · simp only [Act.put, List.setIfInBounds_toArray, List.set_cons_zero, List.set_cons_succ, i64_w, i32_w]
                  rfl
                refine done_ (done_of HT_.out (by kernel_rfl)) ?_
                try go_wp2
                go_roundg k1
                case measure => have := HK1.out; omega
                case rel => exact ⟨(y297), (wrap64 (x9_1 + 1)), (by first | rfl | (simp; done) | (simp [*]; done)), H', ⟨by have := HK1.out; omega⟩, ⟨by (with_reducible repeat (first | apply Kd.R_alloc | apply Kd.R_drewN | apply Kd.R_drew)); exact Kd.R_mono HO_7.out (fun _ hk => hk.2)⟩, ⟨by (with_reducible repeat (first | apply Kd.R_alloc | apply Kd.R_drewN | apply Kd.R_drew)); exact HO299.out⟩, ⟨by repeat (first | (with_reducible first | exact HB.out | apply below_alloc | apply pw_below_drewN | apply below_drew1) | exact HB.out)⟩⟩
              · rw [if_neg c12] at H
                exact absurd H (by simp)
            · rw [if_neg c11] at H
              exact absurd H (by simp)
          · rw [if_neg c10] at H
            exact absurd H (by simp)
        · rw [if_neg c9] at H
          exact absurd H (by simp)
      · rw [if_neg c8] at H
        have c8b0 : decide (x9_1 < 16) = false := decide_eq_false c8
        clear c8
        have H' := Aside0.mk H
        clear H
        go_wp2
        go_loopg [8, 10] k1 (fun kq v8 v10 w' => ∃ (x7_2 : List Int) (x8_2 : List Int) (x10_2 : Int), v10 = .int .i64 x10_2 ∧ Aside0 (compeerref05_Block.l1 kq l0 x7_2 x8_2 x10_2 = some r) ∧ Aside0 (kq ≤ k1) ∧ Aside0 (Kd.R (Kd.int .u8) 5 w' w.heap.size (fun k_ => some k_ ≠ (v8 : Value).ownBlock) v290 x7_2) ∧ Aside0 (Kd.R (Kd.int .u8) 5 w' w.heap.size (fun k_ => some k_ ≠ (v290 : Value).ownBlock) v8 x8_2) ∧ Aside0 (Below w.heap.size w w'))
        case atStart => exact ⟨(t289), (x8_1), (1), (by first | rfl | (simp; done) | (simp [*]; done)), H', ⟨Nat.le_refl _⟩, ⟨by (with_reducible repeat (first | apply Kd.R_alloc | apply Kd.R_drewN | apply Kd.R_drew)); exact HO_7.out⟩, ⟨by (with_reducible repeat (first | apply Kd.R_alloc | apply Kd.R_drewN | apply Kd.R_drew)); exact HO_8.out⟩, ⟨by repeat (first | (with_reducible first | exact HB.out | apply below_alloc | apply pw_below_drewN | apply below_drew1) | exact HB.out)⟩⟩
        case round =>
          clear H'
          try clear c1
          try clear c2
          try clear p2
          try clear q2
          try clear hx2
          try clear c4
          try clear c5
          try clear p6
          try clear c8
          try clear c8b0
          try clear c9
          try clear c9b0
          try clear c10
          try clear c10b0
          try clear c11
          try clear c11b0
          try clear c12
          try clear hx295_0
          try clear hx296_0
          try clear p2
          try clear p295
          try clear p296
          try clear q295
          try clear q296
          obtain ⟨x7_2, x8_2, x10_2, rfl, HA, HK2, HO_7, HO_8, HB⟩ := hrel
          cases gk with
          | zero => exact absurd HA.out (by simp [compeerref05_Block.l1])
          | succ k2 =>
            have H := HA.out
            clear HA
            simp only [compeerref05_Block.l1] at H
            by_cases c16 : x10_2 ≤ 10
            · rw [if_pos c16] at H
              have c16b0 : decide (x10_2 ≤ 10) = true := decide_eq_true c16
              clear c16
              obtain ⟨y300, hy300⟩ : ∃ y_ : List Int, y_ = (([] : List Int)) := ⟨_, rfl⟩
              replace H : (compeerref05_Block.l2 k2 l0 x7_2 x8_2 x10_2 y300 0) = some r := by first | (rw [hy300]; with_reducible exact H) | (have H2_ := (Option.bind_some _ _).symm.trans H; rw [hy300]; with_reducible exact H2_) | (have H2_ := (Option.bind_some _ _).symm.trans H; with_reducible exact H2_) | with_reducible exact H | (rw [hy300]; exact H) | exact H
              have Ny300 := Aside0.mk hy300
              clear hy300
              have H' := Aside0.mk H
              clear H
              go_wp2_with (first | ((with_reducible refine gate_dst (N := 46) rfl ?_); refine Kd.R_lit (Kd.int .u8) _ 5 ?hg (N := 46) ?hd (xs := ([] : List Int)) (inner := []) (ok := fun _ => True) (okp := fun _ => True) ?hr ?hp (fun _ hk => hk) trivial (Below.refl _ _) (Nat.le_refl _) (by simp) ?_; (case hd => rfl); (case hg => rfl); (case hr => first | (go_simp; done) | (go_simp; rfl)); (case hp => exact (Reps.none _ _)); intro v301 w17 ho18 hb hg_ hnew_; clear hg_ hnew_; (first | rw [← Ny300.out] at ho18 | (simp only [Int.reduceToNat] at ho18; rw [← Ny300.out] at ho18)); have n0_ := Aside0.mk (Kd.R_elder' (by (with_reducible repeat (first | apply Kd.R_alloc | apply Kd.R_drewN | apply Kd.R_drew)); exact HO_7.out) (Kd.R_base ho18) hb); have n1_ := Aside0.mk (Kd.R_elder' (by (with_reducible repeat (first | apply Kd.R_alloc | apply Kd.R_drewN | apply Kd.R_drew)); exact HO_8.out) (Kd.R_base ho18) hb); have n2_ := Aside0.mk (Kd.R_lower (Kd.R_new' (Kd.R_new' ho18 (Kd.R_lt (by (with_reducible repeat (first | apply Kd.R_alloc | apply Kd.R_drewN | apply Kd.R_drew)); exact HO_7.out))) (Kd.R_lt (by (with_reducible repeat (first | apply Kd.R_alloc | apply Kd.R_drewN | apply Kd.R_drew)); exact HO_8.out))) (below_size (by repeat (first | (with_reducible first | exact HB.out | apply below_alloc | apply pw_below_drewN | apply below_drew1) | exact HB.out)))); have n3_ := Aside0.mk (below_step (by repeat (first | (with_reducible first | exact HB.out | apply below_alloc | apply pw_below_drewN | apply below_drew1) | exact HB.out)) hb); clear HO_7; clear HO_8; clear HB; have HO_7 := n0_; have HO_8 := n1_; have HO302 := n2_; have HB := n3_; clear n0_ n1_ n2_ n3_; clear hb ho18))
              go_loopg [11, 12] k2 (fun kq v11 v12 w' => ∃ (x11_3 : List Int) (x12_3 : Int), v12 = .int .i64 x12_3 ∧ Aside0 (compeerref05_Block.l2 kq l0 x7_2 x8_2 x10_2 x11_3 x12_3 = some r) ∧ Aside0 (kq ≤ k2) ∧ Aside0 (Kd.R (Kd.int .u8) 5 w' w.heap.size (fun k_ => some k_ ≠ (u8 : Value).ownBlock ∧ some k_ ≠ (v11 : Value).ownBlock) v290 x7_2) ∧ Aside0 (Kd.R (Kd.int .u8) 5 w' w.heap.size (fun k_ => some k_ ≠ (v290 : Value).ownBlock ∧ some k_ ≠ (v11 : Value).ownBlock) u8 x8_2) ∧ Aside0 (Kd.R (Kd.int .u8) 5 w' w.heap.size (fun k_ => some k_ ≠ (v290 : Value).ownBlock ∧ some k_ ≠ (u8 : Value).ownBlock) v11 x11_3) ∧ Aside0 (Below w.heap.size w w'))
              case atStart => exact ⟨(y300), (0), (by first | rfl | (simp; done) | (simp [*]; done)), H', ⟨Nat.le_refl _⟩, ⟨by (with_reducible repeat (first | apply Kd.R_alloc | apply Kd.R_drewN | apply Kd.R_drew)); exact HO_7.out⟩, ⟨by (with_reducible repeat (first | apply Kd.R_alloc | apply Kd.R_drewN | apply Kd.R_drew)); exact HO_8.out⟩, ⟨by (with_reducible repeat (first | apply Kd.R_alloc | apply Kd.R_drewN | apply Kd.R_drew)); exact Kd.R_mono HO302.out (fun _ hk => ⟨hk.1.2, hk.2⟩)⟩, ⟨by repeat (first | (with_reducible first | exact HB.out | apply below_alloc | apply pw_below_drewN | apply below_drew1) | exact HB.out)⟩⟩
              case round =>
                clear H'
                try clear c1
                try clear c2
                try clear p2
                try clear q2
                try clear hx2
                try clear c4
                try clear c5
                try clear p6
                try clear c8
                try clear c8b0
                try clear c9
                try clear c9b0
                try clear c10
                try clear c10b0
                try clear c11
                try clear c11b0
                try clear c12
                try clear c16
                try clear c16b0
                try clear hx295_0
                try clear hx296_0
                try clear p2
                try clear p295
                try clear p296
                try clear p6
                try clear q2
                try clear q295
                try clear q296
                obtain ⟨x11_3, x12_3, rfl, HA, HK3, HO_7, HO_8, HO_11, HB⟩ := hrel
                cases gk with
                | zero => exact absurd HA.out (by simp [compeerref05_Block.l2])
                | succ k3 =>
                  have H := HA.out
                  clear HA
                  simp only [compeerref05_Block.l2] at H
                  by_cases c19 : x12_3 < 4
                  · rw [if_pos c19] at H
                    have c19b0 : decide (x12_3 < 4) = true := decide_eq_true c19
                    clear c19
                    have H' := Aside0.mk H
                    clear H
                    go_wp2
                    go_loopg [11, 13] k3 (fun kq v11 v13 w' => ∃ (x11_4 : List Int) (x13_4 : Int), v13 = .int .i64 x13_4 ∧ Aside0 (compeerref05_Block.l3 kq l0 x7_2 x8_2 x10_2 x11_4 x12_3 x13_4 = some r) ∧ Aside0 (kq ≤ k3) ∧ Aside0 (Kd.R (Kd.int .u8) 5 w' w.heap.size (fun k_ => some k_ ≠ (u8 : Value).ownBlock ∧ some k_ ≠ (v11 : Value).ownBlock) v290 x7_2) ∧ Aside0 (Kd.R (Kd.int .u8) 5 w' w.heap.size (fun k_ => some k_ ≠ (v290 : Value).ownBlock ∧ some k_ ≠ (v11 : Value).ownBlock) u8 x8_2) ∧ Aside0 (Kd.R (Kd.int .u8) 5 w' w.heap.size (fun k_ => some k_ ≠ (v290 : Value).ownBlock ∧ some k_ ≠ (u8 : Value).ownBlock) v11 x11_4) ∧ Aside0 (Below w.heap.size w w'))
                    case atStart => exact ⟨(x11_3), (0), (by first | rfl | (simp; done) | (simp [*]; done)), H', ⟨Nat.le_refl _⟩, ⟨by (with_reducible repeat (first | apply Kd.R_alloc | apply Kd.R_drewN | apply Kd.R_drew)); exact HO_7.out⟩, ⟨by (with_reducible repeat (first | apply Kd.R_alloc | apply Kd.R_drewN | apply Kd.R_drew)); exact HO_8.out⟩, ⟨by (with_reducible repeat (first | apply Kd.R_alloc | apply Kd.R_drewN | apply Kd.R_drew)); exact HO_11.out⟩, ⟨by repeat (first | (with_reducible first | exact HB.out | apply below_alloc | apply pw_below_drewN | apply below_drew1) | exact HB.out)⟩⟩
                    case round =>
                      clear H'
                      try clear c1
                      try clear c2
                      try clear p2
                      try clear q2
                      try clear hx2
                      try clear c4
                      try clear c5
                      try clear p6
                      try clear c8
                      try clear c8b0
                      try clear c9
                      try clear c9b0
                      try clear c10
                      try clear c10b0
                      try clear c11
                      try clear c11b0
                      try clear c12
                      try clear c16
                      try clear c16b0
                      try clear c19
                      try clear c19b0
                      try clear hx295_0
                      try clear hx296_0
                      try clear p2
                      try clear p295
                      try clear p296
                      try clear p6
                      try clear q2
                      try clear q295
                      try clear q296
                      obtain ⟨x11_4, x13_4, rfl, HA, HK4, HO_7, HO_8, HO_11, HB⟩ := hrel
                      cases gk with
                      | zero => exact absurd HA.out (by simp [compeerref05_Block.l3])
                      | succ k4 =>
                        have H := HA.out
                        clear HA
                        simp only [compeerref05_Block.l3] at H
                        by_cases c20 : x13_4 < 4
                        · rw [if_pos c20] at H
                          have c20b0 : decide (x13_4 < 4) = true := decide_eq_true c20
                          clear c20
                          obtain ⟨ji21, hji21⟩ : ∃ j_ : Int, (wrap64 ((wrap64 ((Int.tmod (wrap64 (x12_3 + x13_4)) 4) * 4)) + x13_4)) = j_ := ⟨_, rfl⟩
                          replace H : (if 0 ≤ (ji21) then (if (ji21) < (x8_2.length : Int) then (if 0 ≤ (rd x8_2 (ji21)) then (if (rd x8_2 (ji21)) < (l0.length : Int) then (if x11_4.length < 140737488355328 then (compeerref05_Block.l3 k4 l0 x7_2 x8_2 x10_2 (x11_4 ++ [rd l0 (rd x8_2 (ji21))]) x12_3 (wrap64 (x13_4 + 1))) else (none)) else (none)) else (none)) else (none)) else (none)) = some r := by first | (rw [hji21] at H; exact H) | (simp only [hji21] at H ⊢; exact H)
                          have hji21w : (IntKind.i64.wrap ((wrap64 ((Int.tmod (wrap64 (x12_3 + x13_4)) 4) * 4)) + x13_4)) = ji21 := (i64_w _).trans hji21
                          by_cases c22 : 0 ≤ (ji21)
                          · rw [if_pos c22] at H
                            have c22b0 : decide (0 ≤ (ji21)) = true := decide_eq_true c22
                            clear c22
                            by_cases c23 : (ji21) < (x8_2.length : Int)
                            · rw [if_pos c23] at H
                              have c23b0 : decide ((ji21) < (x8_2.length : Int)) = true := decide_eq_true c23
                              clear c23
                              by_cases c24 : 0 ≤ (rd x8_2 (ji21))
                              · rw [if_pos c24] at H
                                have c24b0 : decide (0 ≤ (rd x8_2 (ji21))) = true := decide_eq_true c24
                                clear c24
                                by_cases c25 : (rd x8_2 (ji21)) < (l0.length : Int)
                                · rw [if_pos c25] at H
                                  have c25b0 : decide ((rd x8_2 (ji21)) < (l0.length : Int)) = true := decide_eq_true c25
                                  clear c25
                                  by_cases c26 : x11_4.length < 140737488355328
                                  · rw [if_pos c26] at H
                                    have LMc26 := Aside0.mk c26
                                    clear c26
                                    obtain ⟨y305, hy305⟩ : ∃ y_ : List Int, y_ = (x11_4 ++ [rd l0 (rd x8_2 (ji21))]) := ⟨_, rfl⟩
                                    replace H : (compeerref05_Block.l3 k4 l0 x7_2 x8_2 x10_2 y305 x12_3 (wrap64 (x13_4 + 1))) = some r := by first | (rw [hy305]; with_reducible exact H) | (have H2_ := (Option.bind_some _ _).symm.trans H; rw [hy305]; with_reducible exact H2_) | (have H2_ := (Option.bind_some _ _).symm.trans H; with_reducible exact H2_) | with_reducible exact H | (rw [hy305]; exact H) | exact H
                                    have Ny305 := Aside0.mk hy305
                                    clear hy305
                                    have H' := Aside0.mk H
                                    clear H
                                    obtain ⟨Ao27, co27, eo27⟩ := Kd.R_slice HO_8.out
                                    subst eo27
                                    have p303 : 0 ≤ ((ji21) : Int) := of_decide_eq_true (by first | (with_reducible assumption) | assumption)
                                    have q303 : (ji21) < (x8_2.length : Int) := of_decide_eq_true (by first | (with_reducible assumption) | assumption)
                                    obtain ⟨ad303, e303, hx303_0⟩ := Kd.at_int (Kd.R_reads' HO_8.out).2.2 (ji21) p303 q303
                                    cases e303
                                    replace p303 := eq_true p303
                                    replace q303 := eq_true q303
                                    have p304 : 0 ≤ ((rd x8_2 (ji21)) : Int) := of_decide_eq_true (by first | (with_reducible assumption) | assumption)
                                    have q304 : (rd x8_2 (ji21)) < (l0.length : Int) := of_decide_eq_true (by first | (with_reducible assumption) | assumption)
                                    obtain ⟨ad304, e304, hx304_0⟩ := Kd.at_int HR0.out (rd x8_2 (ji21)) p304 q304
                                    cases e304
                                    replace hx304_0 := (HB.out.cell (World.block_lt_of_cell? w _ hx304_0)).trans hx304_0
                                    replace p304 := eq_true p304
                                    replace q304 := eq_true q304
                                    go_wp2_with (first | ((with_reducible refine gate_builtin (b := .append) (xs := #[.tmp 55, .tmp 69]) rfl ?_); at_builtin; refine Kd.R_append (Kd.int .u8) (w0 := w) w.heap.size rfl (.tmp 55) (.tmp 69) 23 5 (.int .u8 0) 1 rfl Tryd.underlying23 info5 rfl (by decide) (by omega) u11 x11_4 (rd l0 (rd x8_2 (ji21))) [.int .u8 (rd l0 (rd x8_2 (ji21)))] (fun k_ => some k_ ≠ (v290 : Value).ownBlock ∧ some k_ ≠ (.slice (some ad303) x8_2.length co27 : Value).ownBlock) (fun _ => False) rfl rfl ?aP (fun _ hk => hk.elim) ?aF ?aO ?aB ?aS ?aL ?_; (case aP => exact rfl); (case aB => exact (by repeat (first | (with_reducible first | exact HB.out | apply below_alloc | apply pw_below_drewN | apply below_drew1) | exact HB.out))); (case aF => exact (fun k_ hk => ⟨Kd.fresh' (Kd.R_lt (by (with_reducible repeat (first | apply Kd.R_alloc | apply Kd.R_drewN | apply Kd.R_drew)); exact HO_7.out)) k_ hk, Kd.fresh' (Kd.R_lt (by (with_reducible repeat (first | apply Kd.R_alloc | apply Kd.R_drewN | apply Kd.R_drew)); exact HO_8.out)) k_ hk⟩)); (case aO => exact (by (with_reducible repeat (first | apply Kd.R_alloc | apply Kd.R_drewN | apply Kd.R_drew)); exact HO_11.out)); (case aS => exact (below_size (by repeat (first | (with_reducible first | exact HB.out | apply below_alloc | apply pw_below_drewN | apply below_drew1) | exact HB.out)))); (case aL => have := LMc26.out; omega); intro v306 w28 ho hb hg hat; rw [← Ny305.out] at ho; have n0_ := Aside0.mk (Kd.R_after (ok := (fun k_ => some k_ ≠ (.slice (some ad303) x8_2.length co27 : Value).ownBlock)) (by (with_reducible repeat (first | apply Kd.R_alloc | apply Kd.R_drewN | apply Kd.R_drew)); exact HO_7.out) hg hat); have n1_ := Aside0.mk (Kd.R_after (ok := (fun k_ => some k_ ≠ (v290 : Value).ownBlock)) (by (with_reducible repeat (first | apply Kd.R_alloc | apply Kd.R_drewN | apply Kd.R_drew)); exact HO_8.out) hg hat); have n2_ := Aside0.mk (hb); have n3_ := Aside0.mk (ho); clear HO_7; clear HO_8; clear HB; clear HO_11; have HO_7 := n0_; have HO_8 := n1_; have HB := n2_; have HO307 := n3_; clear n0_ n1_ n2_ n3_; clear ho hb hg hat))
                                    go_roundg k4
                                    case measure => have := HK1.out; have := HK2.out; have := HK3.out; have := HK4.out; omega
                                    case rel => exact ⟨(y305), (wrap64 (x13_4 + 1)), (by first | rfl | (simp; done) | (simp [*]; done)), H', ⟨by have := HK1.out; have := HK2.out; have := HK3.out; have := HK4.out; omega⟩, ⟨by (with_reducible repeat (first | apply Kd.R_alloc | apply Kd.R_drewN | apply Kd.R_drew)); exact HO_7.out⟩, ⟨by (with_reducible repeat (first | apply Kd.R_alloc | apply Kd.R_drewN | apply Kd.R_drew)); exact HO_8.out⟩, ⟨by (with_reducible repeat (first | apply Kd.R_alloc | apply Kd.R_drewN | apply Kd.R_drew)); exact HO307.out⟩, ⟨by repeat (first | (with_reducible first | exact HB.out | apply below_alloc | apply pw_below_drewN | apply below_drew1) | exact HB.out)⟩⟩
                                  · rw [if_neg c26] at H
                                    exact absurd H (by simp)
                                · rw [if_neg c25] at H
                                  exact absurd H (by simp)
                              · rw [if_neg c24] at H
                                exact absurd H (by simp)
                            · rw [if_neg c23] at H
                              exact absurd H (by simp)
                          · rw [if_neg c22] at H
                            exact absurd H (by simp)
                        · rw [if_neg c20] at H
                          have c20b0 : decide (x13_4 < 4) = false := decide_eq_false c20
                          clear c20
                          have H' := Aside0.mk H
                          clear H
                          go_wp2
                          go_roundg k4
                          case measure => have := HK1.out; have := HK2.out; have := HK3.out; have := HK4.out; omega
                          case rel => exact ⟨(x11_4), (wrap64 (x12_3 + 1)), (by first | rfl | (simp; done) | (simp [*]; done)), H', ⟨by have := HK1.out; have := HK2.out; have := HK3.out; have := HK4.out; omega⟩, ⟨by (with_reducible repeat (first | apply Kd.R_alloc | apply Kd.R_drewN | apply Kd.R_drew)); exact HO_7.out⟩, ⟨by (with_reducible repeat (first | apply Kd.R_alloc | apply Kd.R_drewN | apply Kd.R_drew)); exact HO_8.out⟩, ⟨by (with_reducible repeat (first | apply Kd.R_alloc | apply Kd.R_drewN | apply Kd.R_drew)); exact HO_11.out⟩, ⟨by repeat (first | (with_reducible first | exact HB.out | apply below_alloc | apply pw_below_drewN | apply below_drew1) | exact HB.out)⟩⟩
                  · rw [if_neg c19] at H
                    have c19b0 : decide (x12_3 < 4) = false := decide_eq_false c19
                    clear c19
                    have HC29 := Aside0.mk H
                    clear H
                    go_upto_if 72 with (fail)
                    go_cut [11] (fun v11 wc => ∃ (kq : Nat) (x11_28 : List Int), Aside0 (compeerref05_Block.j6 kq l0 x7_2 x10_2 x11_28 = some r) ∧ Aside0 (kq ≤ k3) ∧ Aside0 (Kd.R (Kd.int .u8) 5 wc w.heap.size (fun k_ => some k_ ≠ (v11 : Value).ownBlock) v290 x7_2) ∧ Aside0 (Kd.R (Kd.int .u8) 5 wc w.heap.size (fun k_ => some k_ ≠ (v290 : Value).ownBlock) v11 x11_28) ∧ Aside0 (Below w.heap.size w wc))
                    case first =>
                      have H := HC29.out
                      clear HC29
                      by_cases c30 : x10_2 < 10
                      · rw [if_pos c30] at H
                        have c30b0 : decide (x10_2 < 10) = true := decide_eq_true c30
                        clear c30
                        (first | rw [c30b0] | (simp only [i64_w, i32_w]; rw [c30b0]) | skip)
                        obtain ⟨y308, hy308⟩ : ∃ y_ : List Int, y_ = (([] : List Int)) := ⟨_, rfl⟩
                        replace H : (compeerref05_Block.l4 k3 l0 x7_2 x10_2 x11_3 y308 0) = some r := by first | (rw [hy308]; with_reducible exact H) | (have H2_ := (Option.bind_some _ _).symm.trans H; rw [hy308]; with_reducible exact H2_) | (have H2_ := (Option.bind_some _ _).symm.trans H; with_reducible exact H2_) | with_reducible exact H | (rw [hy308]; exact H) | exact H
                        have Ny308 := Aside0.mk hy308
                        clear hy308
                        have H' := Aside0.mk H
                        clear H
                        go_wp2_with (first | ((with_reducible refine gate_dst (N := 73) rfl ?_); refine Kd.R_lit (Kd.int .u8) _ 5 ?hg (N := 73) ?hd (xs := ([] : List Int)) (inner := []) (ok := fun _ => True) (okp := fun _ => True) ?hr ?hp (fun _ hk => hk) trivial (Below.refl _ _) (Nat.le_refl _) (by simp) ?_; (case hd => rfl); (case hg => rfl); (case hr => first | (go_simp; done) | (go_simp; rfl)); (case hp => exact (Reps.none _ _)); intro v309 w31 ho32 hb hg_ hnew_; clear hg_ hnew_; (first | rw [← Ny308.out] at ho32 | (simp only [Int.reduceToNat] at ho32; rw [← Ny308.out] at ho32)); have n0_ := Aside0.mk (Kd.R_elder' (by (with_reducible repeat (first | apply Kd.R_alloc | apply Kd.R_drewN | apply Kd.R_drew)); exact HO_7.out) (Kd.R_base ho32) hb); have n1_ := Aside0.mk (Kd.R_elder' (by (with_reducible repeat (first | apply Kd.R_alloc | apply Kd.R_drewN | apply Kd.R_drew)); exact HO_8.out) (Kd.R_base ho32) hb); have n2_ := Aside0.mk (Kd.R_elder' (by (with_reducible repeat (first | apply Kd.R_alloc | apply Kd.R_drewN | apply Kd.R_drew)); exact HO_11.out) (Kd.R_base ho32) hb); have n3_ := Aside0.mk (Kd.R_lower (Kd.R_new' (Kd.R_new' (Kd.R_new' ho32 (Kd.R_lt (by (with_reducible repeat (first | apply Kd.R_alloc | apply Kd.R_drewN | apply Kd.R_drew)); exact HO_7.out))) (Kd.R_lt (by (with_reducible repeat (first | apply Kd.R_alloc | apply Kd.R_drewN | apply Kd.R_drew)); exact HO_8.out))) (Kd.R_lt (by (with_reducible repeat (first | apply Kd.R_alloc | apply Kd.R_drewN | apply Kd.R_drew)); exact HO_11.out))) (below_size (by repeat (first | (with_reducible first | exact HB.out | apply below_alloc | apply pw_below_drewN | apply below_drew1) | exact HB.out)))); have n4_ := Aside0.mk (below_step (by repeat (first | (with_reducible first | exact HB.out | apply below_alloc | apply pw_below_drewN | apply below_drew1) | exact HB.out)) hb); clear HO_7; clear HO_8; clear HO_11; clear HB; have HO_7 := n0_; have HO_8 := n1_; have HO_11 := n2_; have HO310 := n3_; have HB := n4_; clear n0_ n1_ n2_ n3_ n4_; clear hb ho32))
                        go_loopg [14, 15] k3 (fun kq v14 v15 w' => ∃ (x14_4 : List Int) (x15_4 : Int), v15 = .int .i64 x15_4 ∧ Aside0 (compeerref05_Block.l4 kq l0 x7_2 x10_2 x11_3 x14_4 x15_4 = some r) ∧ Aside0 (kq ≤ k3) ∧ Aside0 (Kd.R (Kd.int .u8) 5 w' w.heap.size (fun k_ => some k_ ≠ (u11 : Value).ownBlock ∧ some k_ ≠ (v14 : Value).ownBlock) v290 x7_2) ∧ Aside0 (Kd.R (Kd.int .u8) 5 w' w.heap.size (fun k_ => some k_ ≠ (v290 : Value).ownBlock ∧ some k_ ≠ (v14 : Value).ownBlock) u11 x11_3) ∧ Aside0 (Kd.R (Kd.int .u8) 5 w' w.heap.size (fun k_ => some k_ ≠ (v290 : Value).ownBlock ∧ some k_ ≠ (u11 : Value).ownBlock) v14 x14_4) ∧ Aside0 (Below w.heap.size w w'))
                        case atStart => exact ⟨(y308), (0), (by first | rfl | (simp; done) | (simp [*]; done)), H', ⟨Nat.le_refl _⟩, ⟨by (with_reducible repeat (first | apply Kd.R_alloc | apply Kd.R_drewN | apply Kd.R_drew)); exact Kd.R_mono HO_7.out (fun _ hk => ⟨hk.1.2, hk.2⟩)⟩, ⟨by (with_reducible repeat (first | apply Kd.R_alloc | apply Kd.R_drewN | apply Kd.R_drew)); exact Kd.R_mono HO_11.out (fun _ hk => ⟨hk.1.1, hk.2⟩)⟩, ⟨by (with_reducible repeat (first | apply Kd.R_alloc | apply Kd.R_drewN | apply Kd.R_drew)); exact Kd.R_mono HO310.out (fun _ hk => ⟨hk.1.1.2, hk.2⟩)⟩, ⟨by repeat (first | (with_reducible first | exact HB.out | apply below_alloc | apply pw_below_drewN | apply below_drew1) | exact HB.out)⟩⟩
                        case round =>
                          clear H'
                          try clear c1
                          try clear c2
                          try clear p2
                          try clear q2
                          try clear hx2
                          try clear c3
                          try clear p3
                          try clear q3
                          try clear hx3
                          try clear c4
                          try clear c5
                          try clear p6
                          try clear c8
                          try clear c8b0
                          try clear c9
                          try clear c9b0
                          try clear c10
                          try clear c10b0
                          try clear c11
                          try clear c11b0
                          try clear c12
                          try clear c16
                          try clear c16b0
                          try clear c19
                          try clear c19b0
                          try clear c20
                          try clear c20b0
                          try clear c22
                          try clear c22b0
                          try clear c23
                          try clear c23b0
                          try clear c24
                          try clear c24b0
                          try clear c25
                          try clear c25b0
                          try clear c26
                          try clear p29
                          try clear q29
                          try clear hx29
                          try clear c30
                          try clear c30b0
                          try clear p30
                          try clear q30
                          try clear hx30
                          try clear hx295_0
                          try clear hx296_0
                          try clear hx303_0
                          try clear hx304_0
                          try clear p2
                          try clear p295
                          try clear p296
                          try clear p303
                          try clear p304
                          try clear p6
                          try clear q2
                          try clear q295
                          try clear q296
                          try clear q303
                          try clear q304
                          obtain ⟨x14_4, x15_4, rfl, HA, HK4, HO_7, HO_11, HO_14, HB⟩ := hrel
                          cases gk with
                          | zero => exact absurd HA.out (by simp [compeerref05_Block.l4])
                          | succ k4 =>
                            have H := HA.out
                            clear HA
                            simp only [compeerref05_Block.l4] at H
                            by_cases c33 : x15_4 < 4
                            · rw [if_pos c33] at H
                              have c33b0 : decide (x15_4 < 4) = true := decide_eq_true c33
                              clear c33
                              have H' := Aside0.mk H
                              clear H
                              go_wp2
                              go_loopg [14, 16] k4 (fun kq v14 v16 w' => ∃ (x14_5 : List Int) (x16_5 : Int), v16 = .int .i64 x16_5 ∧ Aside0 (compeerref05_Block.l5 kq l0 x7_2 x10_2 x11_3 x14_5 x15_4 x16_5 = some r) ∧ Aside0 (kq ≤ k4) ∧ Aside0 (Kd.R (Kd.int .u8) 5 w' w.heap.size (fun k_ => some k_ ≠ (u11 : Value).ownBlock ∧ some k_ ≠ (v14 : Value).ownBlock) v290 x7_2) ∧ Aside0 (Kd.R (Kd.int .u8) 5 w' w.heap.size (fun k_ => some k_ ≠ (v290 : Value).ownBlock ∧ some k_ ≠ (v14 : Value).ownBlock) u11 x11_3) ∧ Aside0 (Kd.R (Kd.int .u8) 5 w' w.heap.size (fun k_ => some k_ ≠ (v290 : Value).ownBlock ∧ some k_ ≠ (u11 : Value).ownBlock) v14 x14_5) ∧ Aside0 (Below w.heap.size w w'))
                              case atStart => exact ⟨(x14_4), (0), (by first | rfl | (simp; done) | (simp [*]; done)), H', ⟨Nat.le_refl _⟩, ⟨by (with_reducible repeat (first | apply Kd.R_alloc | apply Kd.R_drewN | apply Kd.R_drew)); exact HO_7.out⟩, ⟨by (with_reducible repeat (first | apply Kd.R_alloc | apply Kd.R_drewN | apply Kd.R_drew)); exact HO_11.out⟩, ⟨by (with_reducible repeat (first | apply Kd.R_alloc | apply Kd.R_drewN | apply Kd.R_drew)); exact HO_14.out⟩, ⟨by repeat (first | (with_reducible first | exact HB.out | apply below_alloc | apply pw_below_drewN | apply below_drew1) | exact HB.out)⟩⟩
                              case round =>
                                clear H'
                                try clear c1
                                try clear c2
                                try clear p2
                                try clear q2
                                try clear hx2
                                try clear c3
                                try clear p3
                                try clear q3
                                try clear hx3
                                try clear c4
                                try clear c5
                                try clear p6
                                try clear c8
                                try clear c8b0
                                try clear c9
                                try clear c9b0
                                try clear c10
                                try clear c10b0
                                try clear c11
                                try clear c11b0
                                try clear c12
                                try clear c16
                                try clear c16b0
                                try clear c19
                                try clear c19b0
                                try clear c20
                                try clear c20b0
                                try clear c22
                                try clear c22b0
                                try clear c23
                                try clear c23b0
                                try clear c24
                                try clear c24b0
                                try clear c25
                                try clear c25b0
                                try clear c26
                                try clear p29
                                try clear q29
                                try clear hx29
                                try clear c30
                                try clear c30b0
                                try clear p30
                                try clear q30
                                try clear hx30
                                try clear c33
                                try clear c33b0
                                try clear hx295_0
                                try clear hx296_0
                                try clear hx303_0
                                try clear hx304_0
                                try clear p2
                                try clear p29
                                try clear p295
                                try clear p296
                                try clear p3
                                try clear p30
                                try clear p303
                                try clear p304
                                try clear p6
                                try clear q2
                                try clear q29
                                try clear q295
                                try clear q296
                                try clear q3
                                try clear q30
                                try clear q303
                                try clear q304
                                obtain ⟨x14_5, x16_5, rfl, HA, HK5, HO_7, HO_11, HO_14, HB⟩ := hrel
                                cases gk with
                                | zero => exact absurd HA.out (by simp [compeerref05_Block.l5])
                                | succ k5 =>
                                  have H := HA.out
                                  clear HA
                                  simp only [compeerref05_Block.l5] at H
                                  by_cases c34 : x16_5 < 4
                                  · rw [if_pos c34] at H
                                    have c34b0 : decide (x16_5 < 4) = true := decide_eq_true c34
                                    clear c34
                                    obtain ⟨ji35, hji35⟩ : ∃ j_ : Int, (wrap64 ((wrap64 (x15_4 * 4)) + x16_5)) = j_ := ⟨_, rfl⟩
                                    replace H : (if 0 ≤ (ji35) then (if (ji35) < (x11_3.length : Int) then (if 0 ≤ (wrap64 ((wrap64 (x15_4 * 4)) + (Int.tmod (wrap64 (x16_5 + 1)) 4))) then (if (wrap64 ((wrap64 (x15_4 * 4)) + (Int.tmod (wrap64 (x16_5 + 1)) 4))) < (x11_3.length : Int) then (if 0 ≤ (wrap64 ((wrap64 (x15_4 * 4)) + (Int.tmod (wrap64 (x16_5 + 2)) 4))) then (if (wrap64 ((wrap64 (x15_4 * 4)) + (Int.tmod (wrap64 (x16_5 + 2)) 4))) < (x11_3.length : Int) then (if 0 ≤ (wrap64 ((wrap64 (x15_4 * 4)) + (Int.tmod (wrap64 (x16_5 + 3)) 4))) then (if (wrap64 ((wrap64 (x15_4 * 4)) + (Int.tmod (wrap64 (x16_5 + 3)) 4))) < (x11_3.length : Int) then ((compeerref05_Product.f k5 2 (rd x11_3 (ji35))).bind fun t315 => ((compeerref05_Product.f k5 3 (rd x11_3 (wrap64 ((wrap64 (x15_4 * 4)) + (Int.tmod (wrap64 (x16_5 + 1)) 4))))).bind fun t316 => (if x14_5.length < 140737488355328 then (compeerref05_Block.l5 k5 l0 x7_2 x10_2 x11_3 (x14_5 ++ [Go.bits .xor .u8 (Go.bits .xor .u8 (Go.bits .xor .u8 t315 t316) (rd x11_3 (wrap64 ((wrap64 (x15_4 * 4)) + (Int.tmod (wrap64 (x16_5 + 2)) 4))))) (rd x11_3 (wrap64 ((wrap64 (x15_4 * 4)) + (Int.tmod (wrap64 (x16_5 + 3)) 4))))]) x15_4 (wrap64 (x16_5 + 1))) else (none)))) else (none)) else (none)) else (none)) else (none)) else (none)) else (none)) else (none)) else (none)) = some r := by first | (rw [hji35] at H; exact H) | (simp only [hji35] at H ⊢; exact H)
                                    have hji35w : (IntKind.i64.wrap ((wrap64 (x15_4 * 4)) + x16_5)) = ji35 := (i64_w _).trans hji35
                                    by_cases c36 : 0 ≤ (ji35)
                                    · rw [if_pos c36] at H
                                      have c36b0 : decide (0 ≤ (ji35)) = true := decide_eq_true c36
                                      clear c36
                                      by_cases c37 : (ji35) < (x11_3.length : Int)
                                      · rw [if_pos c37] at H
                                        have c37b0 : decide ((ji35) < (x11_3.length : Int)) = true := decide_eq_true c37
                                        clear c37
                                        obtain ⟨ji38, hji38⟩ : ∃ j_ : Int, (wrap64 ((wrap64 (x15_4 * 4)) + (Int.tmod (wrap64 (x16_5 + 1)) 4))) = j_ := ⟨_, rfl⟩
                                        replace H : (if 0 ≤ (ji38) then (if (ji38) < (x11_3.length : Int) then (if 0 ≤ (wrap64 ((wrap64 (x15_4 * 4)) + (Int.tmod (wrap64 (x16_5 + 2)) 4))) then (if (wrap64 ((wrap64 (x15_4 * 4)) + (Int.tmod (wrap64 (x16_5 + 2)) 4))) < (x11_3.length : Int) then (if 0 ≤ (wrap64 ((wrap64 (x15_4 * 4)) + (Int.tmod (wrap64 (x16_5 + 3)) 4))) then (if (wrap64 ((wrap64 (x15_4 * 4)) + (Int.tmod (wrap64 (x16_5 + 3)) 4))) < (x11_3.length : Int) then ((compeerref05_Product.f k5 2 (rd x11_3 (ji35))).bind fun t315 => ((compeerref05_Product.f k5 3 (rd x11_3 (ji38))).bind fun t316 => (if x14_5.length < 140737488355328 then (compeerref05_Block.l5 k5 l0 x7_2 x10_2 x11_3 (x14_5 ++ [Go.bits .xor .u8 (Go.bits .xor .u8 (Go.bits .xor .u8 t315 t316) (rd x11_3 (wrap64 ((wrap64 (x15_4 * 4)) + (Int.tmod (wrap64 (x16_5 + 2)) 4))))) (rd x11_3 (wrap64 ((wrap64 (x15_4 * 4)) + (Int.tmod (wrap64 (x16_5 + 3)) 4))))]) x15_4 (wrap64 (x16_5 + 1))) else (none)))) else (none)) else (none)) else (none)) else (none)) else (none)) else (none)) = some r := by first | (rw [hji38] at H; exact H) | (simp only [hji38] at H ⊢; exact H)
                                        have hji38w : (IntKind.i64.wrap ((wrap64 (x15_4 * 4)) + (Int.tmod (wrap64 (x16_5 + 1)) 4))) = ji38 := (i64_w _).trans hji38
                                        by_cases c39 : 0 ≤ (ji38)
                                        · rw [if_pos c39] at H
                                          have c39b0 : decide (0 ≤ (ji38)) = true := decide_eq_true c39
                                          clear c39
                                          by_cases c40 : (ji38) < (x11_3.length : Int)
                                          · rw [if_pos c40] at H
                                            have c40b0 : decide ((ji38) < (x11_3.length : Int)) = true := decide_eq_true c40
                                            clear c40
                                            obtain ⟨ji41, hji41⟩ : ∃ j_ : Int, (wrap64 ((wrap64 (x15_4 * 4)) + (Int.tmod (wrap64 (x16_5 + 2)) 4))) = j_ := ⟨_, rfl⟩
                                            replace H : (if 0 ≤ (ji41) then (if (ji41) < (x11_3.length : Int) then (if 0 ≤ (wrap64 ((wrap64 (x15_4 * 4)) + (Int.tmod (wrap64 (x16_5 + 3)) 4))) then (if (wrap64 ((wrap64 (x15_4 * 4)) + (Int.tmod (wrap64 (x16_5 + 3)) 4))) < (x11_3.length : Int) then ((compeerref05_Product.f k5 2 (rd x11_3 (ji35))).bind fun t315 => ((compeerref05_Product.f k5 3 (rd x11_3 (ji38))).bind fun t316 => (if x14_5.length < 140737488355328 then (compeerref05_Block.l5 k5 l0 x7_2 x10_2 x11_3 (x14_5 ++ [Go.bits .xor .u8 (Go.bits .xor .u8 (Go.bits .xor .u8 t315 t316) (rd x11_3 (ji41))) (rd x11_3 (wrap64 ((wrap64 (x15_4 * 4)) + (Int.tmod (wrap64 (x16_5 + 3)) 4))))]) x15_4 (wrap64 (x16_5 + 1))) else (none)))) else (none)) else (none)) else (none)) else (none)) = some r := by first | (rw [hji41] at H; exact H) | (simp only [hji41] at H ⊢; exact H)
                                            have hji41w : (IntKind.i64.wrap ((wrap64 (x15_4 * 4)) + (Int.tmod (wrap64 (x16_5 + 2)) 4))) = ji41 := (i64_w _).trans hji41
                                            by_cases c42 : 0 ≤ (ji41)
                                            · rw [if_pos c42] at H
                                              have c42b0 : decide (0 ≤ (ji41)) = true := decide_eq_true c42
                                              clear c42
                                              by_cases c43 : (ji41) < (x11_3.length : Int)
                                              · rw [if_pos c43] at H
                                                have c43b0 : decide ((ji41) < (x11_3.length : Int)) = true := decide_eq_true c43
                                                clear c43
                                                obtain ⟨ji44, hji44⟩ : ∃ j_ : Int, (wrap64 ((wrap64 (x15_4 * 4)) + (Int.tmod (wrap64 (x16_5 + 3)) 4))) = j_ := ⟨_, rfl⟩
                                                replace H : (if 0 ≤ (ji44) then (if (ji44) < (x11_3.length : Int) then ((compeerref05_Product.f k5 2 (rd x11_3 (ji35))).bind fun t315 => ((compeerref05_Product.f k5 3 (rd x11_3 (ji38))).bind fun t316 => (if x14_5.length < 140737488355328 then (compeerref05_Block.l5 k5 l0 x7_2 x10_2 x11_3 (x14_5 ++ [Go.bits .xor .u8 (Go.bits .xor .u8 (Go.bits .xor .u8 t315 t316) (rd x11_3 (ji41))) (rd x11_3 (ji44))]) x15_4 (wrap64 (x16_5 + 1))) else (none)))) else (none)) else (none)) = some r := by first | (rw [hji44] at H; exact H) | (simp only [hji44] at H ⊢; exact H)
                                                have hji44w : (IntKind.i64.wrap ((wrap64 (x15_4 * 4)) + (Int.tmod (wrap64 (x16_5 + 3)) 4))) = ji44 := (i64_w _).trans hji44
                                                by_cases c45 : 0 ≤ (ji44)
                                                · rw [if_pos c45] at H
                                                  have c45b0 : decide (0 ≤ (ji44)) = true := decide_eq_true c45
                                                  clear c45
                                                  by_cases c46 : (ji44) < (x11_3.length : Int)
                                                  · rw [if_pos c46] at H
                                                    have c46b0 : decide ((ji44) < (x11_3.length : Int)) = true := decide_eq_true c46
                                                    clear c46
                                                    replace H := Option.bind_eq_some_iff.mp H
                                                    obtain ⟨t315, A470, H⟩ := H
                                                    replace H : ((compeerref05_Product.f k5 3 (rd x11_3 (ji38))).bind fun t316 => (if x14_5.length < 140737488355328 then (compeerref05_Block.l5 k5 l0 x7_2 x10_2 x11_3 (x14_5 ++ [Go.bits .xor .u8 (Go.bits .xor .u8 (Go.bits .xor .u8 t315 t316) (rd x11_3 (ji41))) (rd x11_3 (ji44))]) x15_4 (wrap64 (x16_5 + 1))) else (none))) = some r := H
                                                    have A47 := Aside0.mk A470
                                                    clear A470
                                                    replace H := Option.bind_eq_some_iff.mp H
                                                    obtain ⟨t316, A480, H⟩ := H
                                                    replace H : (if x14_5.length < 140737488355328 then (compeerref05_Block.l5 k5 l0 x7_2 x10_2 x11_3 (x14_5 ++ [Go.bits .xor .u8 (Go.bits .xor .u8 (Go.bits .xor .u8 t315 t316) (rd x11_3 (ji41))) (rd x11_3 (ji44))]) x15_4 (wrap64 (x16_5 + 1))) else (none)) = some r := H
                                                    have A48 := Aside0.mk A480
                                                    clear A480
                                                    by_cases c49 : x14_5.length < 140737488355328
                                                    · rw [if_pos c49] at H
                                                      have LMc49 := Aside0.mk c49
                                                      clear c49
                                                      obtain ⟨y317, hy317⟩ : ∃ y_ : List Int, y_ = (x14_5 ++ [Go.bits .xor .u8 (Go.bits .xor .u8 (Go.bits .xor .u8 t315 t316) (rd x11_3 (ji41))) (rd x11_3 (ji44))]) := ⟨_, rfl⟩
                                                      replace H : (compeerref05_Block.l5 k5 l0 x7_2 x10_2 x11_3 y317 x15_4 (wrap64 (x16_5 + 1))) = some r := by first | (rw [hy317]; with_reducible exact H) | (have H2_ := (Option.bind_some _ _).symm.trans H; rw [hy317]; with_reducible exact H2_) | (have H2_ := (Option.bind_some _ _).symm.trans H; with_reducible exact H2_) | with_reducible exact H | (rw [hy317]; exact H) | exact H
                                                      have Ny317 := Aside0.mk hy317
                                                      clear hy317
                                                      have H' := Aside0.mk H
                                                      clear H
                                                      obtain ⟨Ao50, co50, eo50⟩ := Kd.R_slice HO_11.out
                                                      subst eo50
                                                      have p311 : 0 ≤ ((ji35) : Int) := of_decide_eq_true (by first | (with_reducible assumption) | assumption)
                                                      have q311 : (ji35) < (x11_3.length : Int) := of_decide_eq_true (by first | (with_reducible assumption) | assumption)
                                                      obtain ⟨ad311, e311, hx311_0⟩ := Kd.at_int (Kd.R_reads' HO_11.out).2.2 (ji35) p311 q311
                                                      cases e311
                                                      replace p311 := eq_true p311
                                                      replace q311 := eq_true q311
                                                      have p312 : 0 ≤ ((ji38) : Int) := of_decide_eq_true (by first | (with_reducible assumption) | assumption)
                                                      have q312 : (ji38) < (x11_3.length : Int) := of_decide_eq_true (by first | (with_reducible assumption) | assumption)
                                                      obtain ⟨ad312, e312, hx312_0⟩ := Kd.at_int (Kd.R_reads' HO_11.out).2.2 (ji38) p312 q312
                                                      obtain rfl : ad311 = ad312 := (by injection e312)
                                                      replace p312 := eq_true p312
                                                      replace q312 := eq_true q312
                                                      have p313 : 0 ≤ ((ji41) : Int) := of_decide_eq_true (by first | (with_reducible assumption) | assumption)
                                                      have q313 : (ji41) < (x11_3.length : Int) := of_decide_eq_true (by first | (with_reducible assumption) | assumption)
                                                      obtain ⟨ad313, e313, hx313_0⟩ := Kd.at_int (Kd.R_reads' HO_11.out).2.2 (ji41) p313 q313
                                                      obtain rfl : ad311 = ad313 := (by injection e313)
                                                      replace p313 := eq_true p313
                                                      replace q313 := eq_true q313
                                                      have p314 : 0 ≤ ((ji44) : Int) := of_decide_eq_true (by first | (with_reducible assumption) | assumption)
                                                      have q314 : (ji44) < (x11_3.length : Int) := of_decide_eq_true (by first | (with_reducible assumption) | assumption)
                                                      obtain ⟨ad314, e314, hx314_0⟩ := Kd.at_int (Kd.R_reads' HO_11.out).2.2 (ji44) p314 q314
                                                      obtain rfl : ad311 = ad314 := (by injection e314)
                                                      replace p314 := eq_true p314
                                                      replace q314 := eq_true q314
                                                      go_wp2_with (first | ((with_reducible refine gate_callee (f := 55) rfl ?_); refine goesL_ (some 118) rfl rfl Tryd.func55 (by kernel_rfl) rfl #[.int .u8 2, .int .u8 (rd x11_3 (ji35))] rfl (by (try simp only [List.map_toArray, List.map_cons, List.map_nil]); first | done | (simp only [hji35]; rfl) | rfl | (simp only [List.length_drop, List.length_take]; rfl)) ?_; (with_reducible refine (compeerref05_Product.calls k5 2 (rd x11_3 (ji35)) t315 _ A47.out).mono ?_); rintro e w' ⟨rfl, ⟨nd, rfl⟩⟩; refine ⟨_, rfl, ?_⟩) | ((with_reducible refine gate_callee (f := 55) rfl ?_); refine goesL_ (some 120) rfl rfl Tryd.func55 (by kernel_rfl) rfl #[.int .u8 3, .int .u8 (rd x11_3 (ji38))] rfl (by (try simp only [List.map_toArray, List.map_cons, List.map_nil]); first | done | (simp only [hji38]; rfl) | rfl | (simp only [List.length_drop, List.length_take]; rfl)) ?_; (with_reducible refine (compeerref05_Product.calls k5 3 (rd x11_3 (ji38)) t316 _ A48.out).mono ?_); rintro e w' ⟨rfl, ⟨nd, rfl⟩⟩; refine ⟨_, rfl, ?_⟩) | ((with_reducible refine gate_builtin (b := .append) (xs := #[.tmp 116, .tmp 126]) rfl ?_); at_builtin; refine Kd.R_append (Kd.int .u8) (w0 := w) w.heap.size rfl (.tmp 116) (.tmp 126) 23 5 (.int .u8 0) 1 rfl Tryd.underlying23 info5 rfl (by decide) (by omega) u14 x14_5 (Go.bits .xor .u8 (Go.bits .xor .u8 (Go.bits .xor .u8 t315 t316) (rd x11_3 (ji41))) (rd x11_3 (ji44))) [.int .u8 (Go.bits .xor .u8 (Go.bits .xor .u8 (Go.bits .xor .u8 t315 t316) (rd x11_3 (ji41))) (rd x11_3 (ji44)))] (fun k_ => some k_ ≠ (v290 : Value).ownBlock ∧ some k_ ≠ (.slice (some ad311) x11_3.length co50 : Value).ownBlock) (fun _ => False) rfl rfl ?aP (fun _ hk => hk.elim) ?aF ?aO ?aB ?aS ?aL ?_; (case aP => exact rfl); (case aB => exact (by repeat (first | (with_reducible first | exact HB.out | apply below_alloc | apply pw_below_drewN | apply below_drew1) | exact HB.out))); (case aF => exact (fun k_ hk => ⟨Kd.fresh' (Kd.R_lt (by (with_reducible repeat (first | apply Kd.R_alloc | apply Kd.R_drewN | apply Kd.R_drew)); exact HO_7.out)) k_ hk, Kd.fresh' (Kd.R_lt (by (with_reducible repeat (first | apply Kd.R_alloc | apply Kd.R_drewN | apply Kd.R_drew)); exact HO_11.out)) k_ hk⟩)); (case aO => exact (by (with_reducible repeat (first | apply Kd.R_alloc | apply Kd.R_drewN | apply Kd.R_drew)); exact HO_14.out)); (case aS => exact (below_size (by repeat (first | (with_reducible first | exact HB.out | apply below_alloc | apply pw_below_drewN | apply below_drew1) | exact HB.out)))); (case aL => have := LMc49.out; omega); intro v318 w51 ho hb hg hat; rw [← Ny317.out] at ho; have n0_ := Aside0.mk (Kd.R_after (ok := (fun k_ => some k_ ≠ (.slice (some ad311) x11_3.length co50 : Value).ownBlock)) (by (with_reducible repeat (first | apply Kd.R_alloc | apply Kd.R_drewN | apply Kd.R_drew)); exact HO_7.out) hg hat); have n1_ := Aside0.mk (Kd.R_after (ok := (fun k_ => some k_ ≠ (v290 : Value).ownBlock)) (by (with_reducible repeat (first | apply Kd.R_alloc | apply Kd.R_drewN | apply Kd.R_drew)); exact HO_11.out) hg hat); have n2_ := Aside0.mk (hb); have n3_ := Aside0.mk (ho); clear HO_7; clear HO_11; clear HB; clear HO_14; have HO_7 := n0_; have HO_11 := n1_; have HB := n2_; have HO319 := n3_; clear n0_ n1_ n2_ n3_; clear ho hb hg hat))
                                                      go_roundg k5
                                                      case measure => have := HK1.out; have := HK2.out; have := HK3.out; have := HK4.out; have := HK5.out; omega
                                                      case rel => exact ⟨(y317), (wrap64 (x16_5 + 1)), (by first | rfl | (simp; done) | (simp [*]; done)), H', ⟨by have := HK1.out; have := HK2.out; have := HK3.out; have := HK4.out; have := HK5.out; omega⟩, ⟨by (with_reducible repeat (first | apply Kd.R_alloc | apply Kd.R_drewN | apply Kd.R_drew)); exact HO_7.out⟩, ⟨by (with_reducible repeat (first | apply Kd.R_alloc | apply Kd.R_drewN | apply Kd.R_drew)); exact HO_11.out⟩, ⟨by (with_reducible repeat (first | apply Kd.R_alloc | apply Kd.R_drewN | apply Kd.R_drew)); exact HO319.out⟩, ⟨by repeat (first | (with_reducible first | exact HB.out | apply below_alloc | apply pw_below_drewN | apply below_drew1) | exact HB.out)⟩⟩
                                                    · rw [if_neg c49] at H
                                                      exact absurd H (by simp)
                                                  · rw [if_neg c46] at H
                                                    exact absurd H (by simp)
                                                · rw [if_neg c45] at H
                                                  exact absurd H (by simp)
                                              · rw [if_neg c43] at H
                                                exact absurd H (by simp)
                                            · rw [if_neg c42] at H
                                              exact absurd H (by simp)
                                          · rw [if_neg c40] at H
                                            exact absurd H (by simp)
                                        · rw [if_neg c39] at H
                                          exact absurd H (by simp)
                                      · rw [if_neg c37] at H
                                        exact absurd H (by simp)
                                    · rw [if_neg c36] at H
                                      exact absurd H (by simp)
                                  · rw [if_neg c34] at H
                                    have c34b0 : decide (x16_5 < 4) = false := decide_eq_false c34
                                    clear c34
                                    have H' := Aside0.mk H
                                    clear H
                                    go_wp2
                                    go_roundg k5
                                    case measure => have := HK1.out; have := HK2.out; have := HK3.out; have := HK4.out; have := HK5.out; omega
                                    case rel => exact ⟨(x14_5), (wrap64 (x15_4 + 1)), (by first | rfl | (simp; done) | (simp [*]; done)), H', ⟨by have := HK1.out; have := HK2.out; have := HK3.out; have := HK4.out; have := HK5.out; omega⟩, ⟨by (with_reducible repeat (first | apply Kd.R_alloc | apply Kd.R_drewN | apply Kd.R_drew)); exact HO_7.out⟩, ⟨by (with_reducible repeat (first | apply Kd.R_alloc | apply Kd.R_drewN | apply Kd.R_drew)); exact HO_11.out⟩, ⟨by (with_reducible repeat (first | apply Kd.R_alloc | apply Kd.R_drewN | apply Kd.R_drew)); exact HO_14.out⟩, ⟨by repeat (first | (with_reducible first | exact HB.out | apply below_alloc | apply pw_below_drewN | apply below_drew1) | exact HB.out)⟩⟩
                            · rw [if_neg c33] at H
                              have c33b0 : decide (x15_4 < 4) = false := decide_eq_false c33
                              clear c33
                              have H' := Aside0.mk H
                              clear H
                              go_wp2
                              go_meet
                              case rel => exact ⟨_, (x14_4), H', ⟨by have := HK1.out; have := HK2.out; have := HK3.out; have := HK4.out; first | omega | exact Nat.le_refl _⟩, ⟨by (with_reducible repeat (first | apply Kd.R_alloc | apply Kd.R_drewN | apply Kd.R_drew)); exact Kd.R_mono HO_7.out (fun _ hk => hk.2)⟩, ⟨by (with_reducible repeat (first | apply Kd.R_alloc | apply Kd.R_drewN | apply Kd.R_drew)); exact Kd.R_mono HO_14.out (fun _ hk => hk.1)⟩, ⟨by repeat (first | (with_reducible first | exact HB.out | apply below_alloc | apply pw_below_drewN | apply below_drew1) | exact HB.out)⟩⟩
                      · rw [if_neg c30] at H
                        have c30b0 : decide (x10_2 < 10) = false := decide_eq_false c30
                        clear c30
                        (first | rw [c30b0] | (simp only [i64_w, i32_w]; rw [c30b0]) | skip)
                        have H' := Aside0.mk H
                        clear H
                        go_wp2
                        go_meet
                        case rel => exact ⟨_, (x11_3), H', ⟨by have := HK1.out; have := HK2.out; have := HK3.out; first | omega | exact Nat.le_refl _⟩, ⟨by (with_reducible repeat (first | apply Kd.R_alloc | apply Kd.R_drewN | apply Kd.R_drew)); exact Kd.R_mono HO_7.out (fun _ hk => hk.2)⟩, ⟨by (with_reducible repeat (first | apply Kd.R_alloc | apply Kd.R_drewN | apply Kd.R_drew)); exact Kd.R_mono HO_11.out (fun _ hk => hk.1)⟩, ⟨by repeat (first | (with_reducible first | exact HB.out | apply below_alloc | apply pw_below_drewN | apply below_drew1) | exact HB.out)⟩⟩
                    case rest =>
                      clear HC29
                      try clear c1
                      try clear c2
                      try clear p2
                      try clear q2
                      try clear hx2
                      try clear c3
                      try clear p3
                      try clear q3
                      try clear hx3
                      try clear c4
                      try clear c5
                      try clear p6
                      try clear c8
                      try clear c8b0
                      try clear c9
                      try clear c9b0
                      try clear c10
                      try clear c10b0
                      try clear c11
                      try clear c11b0
                      try clear c12
                      try clear c16
                      try clear c16b0
                      try clear c19
                      try clear c19b0
                      try clear c20
                      try clear c20b0
                      try clear c22
                      try clear c22b0
                      try clear c23
                      try clear c23b0
                      try clear c24
                      try clear c24b0
                      try clear c25
                      try clear c25b0
                      try clear c26
                      try clear p29
                      try clear q29
                      try clear hx29
                      try clear c30
                      try clear c30b0
                      try clear p30
                      try clear q30
                      try clear hx30
                      try clear p31
                      try clear q31
                      try clear hx31
                      try clear c33
                      try clear c33b0
                      try clear c34
                      try clear c34b0
                      try clear c36
                      try clear c36b0
                      try clear c37
                      try clear c37b0
                      try clear c39
                      try clear c39b0
                      try clear c40
                      try clear c40b0
                      try clear c42
                      try clear c42b0
                      try clear c43
                      try clear c43b0
                      try clear c45
                      try clear c45b0
                      try clear c46
                      try clear c46b0
                      try clear c49
                      try clear hx295_0
                      try clear hx296_0
                      try clear hx303_0
                      try clear hx304_0
                      try clear hx311_0
                      try clear hx312_0
                      try clear hx313_0
                      try clear hx314_0
                      try clear p2
                      try clear p29
                      try clear p295
                      try clear p296
                      try clear p3
                      try clear p30
                      try clear p303
                      try clear p304
                      try clear p311
                      try clear p312
                      try clear p313
                      try clear p314
                      try clear p6
                      try clear q2
                      try clear q29
                      try clear q295
                      try clear q296
                      try clear q3
                      try clear q30
                      try clear q303
                      try clear q304
                      try clear q311
                      try clear q312
                      try clear q313
                      try clear q314
                      obtain ⟨kq, x11_28, HA, HJ28, HO_7, HO_11, HB⟩ := hcut
                      cases kq with
                      | zero => exact absurd HA.out (by simp [compeerref05_Block.j6])
                      | succ kj28 =>
                        have H := HA.out
                        clear HA
                        simp only [compeerref05_Block.j6] at H
                        have H' := Aside0.mk H
                        clear H
                        go_wp2
                        go_loopg [21] kj28 (fun kq v21 w' => ∃ (x11_5 : List Int) (x21_5 : Int), v21 = .int .i64 x21_5 ∧ Aside0 (compeerref05_Block.l6 kq l0 x7_2 x10_2 x11_5 x21_5 = some r) ∧ Aside0 (kq ≤ kj28) ∧ Aside0 (Kd.R (Kd.int .u8) 5 w' w.heap.size (fun k_ => some k_ ≠ (u11 : Value).ownBlock) v290 x7_2) ∧ Aside0 (Kd.R (Kd.int .u8) 5 w' w.heap.size (fun k_ => some k_ ≠ (v290 : Value).ownBlock) u11 x11_5) ∧ Aside0 (Below w.heap.size w w'))
                        case atStart => exact ⟨(x11_28), (0), (by first | rfl | (simp; done) | (simp [*]; done)), H', ⟨Nat.le_refl _⟩, ⟨by (with_reducible repeat (first | apply Kd.R_alloc | apply Kd.R_drewN | apply Kd.R_drew)); exact HO_7.out⟩, ⟨by (with_reducible repeat (first | apply Kd.R_alloc | apply Kd.R_drewN | apply Kd.R_drew)); exact HO_11.out⟩, ⟨by repeat (first | (with_reducible first | exact HB.out | apply below_alloc | apply pw_below_drewN | apply below_drew1) | exact HB.out)⟩⟩
                        case round =>
                          clear H'
                          try clear c1
                          try clear c2
                          try clear p2
                          try clear q2
                          try clear hx2
                          try clear c3
                          try clear p3
                          try clear q3
                          try clear hx3
                          try clear c4
                          try clear c5
                          try clear p6
                          try clear c8
                          try clear c8b0
                          try clear c9
                          try clear c9b0
                          try clear c10
                          try clear c10b0
                          try clear c11
                          try clear c11b0
                          try clear c12
                          try clear c16
                          try clear c16b0
                          try clear c19
                          try clear c19b0
                          try clear c20
                          try clear c20b0
                          try clear c22
                          try clear c22b0
                          try clear c23
                          try clear c23b0
                          try clear c24
                          try clear c24b0
                          try clear c25
                          try clear c25b0
                          try clear c26
                          try clear p29
                          try clear q29
                          try clear hx29
                          try clear c30
                          try clear c30b0
                          try clear p30
                          try clear q30
                          try clear hx30
                          try clear p31
                          try clear q31
                          try clear hx31
                          try clear c33
                          try clear c33b0
                          try clear c34
                          try clear c34b0
                          try clear c36
                          try clear c36b0
                          try clear c37
                          try clear c37b0
                          try clear c39
                          try clear c39b0
                          try clear c40
                          try clear c40b0
                          try clear c42
                          try clear c42b0
                          try clear c43
                          try clear c43b0
                          try clear c45
                          try clear c45b0
                          try clear c46
                          try clear c46b0
                          try clear c49
                          try clear hx295_0
                          try clear hx296_0
                          try clear hx303_0
                          try clear hx304_0
                          try clear hx311_0
                          try clear hx312_0
                          try clear hx313_0
                          try clear hx314_0
                          try clear p2
                          try clear p29
                          try clear p295
                          try clear p296
                          try clear p3
                          try clear p30
                          try clear p303
                          try clear p304
                          try clear p31
                          try clear p311
                          try clear p312
                          try clear p313
                          try clear p314
                          try clear p6
                          try clear q2
                          try clear q29
                          try clear q295
                          try clear q296
                          try clear q3
                          try clear q30
                          try clear q303
                          try clear q304
                          try clear q31
                          try clear q311
                          try clear q312
                          try clear q313
                          try clear q314
                          obtain ⟨x11_5, x21_5, rfl, HA, HK5, HO_7, HO_11, HB⟩ := hrel
                          cases gk with
                          | zero => exact absurd HA.out (by simp [compeerref05_Block.l6])
                          | succ k5 =>
                            have H := HA.out
                            clear HA
                            simp only [compeerref05_Block.l6] at H
                            by_cases c52 : x21_5 < 16
                            · rw [if_pos c52] at H
                              have c52b0 : decide (x21_5 < 16) = true := decide_eq_true c52
                              clear c52
                              by_cases c53 : 0 ≤ x21_5
                              · rw [if_pos c53] at H
                                have c53b0 : decide (0 ≤ x21_5) = true := decide_eq_true c53
                                clear c53
                                by_cases c54 : x21_5 < (x11_5.length : Int)
                                · rw [if_pos c54] at H
                                  have c54b0 : decide (x21_5 < (x11_5.length : Int)) = true := decide_eq_true c54
                                  clear c54
                                  obtain ⟨ji55, hji55⟩ : ∃ j_ : Int, (wrap64 ((wrap64 (16 * x10_2)) + x21_5)) = j_ := ⟨_, rfl⟩
                                  replace H : (if 0 ≤ (ji55) then (if (ji55) < (x7_2.length : Int) then (compeerref05_Block.l6 k5 l0 x7_2 x10_2 (x11_5.set (x21_5 : Int).toNat (Go.bits .xor .u8 (rd x11_5 x21_5) (rd x7_2 (ji55)))) (wrap64 (x21_5 + 1))) else (none)) else (none)) = some r := by first | (rw [hji55] at H; exact H) | (simp only [hji55] at H ⊢; exact H)
                                  have hji55w : (IntKind.i64.wrap ((wrap64 (16 * x10_2)) + x21_5)) = ji55 := (i64_w _).trans hji55
                                  by_cases c56 : 0 ≤ (ji55)
                                  · rw [if_pos c56] at H
                                    have c56b0 : decide (0 ≤ (ji55)) = true := decide_eq_true c56
                                    clear c56
                                    by_cases c57 : (ji55) < (x7_2.length : Int)
                                    · rw [if_pos c57] at H
                                      have c57b0 : decide ((ji55) < (x7_2.length : Int)) = true := decide_eq_true c57
                                      clear c57
                                      obtain ⟨y322, hy322⟩ : ∃ y_ : List Int, y_ = (x11_5.set (x21_5 : Int).toNat (Go.bits .xor .u8 (rd x11_5 x21_5) (rd x7_2 (ji55)))) := ⟨_, rfl⟩
                                      replace H : (compeerref05_Block.l6 k5 l0 x7_2 x10_2 y322 (wrap64 (x21_5 + 1))) = some r := by first | (rw [hy322]; with_reducible exact H) | (have H2_ := (Option.bind_some _ _).symm.trans H; rw [hy322]; with_reducible exact H2_) | (have H2_ := (Option.bind_some _ _).symm.trans H; with_reducible exact H2_) | with_reducible exact H | (rw [hy322]; exact H) | exact H
                                      have Ny322 := Aside0.mk hy322
                                      clear hy322
                                      have H' := Aside0.mk H
                                      clear H
                                      try go_wp2
                                      have n0_ := Aside0.mk (Kd.R_drew HO_7.out)
                                      have n1_ := Aside0.mk (Kd.R_drew HO_11.out)
                                      have n2_ := Aside0.mk (below_drew1 HB.out)
                                      clear HO_7
                                      clear HO_11
                                      clear HB
                                      have HO_7 := n0_
                                      have HO_11 := n1_
                                      have HB := n2_
                                      clear n0_ n1_ n2_
                                      obtain ⟨Ao60, co60, eo60⟩ := Kd.R_slice HO_11.out
                                      (first | subst eo60 | (injection eo60 with f1_ f2_ f3_; have f4_ := f1_.symm; have f5_ := f3_.symm; clear f1_ f2_ f3_; subst f4_; subst f5_))
                                      have p320 : 0 ≤ (x21_5 : Int) := of_decide_eq_true (by first | (with_reducible assumption) | assumption)
                                      have q320 : x21_5 < (x11_5.length : Int) := of_decide_eq_true (by first | (with_reducible assumption) | assumption)
                                      obtain ⟨ad320, e320, hx320_0⟩ := Kd.at_int (Kd.R_reads' HO_11.out).2.2 x21_5 p320 q320
                                      cases e320
                                      replace p320 := eq_true p320
                                      replace q320 := eq_true q320
                                      obtain ⟨Ao61, co61, eo61⟩ := Kd.R_slice HO_7.out
                                      (first | subst eo61 | (injection eo61 with f1_ f2_ f3_; have f4_ := f1_.symm; have f5_ := f3_.symm; clear f1_ f2_ f3_; subst f4_; subst f5_))
                                      have p321 : 0 ≤ ((ji55) : Int) := of_decide_eq_true (by first | (with_reducible assumption) | assumption)
                                      have q321 : (ji55) < (x7_2.length : Int) := of_decide_eq_true (by first | (with_reducible assumption) | assumption)
                                      obtain ⟨ad321, e321, hx321_0⟩ := Kd.at_int (Kd.R_reads' HO_7.out).2.2 (ji55) p321 q321
                                      cases e321
                                      replace p321 := eq_true p321
                                      replace q321 := eq_true q321
                                      have p58 : 0 ≤ (x21_5 : Int) := of_decide_eq_true (by first | (with_reducible assumption) | assumption)
                                      have q58 : (x21_5 : Int) < ((x11_5.length : Int) : Int) := of_decide_eq_true (by first | (with_reducible assumption) | assumption)
                                      obtain ⟨go58, co58, eo58, gb58, gl58, cl58, HG58⟩ := Kd.R_form HO_11.out (by omega)
                                      (first | cases eo58 | (injection eo58 with ea_ en_ ec_; (first | subst ea_ | (injection ea_ with ea_; subst ea_)); subst ec_; clear en_))
                                      have GB58 := Aside0.mk gb58
                                      have GG58 := Aside0.mk HG58
                                      clear gb58 gl58 HG58
                                      (first | simp only [add_plain] at hx320_0 | skip)
                                      obtain ⟨hx58_0, hf58_0⟩ := Kd.R_celln 0 HO_11.out (x21_5 : Int) p58 q58
                                      replace p58 := eq_true p58
                                      replace q58 := eq_true q58
                                      have HP62 := Kd.R_putn HO_11.out (x21_5 : Int) (Go.bits .xor .u8 (rd x11_5 x21_5) (rd x7_2 (ji55)))
                                      rw [← Ny322.out] at HP62
                                      have HQ62 := Aside0.mk HP62
                                      clear HP62
                                      refine start_ (n := 16) (S := fun w' => w'.cell? ⟨go58, (x21_5).toNat, none⟩ = some (.int .u8 (rd x11_5 x21_5)) ∧ w'.cell? (ad321.add ((ji55)).toNat) = some (.int .u8 (rd x7_2 (ji55)))) (ds := [15]) #[false, false, false, false, false, false, false, false, false, false, false, false, false, false, false, false] (by kernel_rfl) rfl rfl ⟨hx320_0, hx321_0⟩ (fun hHeld => ?_); refine with_tabW compeerref05_Block.tab35 compeerref05_Block.bits35 (fun HT_ HW_ => ?_)
                                      generalize wr.drew = w59 at HO_7 HO_11 HB GG58 HQ62 hf58_0 hx320_0 hx321_0 hx58_0 hHeld ⊢
                                      refine pure_ (i := 0) (N := some 133) (v := ?_) (a' := ?_) #[true, false, false, false, false, false, false, false, false, false, false, false, false, false, false, false] rfl rfl (any_of HT_.out (by kernel_rfl)) (fun _ _ _ h => h) (Or.inl ⟨by rfl, ?_⟩) ?_ ?_
                                      rotate_left
                                      · intro w'
                                        go_simp
                                        with_reducible rfl
                                      rotate_left
                                      · simp only [Act.put, List.setIfInBounds_toArray, List.set_cons_zero, List.set_cons_succ, i64_w, i32_w]
                                        rfl
                                      refine pure_ (i := 1) (N := some 134) (v := ?_) (a' := ?_) #[true, true, false, false, false, false, false, false, false, false, false, false, false, false, false, false] rfl rfl (any_of HT_.out (by kernel_rfl)) (fun _ _ _ h => h) (Or.inl ⟨by rfl, ?_⟩) ?_ ?_
                                      rotate_left
                                      · intro w'
                                        go_simp
                                        with_reducible rfl
                                      rotate_left
                                      · simp only [Act.put, List.setIfInBounds_toArray, List.set_cons_zero, List.set_cons_succ, i64_w, i32_w]
                                        rfl
                                      refine pure_ (i := 2) (N := some 135) (v := ?_) (a' := ?_) #[true, true, true, false, false, false, false, false, false, false, false, false, false, false, false, false] rfl rfl (any_of HT_.out (by kernel_rfl)) (fun _ _ _ h => h) (Or.inl ⟨by rfl, ?_⟩) ?_ ?_
                                      rotate_left
                                      · intro w'
                                        go_simp
                                        with_reducible rfl
                                      rotate_left
                                      · simp only [Act.put, List.setIfInBounds_toArray, List.set_cons_zero, List.set_cons_succ, i64_w, i32_w]
                                        rfl
                                      refine pure_ (i := 3) (N := some 136) (v := ?_) (a' := ?_) #[true, true, true, true, false, false, false, false, false, false, false, false, false, false, false, false] rfl rfl (any_of HT_.out (by kernel_rfl)) (fun _ _ _ h => h) (Or.inl ⟨by rfl, ?_⟩) ?_ ?_
                                      rotate_left
                                      · intro w'
                                        go_simp
                                        with_reducible rfl
                                      rotate_left
                                      · simp only [Act.put, List.setIfInBounds_toArray, List.set_cons_zero, List.set_cons_succ, i64_w, i32_w]
                                        rfl
                                      refine pure_ (i := 4) (N := some 137) (v := ?_) (a' := ?_) #[true, true, true, true, true, false, false, false, false, false, false, false, false, false, false, false] rfl rfl (any_of HT_.out (by kernel_rfl)) (fun _ _ _ h => h) (Or.inl ⟨by rfl, ?_⟩) ?_ ?_
                                      rotate_left
                                      · intro w'
                                        go_simp
                                        with_reducible rfl
                                      rotate_left
                                      · simp only [Act.put, List.setIfInBounds_toArray, List.set_cons_zero, List.set_cons_succ, i64_w, i32_w]
                                        rfl
                                      refine pure_ (i := 6) (N := some 139) (v := ?_) (a' := ?_) #[true, true, true, true, true, false, true, false, false, false, false, false, false, false, false, false] rfl rfl (any_of HT_.out (by kernel_rfl)) (fun _ _ _ h => h) (Or.inl ⟨by rfl, ?_⟩) ?_ ?_
                                      rotate_left
                                      · intro w'
                                        go_simp
                                        with_reducible rfl
                                      rotate_left
                                      · simp only [Act.put, List.setIfInBounds_toArray, List.set_cons_zero, List.set_cons_succ, i64_w, i32_w]
                                        rfl
                                      refine pure_ (i := 7) (N := some 140) (v := ?_) (a' := ?_) #[true, true, true, true, true, false, true, true, false, false, false, false, false, false, false, false] rfl rfl (any_of HT_.out (by kernel_rfl)) (fun _ _ _ h => h) (Or.inl ⟨by rfl, ?_⟩) ?_ ?_
                                      rotate_left
                                      · intro w'
                                        go_simp
                                        with_reducible rfl
                                      rotate_left
                                      · simp only [Act.put, List.setIfInBounds_toArray, List.set_cons_zero, List.set_cons_succ, i64_w, i32_w]
                                        rfl
                                      refine pure_ (i := 8) (N := some 141) (v := ?_) (a' := ?_) #[true, true, true, true, true, false, true, true, true, false, false, false, false, false, false, false] rfl rfl (any_of HT_.out (by kernel_rfl)) (fun _ _ _ h => h) (Or.inl ⟨by rfl, ?_⟩) ?_ ?_
                                      rotate_left
                                      · intro w'
                                        go_simp
                                        with_reducible rfl
                                      rotate_left
                                      · simp only [Act.put, List.setIfInBounds_toArray, List.set_cons_zero, List.set_cons_succ, i64_w, i32_w]
                                        rfl
                                      refine pure_ (i := 9) (N := some 142) (v := ?_) (a' := ?_) #[true, true, true, true, true, false, true, true, true, true, false, false, false, false, false, false] rfl rfl (any_of HT_.out (by kernel_rfl)) (fun _ _ _ h => h) (Or.inl ⟨by rfl, ?_⟩) ?_ ?_
                                      rotate_left
                                      · intro w'
                                        go_simp
                                        with_reducible rfl
                                      rotate_left
                                      · simp only [Act.put, List.setIfInBounds_toArray, List.set_cons_zero, List.set_cons_succ, i64_w, i32_w]
                                        rfl
                                      refine pure_ (i := 10) (N := some 143) (v := ?_) (a' := ?_) #[true, true, true, true, true, false, true, true, true, true, true, false, false, false, false, false] rfl rfl (any_of HT_.out (by kernel_rfl)) (fun _ _ _ h => h) (Or.inl ⟨by rfl, ?_⟩) ?_ ?_
                                      rotate_left
                                      · intro w'
                                        go_simp
                                        with_reducible rfl
                                      rotate_left
                                      · simp only [Act.put, List.setIfInBounds_toArray, List.set_cons_zero, List.set_cons_succ, i64_w, i32_w]
                                        rfl
                                      refine pure_ (i := 11) (N := some 144) (v := ?_) (a' := ?_) #[true, true, true, true, true, false, true, true, true, true, true, true, false, false, false, false] rfl rfl (any_of HT_.out (by kernel_rfl)) (fun _ _ _ h => h) (Or.inl ⟨by rfl, ?_⟩) ?_ ?_
                                      rotate_left
                                      · intro w'
                                        go_simp
                                        with_reducible rfl
                                      rotate_left
                                      · simp only [Act.put, List.setIfInBounds_toArray, List.set_cons_zero, List.set_cons_succ, i64_w, i32_w]
                                        rfl
                                      refine take_ (i := 5) (N := some 138) (v := ?_) (a' := ?_) #[true, true, true, true, true, true, true, true, true, true, true, true, false, false, false, false] rfl rfl (take_ofW HT_.out HW_.out (by kernel_rfl)) (fun _ _ _ h => h) (Or.inl ⟨by rfl, ?_⟩) hHeld ?_ ?_
                                      rotate_left
                                      · rintro w' ⟨s0, s1⟩
                                        go_simp
                                        with_reducible rfl
                                      rotate_left
                                      · simp only [Act.put, List.setIfInBounds_toArray, List.set_cons_zero, List.set_cons_succ, i64_w, i32_w]
                                        rfl
                                      refine take_ (i := 12) (N := some 145) (v := ?_) (a' := ?_) #[true, true, true, true, true, true, true, true, true, true, true, true, true, false, false, false] rfl rfl (take_ofW HT_.out HW_.out (by kernel_rfl)) (fun _ _ _ h => h) (Or.inl ⟨by rfl, ?_⟩) hHeld ?_ ?_
                                      rotate_left
                                      · rintro w' ⟨s0, s1⟩
                                        go_simp
                                        with_reducible rfl
                                      rotate_left
                                      · simp only [Act.put, List.setIfInBounds_toArray, List.set_cons_zero, List.set_cons_succ, i64_w, i32_w]
                                        rfl
                                      refine pure_ (i := 13) (N := some 146) (v := ?_) (a' := ?_) #[true, true, true, true, true, true, true, true, true, true, true, true, true, true, false, false] rfl rfl (any_of HT_.out (by kernel_rfl)) (fun _ _ _ h => h) (Or.inl ⟨by rfl, ?_⟩) ?_ ?_
                                      rotate_left
                                      · intro w'
                                        go_simp
                                        with_reducible rfl
                                      rotate_left
                                      · simp only [Act.put, List.setIfInBounds_toArray, List.set_cons_zero, List.set_cons_succ, i64_w, i32_w]
                                        rfl
                                      refine pure_ (i := 14) (N := some 147) (v := ?_) (a' := ?_) #[true, true, true, true, true, true, true, true, true, true, true, true, true, true, true, false] rfl rfl (any_of HT_.out (by kernel_rfl)) (fun _ _ _ h => h) (Or.inl ⟨by rfl, ?_⟩) ?_ ?_
                                      rotate_left
                                      · intro w'
                                        go_simp
                                        with_reducible rfl
                                      rotate_left
                                      · simp only [Act.put, List.setIfInBounds_toArray, List.set_cons_zero, List.set_cons_succ, i64_w, i32_w]
                                        rfl
                                      refine last_ (i := 15) (N := none) #[true, true, true, true, true, true, true, true, true, true, true, true, true, true, true, true] rfl rfl (one_of HT_.out (by kernel_rfl)) (by decide) (fun K hK => ?_)
                                      refine skip_ (w1 := ?_) (by rfl) rfl ?_ ?_
                                      rotate_left
                                      · go_simp
                                        rfl
                                      refine hK.out _ _ ?_
                                      clear hK K
                                      refine done_ (done_of HT_.out (by kernel_rfl)) ?_
                                      try go_wp2
                                      go_roundg k5
                                      case measure => have := HK1.out; have := HK2.out; have := HK3.out; have := HJ28.out; have := HK5.out; omega
                                      case rel => exact ⟨(y322), (wrap64 (x21_5 + 1)), (by first | rfl | (simp; done) | (simp [*]; done)), H', ⟨by have := HK1.out; have := HK2.out; have := HK3.out; have := HJ28.out; have := HK5.out; omega⟩, ⟨by (with_reducible repeat (first | apply Kd.R_alloc | apply Kd.R_drewN | apply Kd.R_drew)); exact Kd.R_mono (Kd.R_far (p := ⟨go58, (x21_5 : Int).toNat, none⟩) (Kd.R_mono HO_7.out (fun k_ hk => (⟨hk, fun e_ => hk (by rw [e_]; rfl)⟩ : _ ∧ k_ ≠ go58))) (fun _ hk => hk.2) (.int .u8 (Go.bits .xor .u8 (rd x11_5 x21_5) (rd x7_2 (ji55))))) (fun _ hk => hk.1)⟩, ⟨by (with_reducible repeat (first | apply Kd.R_alloc | apply Kd.R_drewN | apply Kd.R_drew)); exact HQ62.out⟩, ⟨by repeat (first | (with_reducible first | exact HB.out | apply below_alloc | apply pw_below_drewN | apply below_drew1 | refine below_set ?_ GB58.out) | exact HB.out)⟩⟩
                                    · rw [if_neg c57] at H
                                      exact absurd H (by simp)
                                  · rw [if_neg c56] at H
                                    exact absurd H (by simp)
                                · rw [if_neg c54] at H
                                  exact absurd H (by simp)
                              · rw [if_neg c53] at H
                                exact absurd H (by simp)
                            · rw [if_neg c52] at H
                              have c52b0 : decide (x21_5 < 16) = false := decide_eq_false c52
                              clear c52
                              have H' := Aside0.mk H
                              clear H
                              go_wp2
                              go_roundg k5
                              case measure => have := HK1.out; have := HK2.out; have := HK3.out; have := HJ28.out; have := HK5.out; omega
                              case rel => exact ⟨(x7_2), (x11_5), (wrap64 (x10_2 + 1)), (by first | rfl | (simp; done) | (simp [*]; done)), H', ⟨by have := HK1.out; have := HK2.out; have := HK3.out; have := HJ28.out; have := HK5.out; omega⟩, ⟨by (with_reducible repeat (first | apply Kd.R_alloc | apply Kd.R_drewN | apply Kd.R_drew)); exact HO_7.out⟩, ⟨by (with_reducible repeat (first | apply Kd.R_alloc | apply Kd.R_drewN | apply Kd.R_drew)); exact HO_11.out⟩, ⟨by repeat (first | (with_reducible first | exact HB.out | apply below_alloc | apply pw_below_drewN | apply below_drew1) | exact HB.out)⟩⟩
            · rw [if_neg c16] at H
              have c16b0 : decide (x10_2 ≤ 10) = false := decide_eq_false c16
              clear c16
              obtain rfl := Option.some.inj H
              go_wp2
              go_ret
              exact ⟨_, by first | rfl | (simp [errW_none, errW_some] <;> rfl) | (simp [*, errW_none, errW_some] <;> rfl), by (with_reducible repeat (first | apply Kd.R_alloc | apply Kd.R_drewN | apply Kd.R_drew)); exact Kd.R_mono HO_8.out (fun _ hk => trivial), by repeat (first | (with_reducible first | exact HB.out | apply below_alloc | apply pw_below_drewN | apply below_drew1) | exact HB.out)⟩

end Go.Proofs.YtejhjlfakfaegaaDoor.PSealOpens
