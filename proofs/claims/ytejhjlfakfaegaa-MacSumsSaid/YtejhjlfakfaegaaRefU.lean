/- The reference's above, cube. -/
import Derived.Test.YtejhjlfakfaegaaRefT
set_option linter.unusedSimpArgs false
set_option linter.unusedVariables false
namespace Go.Proofs.Ytejhjlfakfaegaa
open Go.RowKit Go.Proofs.YtejhjlfakfaegaaW.PrintWords

def cmpM (p q : List Int) : Nat → Bool
  | 0 => false
  | k + 1 => if nt p k = nt q k then cmpM p q k else decide (nt q k < nt p k)
def limbs (y : Int) : List Int := [y % 262144, y / 262144]
def wantM (n : Int) : List Int := [0, 0, 0, 0, 0, n * 64 % 262144, n * 64 / 262144]
def aboveM (y n : Int) : Bool := cmpM (timesM (timesM (limbs y) (limbs y)) (limbs y)) (wantM n) 9
theorem reads_own {w : World} {base : Nat} {e : TypeId} {k : IntKind} {A : Option Addr} {n c : Nat} {xs : List Int} (h : w.ownsRow base e 1 (.slice A n c) n (nums k xs)) : ReadsInt w k A n xs := q_reads (q_of_own h)
theorem limbs_w (y : Int) (h0 : 0 ≤ y) (h1 : y < 1099511627776) : ∀ x ∈ limbs y, W64 x := by
  intro x hx
  simp only [limbs, List.mem_cons, List.not_mem_nil, or_false] at hx
  unfold W64
  rcases hx with rfl | rfl <;> omega
theorem two_reads {W : World} {g : Nat} {k : IntKind} {x y : Int} {T : TypeId} (h : W.heap[g]? = some (.cells #[.int k x, .int k y] T (0, 0))) : ReadsInt W k (some ⟨g, 0, none⟩) 2 [x, y] := by
  refine ⟨rfl, by omega, fun _ => ⟨_, rfl, fun j hj => ?_⟩⟩
  rw [add_plain, blk_cell h]
  match j, hj with
  | 0, _ => rfl
  | 1, _ => rfl
theorem own_alloc' {w : World} {base : Nat} {e : TypeId} {size n : Nat} {v : Value} {xs : List Value} (h : w.ownsRow base e size v n xs) (o : Obj) : (w.alloc o).ownsRow base e size v n xs := own_weaken (h.alloc o) (Nat.le_refl _)
theorem cmp_yes (p q : List Int) (k : Nat) (h : nt p k = nt q k) : cmpM p q (k + 1) = cmpM p q k := by simp [cmpM, h]
theorem cmp_no (p q : List Int) (k : Nat) (h : ¬ nt p k = nt q k) : cmpM p q (k + 1) = decide (nt q k < nt p k) := by simp [cmpM, h]
set_option maxHeartbeats 1000000 in
set_option maxRecDepth 100000 in
theorem above_any (y n : Int) (w : World) (h0 : 0 ≤ y) (h1 : y < 1099511627776) (n0 : 0 ≤ n) (n1 : n < 100000) :
    Calls Try.prog 39 #[.int .u64 y, .int .u64 n] w fun e w' => e = .returned (.bool (aboveM y n)) ∧ Below w.heap.size w w' := by
  have HL : Hid (ReadsInt (w.alloc (.cells #[.int .u64 (y % 262144), .int .u64 (y / 262144)] 44)) .u64 (some ⟨w.heap.size, 0, none⟩) 2 (limbs y)) := two_reads (heap_alloc_new w _)
  have HLW := Lib.hid (limbs_w y h0 h1)
  have HT1 := Lib.hid (times_any _ _ 2 2 2 2 _ _ _ HL.out HL.out (by omega) (by omega) (by omega) HLW.out HLW.out)
  have HC0 : Hid (Ch (fun _ => False) w (w.alloc (.cells #[.int .u64 (y % 262144), .int .u64 (y / 262144)] 44))) := (Ch.refl _ _).alloc _
  go_enter Try.func39, Try.ntmps39
  go_wp2_with (first
    | (go_at_call 47; with_reducible refine (HT1.out).mono ?_; rintro e w1 ⟨v, rfl, ho, hb⟩; obtain ⟨A1, c1, rfl⟩ := own_slice ho; have HO1 := Lib.hid ho; have HB1 := Lib.hid hb; have HT2 := Lib.hid (times_any _ _ c1 2 4 2 _ _ _ (reads_own HO1.out) (Ch.reads (S := fun _ => False) (Ch.of_below HB1.out) HL.out (fun _ _ h => h)) (by omega) (by omega) (by omega) (timesM_w _ _) HLW.out); clear ho hb)
    | (go_at_call 47; with_reducible refine (HT2.out).mono ?_; rintro e w2 ⟨v, rfl, ho, hb⟩; obtain ⟨A2, c2, rfl⟩ := own_slice ho; have HO2 := Lib.hid ho; have HB2 := Lib.hid hb; clear ho hb))
  have HAB : Hid (aboveM y n = cmpM (timesM (timesM (limbs y) (limbs y)) (limbs y)) (wantM n) 9) := Lib.hid rfl
  obtain ⟨w3, hw3⟩ : ∃ w3 : World, w3 = w2.alloc (.cells (nums .u64 (wantM n)).toArray 44) := ⟨_, rfl⟩
  have HR1 : Hid (ReadsInt w3 .u64 A2 6 (timesM (timesM (limbs y) (limbs y)) (limbs y))) := by rw [hw3]; exact reads_own (own_alloc' HO2.out _)
  have HR2 : Hid (ReadsInt w3 .u64 (some ⟨w2.heap.size, 0, none⟩) 7 (wantM n)) := by rw [hw3]; exact reads_own (own_lit w2 0 44 .u64 (wantM n) (by omega) (by simp [wantM]))
  have HC3 : Hid (Ch (fun _ => False) w w3) := by rw [hw3]; exact Ch.alloc ((HC0.out.trans (Ch.of_below HB1.out)).trans (Ch.of_below HB2.out)) _
  have HW3 := Lib.hid hw3
  clear hw3 HT1 HT2 HO1 HO2 HB1 HB2 HC0 HL HLW
  generalize timesM (timesM (limbs y) (limbs y)) (limbs y) = AM at *
  go_loopw [9, 10, 11] (fun i _ _ wr => ∃ q : Nat, q ≤ 9 ∧ i = .int .i64 ((q : Int) - 1) ∧ cmpM AM (wantM n) 9 = cmpM AM (wantM n) q ∧ Ch (fun _ => False) w3 wr) (fun i _ _ _ => (intOf i + 1).toNat)
  case atStart => exact ⟨9, by omega, rfl, rfl, by rw [HW3.out]; exact Ch.refl _ _⟩
  case round =>
    obtain ⟨q, hq, rfl, hcm, hC⟩ := hrel
    have HCM := Lib.hid (HAB.out.trans hcm)
    have HC := Lib.hid hC
    have HCM0 := Lib.hid hcm
    clear hcm hC HAB
    rcases q with _ | p
    · rw [show (((0 : Nat) : Int) - 1) = -1 from rfl]
      go_wp2
      go_ret
      exact ⟨by rw [HCM.out]; rfl, (HC3.out.trans HC.out).below⟩
    · rw [show (((p + 1 : Nat) : Int) - 1) = (p : Int) by omega]
      have HX1 := Lib.hid (at_any A2 6 c2 p AM wr (HC.out.reads HR1.out (fun _ _ h => h)) (by omega) (by omega))
      have HX2 := Lib.hid (at_any (some ⟨w2.heap.size, 0, none⟩) 7 7 p (wantM n) wr (HC.out.reads HR2.out (fun _ _ h => h)) (by omega) (by omega))
      have hy := Lib.hid (cmp_yes AM (wantM n) p)
      have hno := Lib.hid (cmp_no AM (wantM n) p)
      generalize nt AM p = a at *
      generalize nt (wantM n) p = b at *
      by_cases hab : a = b
      · have HEQ := Lib.hid hab
        have hb1 : (a != b) = false := by simp [hab]
        clear hab
        go_wp2_with (first
          | (go_at_call 48; with_reducible refine (HX1.out).mono ?_; rintro e w' ⟨rfl, rfl⟩)
          | (go_at_call 48; with_reducible refine (HX2.out).mono ?_; rintro e w' ⟨rfl, rfl⟩))
        go_roundw
        case rel => exact ⟨p, by omega, by go_num, by rw [HCM0.out]; exact hy.out HEQ.out, HC.out⟩
        case measure => simp [intOf]
      · have hb1 : (a != b) = true := by simp [hab]
        go_wp2_with (first
          | (go_at_call 48; with_reducible refine (HX1.out).mono ?_; rintro e w' ⟨rfl, rfl⟩)
          | (go_at_call 48; with_reducible refine (HX2.out).mono ?_; rintro e w' ⟨rfl, rfl⟩))
        go_ret
        exact ⟨by rw [HCM.out, hno.out hab]; rfl, (HC3.out.trans HC.out).below⟩
end Go.Proofs.Ytejhjlfakfaegaa
