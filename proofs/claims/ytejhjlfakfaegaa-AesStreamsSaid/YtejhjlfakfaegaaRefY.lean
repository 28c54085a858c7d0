/- The reference's box and boxes: the walk. -/
import Derived.Test.YtejhjlfakfaegaaRefX
import Derived.Test.YtejhjlfakfaegaaRefW
import Derived.Test.YtejhjlfakfaegaaBase
set_option linter.unusedSimpArgs false
set_option linter.unusedVariables false
namespace Go.Proofs.Ytejhjlfakfaegaa
open Go.RowKit Go.Proofs.YtejhjlfakfaegaaW.PrintWords Go.Proofs.Ytejhjlfakfaegaa.PAesStreams

theorem powF_b (b : Nat) : ∀ n, powF b n < 256
  | 0 => by show 1 < 256; decide
  | n + 1 => by
    rw [powF, force_eq, prN]
    obtain ⟨r, hr, hb⟩ := pf_some 23 (powF b n) b
    rw [hr]
    show r.toNat < 256
    unfold B8 at hb
    omega
theorem powF_step (b : Nat) (n : Nat) : compeerref05_Product.f 40 (powF b n) b = some (powF b (n + 1) : Int) := by
  rw [powF, force_eq, prN]
  obtain ⟨r, hr, hb⟩ := pf_some 23 (powF b n) b
  rw [hr]
  show some r = some ((r.toNat : Nat) : Int)
  unfold B8 at hb
  congr 1
  omega
theorem bitTo_b (x : Int) (k : Nat) : ∀ j, 0 ≤ bitTo x k j ∧ bitTo x k j ≤ j
  | 0 => ⟨Int.le_refl 0, Int.le_refl 0⟩
  | j + 1 => by
    have := bitTo_b x k j
    rw [bitTo]
    omega
theorem outM_b (x : Int) : ∀ k, B8 (outM x k)
  | 0 => ⟨Int.le_refl 0, by show (0 : Int) < 256; decide⟩
  | k + 1 => by unfold B8; rw [outM]; omega
set_option maxRecDepth 100000 in
set_option maxHeartbeats 2000000 in
theorem box5_any (b : Nat) (w : World) (hb : b < 256) :
    Calls Try.prog 30 #[.int .u8 (b : Int)] w fun e w' => e = .returned (.int .u8 (sbx b)) ∧ ∃ m, w' = w.drewN m := by
  have HFIN := Lib.hid (box_all b hb)
  go_enter Try.func30, Try.ntmps30
  go_wp2
  go_loopw [3, 4] (fun x i wr => ∃ n m : Nat, n ≤ 254 ∧ i = .int .i64 n ∧ x = .int .u8 (powF b n : Nat) ∧ wr = w.drewN m) (fun _ i _ => (254 - intOf i).toNat)
  case atStart => exact ⟨0, 0, by omega, rfl, rfl, rfl⟩
  case round =>
    obtain ⟨n, m, hn, rfl, rfl, rfl⟩ := hrel
    by_cases hlt : n < 254
    · have HS := Lib.hid (powF_step b n)
      generalize hgy : powF b (n + 1) = y at *
      have HGY := Lib.hid hgy
      clear hgy
      go_wp2_with (go_at_call 41; refine (compeerref05_Product.calls 40 (powF b n : Nat) b y _ HS.out).mono ?_; rintro e w2 ⟨rfl, m2, rfl⟩)
      exact ⟨⟨n + 1, _, by omega, by go_num, by rw [HGY.out], rfl⟩, by simp [intOf]; omega⟩
    · obtain rfl : n = 254 := by omega
      have hX : powF b 254 < 256 := powF_b b 254
      have hOB := outM_b ((powF b 254 : Nat) : Int)
      have hBB := bitTo_b ((powF b 254 : Nat) : Int)
      have hx0 : (0 : Int) ≤ (powF b 254 : Nat) := by omega
      have hx1 : ((powF b 254 : Nat) : Int) < 256 := by omega
      generalize ((powF b 254 : Nat) : Int) = X at *
      clear hX
      have HOB := Lib.hid hOB
      have HBB := Lib.hid hBB
      clear hOB hBB
      rw [show ((254 : Nat) : Int) = 254 from rfl]
      go_wp2
      go_loop [5, 6] (fun o i => ∃ k : Nat, k ≤ 8 ∧ i = .int .i64 k ∧ o = .int .u8 (outM X k)) (fun _ i => (8 - intOf i).toNat)
      case atStart => exact ⟨0, by omega, rfl, rfl⟩
      case round =>
        obtain ⟨k, hk, rfl, rfl⟩ := hrel
        by_cases hk8 : k < 8
        · have hkl : k = 0 ∨ k = 1 ∨ k = 2 ∨ k = 3 ∨ k = 4 ∨ k = 5 ∨ k = 6 ∨ k = 7 := by omega
          obtain ⟨o0, o1⟩ := HOB.out k
          generalize hgo : outM X k = O at *
          have HGO := Lib.hid hgo
          clear hgo
          obtain ⟨kk, hkk⟩ : ∃ kk, kk = k := ⟨_, rfl⟩
          have HKK := Lib.hid hkk
          clear hkk
          rcases hkl with rfl | rfl | rfl | rfl | rfl | rfl | rfl | rfl
          all_goals
            go_wp2
            go_loop [7, 8] (fun t i => ∃ j : Nat, j ≤ 5 ∧ i = .int .i64 j ∧ t = .int .i64 (bitTo X kk j)) (fun _ i => (5 - intOf i).toNat)
            case atStart => exact ⟨0, by omega, rfl, rfl⟩
            case round =>
              obtain ⟨j, hj, rfl, rfl⟩ := hrel
              obtain ⟨t0, t1⟩ := HBB.out kk j
              by_cases hj5 : j < 5
              · have hst : bitTo X kk (j + 1) = bitTo X kk j + X / 2 ^ ((kk + 8 - j) % 8) % 2 := rfl
                have HST := Lib.hid hst
                clear hst
                have hjl : j = 0 ∨ j = 1 ∨ j = 2 ∨ j = 3 ∨ j = 4 := by omega
                generalize bitTo X kk j = T at *
                rcases hjl with rfl | rfl | rfl | rfl | rfl
                all_goals
                  go_wp2
                  refine ⟨⟨_, ?_, rfl, ?_⟩, by simp [intOf]⟩
                  · first | omega | decide
                  · refine congrArg (Value.int IntKind.i64) (Eq.trans ?_ HST.out.symm)
                    rw [HKK.out]
                    first | rfl | (simp; done)
              · obtain rfl : j = 5 := by omega
                have hst : outM X (kk + 1) = (outM X kk + (bitTo X kk 5 + 99 / 2 ^ kk % 2) % 2 * 2 ^ kk) % 256 := rfl
                have HST := Lib.hid hst
                clear hst
                generalize bitTo X kk 5 = T at *
                rw [show ((5 : Nat) : Int) = 5 from rfl]
                go_wp2
                refine ⟨⟨_, ?_, rfl, ?_⟩, by simp [intOf]⟩
                · first | omega | decide
                · have h1 := HST.out
                  have h2 := HGO.out
                  rw [HKK.out] at h1
                  rw [h2] at h1
                  refine congrArg (Value.int IntKind.u8) (Eq.trans ?_ h1.symm)
                  first | rfl | (simp; done)
        · obtain rfl : k = 8 := by omega
          rw [show ((8 : Nat) : Int) = 8 from rfl]
          go_wp2
          go_ret
          exact ⟨by rw [HFIN.out]; rfl, m, rfl⟩
end Go.Proofs.Ytejhjlfakfaegaa
