/- The reference's box: what it answers, by reckoning. The reference's products and box. The reference's box and boxes: the walk. The reference's boxes. The reference's Keys, in plain words: the same bytes. No program is walked here. The reference's Block, in plain words: the same block. No program is walked here. The columns turned: the program's way and the document's. No program is walked here. The reference's Stream, in plain words. No program is walked here. The reference's Stream. -/
import Derived.Test.YtejhjlfakfaegaaDoorPSealOpensx59
import Derived.Test.YtejhjlfakfaegaaDoorMc
import Derived.Test.YtejhjlfakfaegaaDoorMa
import Derived.Test.YtejhjlfakfaegaaDoorPSealOpensx60
import Derived.Test.YtejhjlfakfaegaaDoorPSealOpensx61
import Derived.Test.YtejhjlfakfaegaaDoorPSealOpensx62
set_option linter.unusedSimpArgs false
set_option linter.unusedVariables false
namespace Go.Proofs.YtejhjlfakfaegaaDoor
open Go.RowKit Go.Proofs.YtejhjlfakfaegaaDoorW.PrintWords Go.Proofs.YtejhjlfakfaegaaDoor.PSealOpens

/-- a number is reckoned before it is handed on -/
def force {α : Type} (n : Nat) (f : Nat → α) : α := Nat.rec (f 0) (fun m _ => f (m + 1)) n
theorem force_eq {α : Type} (n : Nat) (f : Nat → α) : force n f = f n := by cases n <;> rfl
def prN (a b : Nat) : Nat := ((compeerref05_Product.f 40 (a : Int) (b : Int)).getD 0).toNat
def powF (b : Nat) : Nat → Nat
 | 0 => 1
 | n + 1 => force (powF b n) fun x => prN x b
/-- the bits of what a byte becomes -/
def bitTo (x : Int) (k : Nat) : Nat → Int
 | 0 => 0
 | j + 1 => bitTo x k j + x / 2 ^ ((k + 8 - j) % 8) % 2
def outM (x : Int) : Nat → Int
 | 0 => 0
 | k + 1 => (outM x k + (bitTo x k 5 + 99 / 2 ^ k % 2) % 2 * 2 ^ k) % 256
def boxOk (b : Nat) : Bool := force (powF b 254) fun x => outM (x : Int) 8 == sbx (b : Int)
theorem box_row0 : ((List.range 16).map (· + 0)).all boxOk = true := by decide +kernel
theorem box_row1 : ((List.range 16).map (· + 16)).all boxOk = true := by decide +kernel
theorem box_row2 : ((List.range 16).map (· + 32)).all boxOk = true := by decide +kernel
theorem box_row3 : ((List.range 16).map (· + 48)).all boxOk = true := by decide +kernel
theorem box_row4 : ((List.range 16).map (· + 64)).all boxOk = true := by decide +kernel
theorem box_row5 : ((List.range 16).map (· + 80)).all boxOk = true := by decide +kernel
theorem box_row6 : ((List.range 16).map (· + 96)).all boxOk = true := by decide +kernel
theorem box_row7 : ((List.range 16).map (· + 112)).all boxOk = true := by decide +kernel
theorem box_row8 : ((List.range 16).map (· + 128)).all boxOk = true := by decide +kernel
theorem box_row9 : ((List.range 16).map (· + 144)).all boxOk = true := by decide +kernel
theorem box_row10 : ((List.range 16).map (· + 160)).all boxOk = true := by decide +kernel
theorem box_row11 : ((List.range 16).map (· + 176)).all boxOk = true := by decide +kernel
theorem box_row12 : ((List.range 16).map (· + 192)).all boxOk = true := by decide +kernel
theorem box_row13 : ((List.range 16).map (· + 208)).all boxOk = true := by decide +kernel
theorem box_row14 : ((List.range 16).map (· + 224)).all boxOk = true := by decide +kernel
theorem box_row15 : ((List.range 16).map (· + 240)).all boxOk = true := by decide +kernel
theorem box_all (b : Nat) (h : b < 256) : outM (powF b 254 : Nat) 8 = sbx (b : Int) := by
 have hk : boxOk b = true := by
  have : ∀ (i : Nat), ((List.range 16).map (· + i)).all boxOk = true → i ≤ b → b < i + 16 → boxOk b = true := fun i hi h0 h1 =>
   List.all_eq_true.1 hi b (List.mem_map.2 ⟨b - i, List.mem_range.2 (by omega), by omega⟩)
  by_cases h0 : b < 16
  ·exact this 0 box_row0 (by omega) (by omega)
  by_cases h1 : b < 32
  ·exact this 16 box_row1 (by omega) (by omega)
  by_cases h2 : b < 48
  ·exact this 32 box_row2 (by omega) (by omega)
  by_cases h3 : b < 64
  ·exact this 48 box_row3 (by omega) (by omega)
  by_cases h4 : b < 80
  ·exact this 64 box_row4 (by omega) (by omega)
  by_cases h5 : b < 96
  ·exact this 80 box_row5 (by omega) (by omega)
  by_cases h6 : b < 112
  ·exact this 96 box_row6 (by omega) (by omega)
  by_cases h7 : b < 128
  ·exact this 112 box_row7 (by omega) (by omega)
  by_cases h8 : b < 144
  ·exact this 128 box_row8 (by omega) (by omega)
  by_cases h9 : b < 160
  ·exact this 144 box_row9 (by omega) (by omega)
  by_cases h10 : b < 176
  ·exact this 160 box_row10 (by omega) (by omega)
  by_cases h11 : b < 192
  ·exact this 176 box_row11 (by omega) (by omega)
  by_cases h12 : b < 208
  ·exact this 192 box_row12 (by omega) (by omega)
  by_cases h13 : b < 224
  ·exact this 208 box_row13 (by omega) (by omega)
  by_cases h14 : b < 240
  ·exact this 224 box_row14 (by omega) (by omega)
  by_cases h15 : b < 256
  ·exact this 240 box_row15 (by omega) (by omega)
  omega
 unfold boxOk at hk
 rw [force_eq] at hk
 exact beq_iff_eq.1 hk
end Go.Proofs.YtejhjlfakfaegaaDoor
set_option linter.unusedSimpArgs false
set_option linter.unusedVariables false
namespace Go.Proofs.YtejhjlfakfaegaaDoor
open Go.RowKit Go.Proofs.YtejhjlfakfaegaaDoorW.PrintWords Go.Proofs.YtejhjlfakfaegaaDoor.PSealOpens

theorem w64_id {x : Int} (h : -9223372036854775808 ≤ x) (h' : x < 9223372036854775808) : wrap64 x = x := by unfold wrap64; omega
theorem u64_pos (x : Int) : 0 ≤ IntKind.u64.wrap x := by rw [IntKind.wrap_u64]; omega
theorem pl1 : ∀ (d K : Nat) (x5 : Int), d ≤ 7 → ∃ r, compeerref05_Product.l1 (K + d + 1) x5 (7 + d) = some r ∧ B8 r
 | 0, K, x5, _ => ⟨_, by rw [show K + 0 + 1 = K + 1 from rfl, compeerref05_Product.l1, if_neg (by omega)], by omega, by omega⟩
 | d + 1, K, x5, h => by
  rw [show K + (d + 1) + 1 = (K + d + 1) + 1 by omega, compeerref05_Product.l1, if_pos (by omega), if_pos (u64_pos _), if_pos (u64_pos _)]
  rw [show wrap64 (7 + ((d + 1 : Nat) : Int) - 1) = 7 + (d : Int) by rw [w64_id (by omega) (by omega)]; omega]
  split
  ·exact pl1 d K _ (by omega)
  ·exact pl1 d K _ (by omega)
theorem pl0 : ∀ (d K : Nat) (x0 x1 x5 : Int), d ≤ 8 → ∃ r, compeerref05_Product.l0 (K + 9 + d) x0 x1 x5 (8 - d) = some r ∧ B8 r
 | 0, K, x0, x1, x5, _ => by
  rw [show K + 9 + 0 = (K + 8) + 1 from rfl, compeerref05_Product.l0, if_neg (by omega)]
  exact pl1 7 K x5 (by omega)
 | d + 1, K, x0, x1, x5, h => by
  rw [show K + 9 + (d + 1) = (K + 9 + d) + 1 by omega, compeerref05_Product.l0, if_pos (by omega), if_pos (u64_pos _)]
  rw [show wrap64 (8 - ((d + 1 : Nat) : Int) + 1) = 8 - (d : Int) by rw [w64_id (by omega) (by omega)]; omega]
  split
  ·exact pl0 d K _ _ _ (by omega)
  ·exact pl0 d K _ _ _ (by omega)
theorem pf_some (K : Nat) (a b : Int) : ∃ r, compeerref05_Product.f (K + 17) a b = some r ∧ B8 r := pl0 8 K a b 0 (by omega)
theorem leo_up {α : Type} (g : Nat → Option α) (h : ∀ k, LeO (g k) (g (k + 1))) {k k' : Nat} {r : α} (hk : k ≤ k') (e : g k = some r) : g k' = some r := by
 obtain ⟨d, rfl⟩ := Nat.exists_eq_add_of_le hk
 clear hk
 induction d with
 | zero => exact e
 | succ d ih => exact h (k + d) r ih
theorem pf_mono {k k' : Nat} {a b r : Int} (hk : k ≤ k') (h : compeerref05_Product.f k a b = some r) : compeerref05_Product.f k' a b = some r := leo_up (fun k => compeerref05_Product.f k a b) (compeerref05_Product.mono a b) hk h
theorem pf2 (a : Int) (h : B8 a) {k : Nat} (hk : 40 ≤ k) : compeerref05_Product.f k 2 a = some (mul2 a) := by
 obtain ⟨h0, h1⟩ := h
 obtain ⟨n, rfl⟩ := Int.eq_ofNat_of_zero_le h0
 have : ∀ m : Nat, m < 256 → compeerref05_Product.f 40 2 (m : Int) = some (mul2 (m : Int)) := by decide +kernel
 exact pf_mono hk (this n (by omega))
theorem pf3 (a : Int) (h : B8 a) {k : Nat} (hk : 40 ≤ k) : compeerref05_Product.f k 3 a = some (mul3 a) := by
 obtain ⟨h0, h1⟩ := h
 obtain ⟨n, rfl⟩ := Int.eq_ofNat_of_zero_le h0
 have : ∀ m : Nat, m < 256 → compeerref05_Product.f 40 3 (m : Int) = some (mul3 (m : Int)) := by decide +kernel
 exact pf_mono hk (this n (by omega))
theorem pfd (a : Int) (h : B8 a) {k : Nat} (hk : 40 ≤ k) : compeerref05_Product.f k a 2 = some (dbl a) := by
 obtain ⟨h0, h1⟩ := h
 obtain ⟨n, rfl⟩ := Int.eq_ofNat_of_zero_le h0
 have : ∀ m : Nat, m < 256 → compeerref05_Product.f 40 (m : Int) 2 = some (dbl (m : Int)) := by decide +kernel
 exact pf_mono hk (this n (by omega))
end Go.Proofs.YtejhjlfakfaegaaDoor
set_option linter.unusedSimpArgs false
set_option linter.unusedVariables false
namespace Go.Proofs.YtejhjlfakfaegaaDoor
open Go.RowKit Go.Proofs.YtejhjlfakfaegaaDoorW.PrintWords Go.Proofs.YtejhjlfakfaegaaDoor.PSealOpens

theorem powF_b (b : Nat) : ∀ n, powF b n < 256
 | 0 => by show 1 < 256; decide
 | n + 1 => by
  rw [powF, force_eq, prN]
  obtain ⟨r, hr, hb⟩ := pf_some 23 (powF b n) b
  rw [hr]
  show r.toNat < 256
  unfold B8 at hb
  omega
theorem powF_step (b : Nat) (n : Nat) : compeerref05_Product.f 40 (powF b n) b = some (powF b (n + 1) : Int) := by
 rw [powF, force_eq, prN]
 obtain ⟨r, hr, hb⟩ := pf_some 23 (powF b n) b
 rw [hr]
 show some r = some ((r.toNat : Nat) : Int)
 unfold B8 at hb
 congr 1
 omega
theorem bitTo_b (x : Int) (k : Nat) : ∀ j, 0 ≤ bitTo x k j ∧ bitTo x k j ≤ j
 | 0 => ⟨Int.le_refl 0, Int.le_refl 0⟩
 | j + 1 => by
  have := bitTo_b x k j
  rw [bitTo]
  omega
theorem outM_b (x : Int) : ∀ k, B8 (outM x k)
 | 0 => ⟨Int.le_refl 0, by show (0 : Int) < 256; decide⟩
 | k + 1 => by unfold B8; rw [outM]; omega
set_option maxRecDepth 100000 in
set_option maxHeartbeats 2000000 in
theorem box5_any (b : Nat) (w : World) (hb : b < 256) :
  Calls Tryd.prog 46 #[.int .u8 (b : Int)] w fun e w' => e = .returned (.int .u8 (sbx b)) ∧ ∃ m, w' = w.drewN m := by
 have HFIN := Lib.hid (box_all b hb)
 go_enter Tryd.func46, Tryd.ntmps46
 go_wp2
 go_loopw [3, 4] (fun x i wr => ∃ n m : Nat, n ≤ 254 ∧ i = .int .i64 n ∧ x = .int .u8 (powF b n : Nat) ∧ wr = w.drewN m) (fun _ i _ => (254 - intOf i).toNat)
 case atStart => exact ⟨0, 0, by omega, rfl, rfl, rfl⟩
 case round =>
  obtain ⟨n, m, hn, rfl, rfl, rfl⟩ := hrel
  by_cases hlt : n < 254
  ·have HS := Lib.hid (powF_step b n)
   generalize hgy : powF b (n + 1) = y at *
   have HGY := Lib.hid hgy
   clear hgy
   go_wp2_with (go_at_call 55; refine (compeerref05_Product.calls 40 (powF b n : Nat) b y _ HS.out).mono ?_; rintro e w2 ⟨rfl, m2, rfl⟩)
   exact ⟨⟨n + 1, _, by omega, by go_num, by rw [HGY.out], rfl⟩, by simp [intOf]; omega⟩
  ·obtain rfl : n = 254 := by omega
   have hX : powF b 254 < 256 := powF_b b 254
   have hOB := outM_b ((powF b 254 : Nat) : Int)
   have hBB := bitTo_b ((powF b 254 : Nat) : Int)
   have hx0 : (0 : Int) ≤ (powF b 254 : Nat) := by omega
   have hx1 : ((powF b 254 : Nat) : Int) < 256 := by omega
   generalize ((powF b 254 : Nat) : Int) = X at *
   clear hX
   have HOB := Lib.hid hOB
   have HBB := Lib.hid hBB
   clear hOB hBB
   rw [show ((254 : Nat) : Int) = 254 from rfl]
   go_wp2
   go_loop [5, 6] (fun o i => ∃ k : Nat, k ≤ 8 ∧ i = .int .i64 k ∧ o = .int .u8 (outM X k)) (fun _ i => (8 - intOf i).toNat)
   case atStart => exact ⟨0, by omega, rfl, rfl⟩
   case round =>
    obtain ⟨k, hk, rfl, rfl⟩ := hrel
    by_cases hk8 : k < 8
    ·have hkl : k = 0 ∨ k = 1 ∨ k = 2 ∨ k = 3 ∨ k = 4 ∨ k = 5 ∨ k = 6 ∨ k = 7 := by omega
     obtain ⟨o0, o1⟩ := HOB.out k
     generalize hgo : outM X k = O at *
     have HGO := Lib.hid hgo
     clear hgo
     obtain ⟨kk, hkk⟩ : ∃ kk, kk = k := ⟨_, rfl⟩
     have HKK := Lib.hid hkk
     clear hkk
     rcases hkl with rfl | rfl | rfl | rfl | rfl | rfl | rfl | rfl
     all_goals
      go_wp2
      go_loop [7, 8] (fun t i => ∃ j : Nat, j ≤ 5 ∧ i = .int .i64 j ∧ t = .int .i64 (bitTo X kk j)) (fun _ i => (5 - intOf i).toNat)
      case atStart => exact ⟨0, by omega, rfl, rfl⟩
      case round =>
       obtain ⟨j, hj, rfl, rfl⟩ := hrel
       obtain ⟨t0, t1⟩ := HBB.out kk j
       by_cases hj5 : j < 5
       ·have hst : bitTo X kk (j + 1) = bitTo X kk j + X / 2 ^ ((kk + 8 - j) % 8) % 2 := rfl
        have HST := Lib.hid hst
        clear hst
        have hjl : j = 0 ∨ j = 1 ∨ j = 2 ∨ j = 3 ∨ j = 4 := by omega
        generalize bitTo X kk j = T at *
        rcases hjl with rfl | rfl | rfl | rfl | rfl
        all_goals
         go_wp2
         refine ⟨⟨_, ?_, rfl, ?_⟩, by simp [intOf]⟩
         ·first | omega | decide
         ·refine congrArg (Value.int IntKind.i64) (Eq.trans ?_ HST.out.symm)
          rw [HKK.out]
          first | rfl | (simp; done)
       ·obtain rfl : j = 5 := by omega
        have hst : outM X (kk + 1) = (outM X kk + (bitTo X kk 5 + 99 / 2 ^ kk % 2) % 2 * 2 ^ kk) % 256 := rfl
        have HST := Lib.hid hst
        clear hst
        generalize bitTo X kk 5 = T at *
        rw [show ((5 : Nat) : Int) = 5 from rfl]
        go_wp2
        refine ⟨⟨_, ?_, rfl, ?_⟩, by simp [intOf]⟩
        ·first | omega | decide
        ·have h1 := HST.out
         have h2 := HGO.out
         rw [HKK.out] at h1
         rw [h2] at h1
         refine congrArg (Value.int IntKind.u8) (Eq.trans ?_ h1.symm)
         first | rfl | (simp; done)
    ·obtain rfl : k = 8 := by omega
     rw [show ((8 : Nat) : Int) = 8 from rfl]
     go_wp2
     go_ret
     exact ⟨by rw [HFIN.out]; rfl, m, rfl⟩
end Go.Proofs.YtejhjlfakfaegaaDoor
set_option linter.unusedSimpArgs false
set_option linter.unusedVariables false
namespace Go.Proofs.YtejhjlfakfaegaaDoor
open Go.RowKit Go.Proofs.YtejhjlfakfaegaaDoorW.PrintWords Go.Proofs.YtejhjlfakfaegaaDoor.PSealOpens

theorem sbl_succ (k : Nat) (h : k < 256) : sbl.take (k + 1) = sbl.take k ++ [sbx (k : Int)] := by
 rw [List.take_succ_eq_append_getElem (by rw [sbl_len]; exact h)]
 unfold sbx
 rw [show ((k : Int)).toNat = k by omega, nt_get (by rw [sbl_len]; exact h)]
theorem sbl_tl (k : Nat) (h : k ≤ 256) : (sbl.take k).length = k := by rw [List.length_take, sbl_len]; omega
set_option maxHeartbeats 1000000 in
set_option maxRecDepth 100000 in
theorem boxes5_any (w : World) :
  Calls Tryd.prog 28 #[] w fun e w' => ∃ v, e = .returned v ∧ w'.ownsRow w.heap.size 5 1 v 256 (nums .u8 sbl) ∧ Below w.heap.size w w' := by
 go_enter Tryd.func28, Tryd.ntmps28
 go_wp2
 go_loopw [1, 2] (fun o i wr => ∃ k : Nat, k ≤ 256 ∧ i = .int .i64 k ∧ wr.ownsRow w.heap.size 5 1 o k (nums .u8 (sbl.take k)) ∧ Below w.heap.size w wr) (fun _ i _ => (256 - intOf i).toNat)
 case atStart => exact ⟨0, by omega, rfl, World.ownsRow_made w _ 0 (Nat.le_refl _) (by unfold maxLen; omega) rfl, (Below.refl _ _).alloc (Nat.le_refl _) _⟩
 case round =>
  obtain ⟨k, hk, rfl, hown, hBl⟩ := hrel
  obtain ⟨A, c, rfl⟩ := own_slice hown
  by_cases hlt : k < 256
  ·have HBX := Lib.hid (box5_any k wr hlt)
   have hln := sbl_tl k (by omega)
   have HO : Hid (wr.ownsRow w.heap.size 5 1 (.slice A k c) (sbl.take k).length (nums .u8 (sbl.take k))) := by rw [hln]; exact Lib.hid hown
   have HSU := Lib.hid (sbl_succ k hlt)
   have hl64 : Hid (((sbl.take k).length + 1) * 1 ≤ 140737488355328) := Lib.hid (by rw [hln]; omega)
   have HLK := Lib.hid (sbl_tl (k + 1) (by omega))
   have HBl := Lib.hid hBl
   clear hown hln hBl
   generalize hz : sbl.take (k + 1) = zs' at *
   have HZ := Lib.hid hz
   clear hz
   generalize sbl.take k = zs at *
   generalize sbx (k : Int) = y at *
   go_wp2_with (first
    | (go_at_call 46; with_reducible refine (HBX.out).mono ?_; rintro e w2 ⟨rfl, m2, hw2⟩; (have HB2 : Hid (Below wr.heap.size wr w2) := Lib.hid (by rw [hw2]; exact (Ch.drewN (Ch.refl (fun _ => False) wr) m2).below)); clear hw2; have hn2 := Below.trans HBl.out (Below.mono HB2.out HBl.out.size); have HN2 := Lib.hid hn2; clear hn2)
    | (at_builtin; refine print_append_num (w0 := w) w.heap.size rfl _ _ 23 5 .u8 1 rfl Tryd.underlying23 info_u8 (by decide) (.slice A k c) zs y rfl rfl (own_kept HO.out HB2.out) (HN2.out) HN2.out.size hl64.out ?_; intro v1 w4 hown hB1 hg hat; rw [← HSU.out, HLK.out] at hown; have HO4 := Lib.hid hown; have HB4 := Lib.hid hB1; obtain ⟨A4, c4, rfl⟩ := own_slice hown; clear hown hB1 hg hat))
   exact ⟨⟨k + 1, by omega, by go_num, by rw [HZ.out]; exact HO4.out, HB4.out⟩, by simp [intOf]; omega⟩
  ·obtain rfl : k = 256 := by omega
   have HO := Lib.hid hown
   have HBl := Lib.hid hBl
   clear hown hBl hlt hk
   go_wp2
   go_ret
   refine ⟨_, rfl, ?_, HBl.out⟩
   have := HO.out
   rwa [List.take_of_length_le (by rw [sbl_len]; exact Nat.le_refl _)] at this
end Go.Proofs.YtejhjlfakfaegaaDoor
set_option linter.unusedSimpArgs false
set_option linter.unusedVariables false
namespace Go.Proofs.YtejhjlfakfaegaaDoor
open Go.RowKit Go.Proofs.YtejhjlfakfaegaaDoorW.PrintWords Go.Proofs.YtejhjlfakfaegaaDoor.PSealOpens

theorem x8_nat (a b : Nat) (ha : a < 256) (hb : b < 256) : x8 (a : Int) (b : Int) = ((a ^^^ b : Nat) : Int) := by
 have h : a ^^^ b < 2 ^ 8 := Nat.xor_lt_two_pow (n := 8) ha hb
 show IntKind.u8.wrap (((BitVec.ofInt 8 (a : Int)) ^^^ (BitVec.ofInt 8 (b : Int))).toNat : Int) = _
 rw [BitVec.ofInt_natCast, BitVec.ofInt_natCast, BitVec.toNat_xor, BitVec.toNat_ofNat, BitVec.toNat_ofNat, Nat.mod_eq_of_lt (show a < 2 ^ 8 from ha), Nat.mod_eq_of_lt (show b < 2 ^ 8 from hb), IntKind.wrap_u8]
 omega
theorem x8_assoc (a b c : Int) (ha : B8 a) (hb : B8 b) (hc : B8 c) : x8 (x8 a b) c = x8 a (x8 b c) := by
 obtain ⟨a0, a1⟩ := ha
 obtain ⟨b0, b1⟩ := hb
 obtain ⟨c0, c1⟩ := hc
 obtain ⟨a, rfl⟩ := Int.eq_ofNat_of_zero_le a0
 obtain ⟨b, rfl⟩ := Int.eq_ofNat_of_zero_le b0
 obtain ⟨c, rfl⟩ := Int.eq_ofNat_of_zero_le c0
 have ha : a < 256 := by omega
 have hb : b < 256 := by omega
 have hc : c < 256 := by omega
 have h1 : a ^^^ b < 256 := Nat.xor_lt_two_pow (n := 8) ha hb
 have h2 : b ^^^ c < 256 := Nat.xor_lt_two_pow (n := 8) hb hc
 rw [x8_nat _ _ ha hb, x8_nat _ _ h1 hc, x8_nat _ _ hb hc, x8_nat _ _ ha h2, Nat.xor_assoc]
theorem x8_comm (a b : Int) (ha : B8 a) (hb : B8 b) : x8 a b = x8 b a := by
 obtain ⟨a0, a1⟩ := ha
 obtain ⟨b0, b1⟩ := hb
 obtain ⟨a, rfl⟩ := Int.eq_ofNat_of_zero_le a0
 obtain ⟨b, rfl⟩ := Int.eq_ofNat_of_zero_le b0
 rw [x8_nat _ _ (by omega) (by omega), x8_nat _ _ (by omega) (by omega), Nat.xor_comm]
theorem rd_nt (l : List Int) (i : Nat) : rd l (i : Int) = nt l i := by unfold rd nt; rw [show ((i : Int)).toNat = i by omega]
theorem kl1 (key t : List Int) (n : Nat) (r : Int) (hk : key.length = 16) (hn : 16 ≤ n) (hn' : n < 1000) (ht : t.length = 4)
  (hx : ∀ j, j < 4 → kNext (kGo key (n - 16 + j)) = bits .xor .u8 (nt (kGo key (n - 16 + j)) (n - 16 + j)) (nt t j)) :
  ∀ (d K : Nat), d ≤ 4 → compeerref05_Keys.l1 (K + d + 1) sbl (kGo key (n - 16 + (4 - d))) r n t ((4 - d : Nat) : Int) = compeerref05_Keys.l0 K sbl (kGo key (n - 16 + 4)) r ((n + 4 : Nat) : Int)
 | 0, K, _ => by
  rw [show K + 0 + 1 = K + 1 from rfl, compeerref05_Keys.l1, if_neg (by omega), w64_id (by omega) (by omega)]
  rfl
 | d + 1, K, h => by
  have hlen : (kGo key (n - 16 + (4 - (d + 1)))).length = n + (4 - (d + 1)) := by rw [kGo_len, hk]; omega
  have e : wrap64 ((n : Int) + ((4 - (d + 1) : Nat) : Int)) = ((n + (4 - (d + 1)) : Nat) : Int) := by rw [w64_id (by omega) (by omega)]; omega
  have e2 : wrap64 (((n + (4 - (d + 1)) : Nat) : Int) - 16) = ((n - 16 + (4 - (d + 1)) : Nat) : Int) := by rw [w64_id (by omega) (by omega)]; omega
  have e3 : wrap64 (((4 - (d + 1) : Nat) : Int) + 1) = ((4 - d : Nat) : Int) := by rw [w64_id (by omega) (by omega)]; omega
  rw [show K + (d + 1) + 1 = (K + d + 1) + 1 by omega, compeerref05_Keys.l1, if_pos (by omega), e, e2, if_pos (by omega), if_pos (by omega), if_pos (by omega), if_pos (by omega), if_pos (by omega), e3, rd_nt, rd_nt, ← hx _ (by omega)]
  have := kl1 key t n r hk hn hn' ht hx d K (by omega)
  rw [← this, show n - 16 + (4 - d) = (n - 16 + (4 - (d + 1))) + 1 by omega]
  rfl
theorem rd_sbl (z : Int) : rd sbl z = sbx z := rfl
theorem tmod_nat (n : Nat) : Int.tmod (n : Int) 16 = ((n % 16 : Nat) : Int) := by rw [Int.tmod_eq_emod_of_nonneg (by omega)]; omega
theorem rd_1 (a b c d : Int) : rd [a, b, c, d] 1 = b := rfl
theorem rd_2 (a b c d : Int) : rd [a, b, c, d] 2 = c := rfl
theorem rd_3 (a b c d : Int) : rd [a, b, c, d] 3 = d := rfl
theorem rd_0 (a b c d : Int) : rd [a, b, c, d] 0 = a := rfl
theorem sbl_len' : (sbl.length : Int) = 256 := by rw [sbl_len]; rfl
theorem kstepA (F n : Nat) (W : List Int) (r : Int) (hl : W.length = n) (h16 : 16 ≤ n) (hn : n < 176) (hm : ¬ n % 16 = 0) :
  compeerref05_Keys.l0 (F + 1) sbl W r n = compeerref05_Keys.j1 F sbl W r n [nt W (n - 4), nt W (n - 3), nt W (n - 2), nt W (n - 1)] := by
 have e4 : wrap64 ((n : Int) - 4) = ((n - 4 : Nat) : Int) := by rw [w64_id (by omega) (by omega)]; omega
 have e3 : wrap64 ((n : Int) - 3) = ((n - 3 : Nat) : Int) := by rw [w64_id (by omega) (by omega)]; omega
 have e2 : wrap64 ((n : Int) - 2) = ((n - 2 : Nat) : Int) := by rw [w64_id (by omega) (by omega)]; omega
 have e1 : wrap64 ((n : Int) - 1) = ((n - 1 : Nat) : Int) := by rw [w64_id (by omega) (by omega)]; omega
 rw [compeerref05_Keys.l0]
 refine (if_pos (by omega)).trans ?_
 refine (if_pos (by rw [e4]; omega)).trans ?_
 refine (if_pos (by rw [e4]; omega)).trans ?_
 refine (if_pos (by rw [e3]; omega)).trans ?_
 refine (if_pos (by rw [e3]; omega)).trans ?_
 refine (if_pos (by rw [e2]; omega)).trans ?_
 refine (if_pos (by rw [e2]; omega)).trans ?_
 refine (if_pos (by rw [e1]; omega)).trans ?_
 refine (if_pos (by rw [e1]; omega)).trans ?_
 refine (if_neg (by rw [tmod_nat]; omega)).trans ?_
 rw [e4, e3, e2, e1, rd_nt, rd_nt, rd_nt, rd_nt]
theorem kstepB (F n : Nat) (W : List Int) (r : Int) (hl : W.length = n) (hW : Bs W) (hr : B8 r) (hF : 40 ≤ F) (h16 : 16 ≤ n) (hn : n < 176) (hm : n % 16 = 0) :
  compeerref05_Keys.l0 (F + 1) sbl W r n = compeerref05_Keys.j1 F sbl W (dbl r) n [bits .xor .u8 (sbx (nt W (n - 3))) r, sbx (nt W (n - 2)), sbx (nt W (n - 1)), sbx (nt W (n - 4))] := by
 have e4 : wrap64 ((n : Int) - 4) = ((n - 4 : Nat) : Int) := by rw [w64_id (by omega) (by omega)]; omega
 have e3 : wrap64 ((n : Int) - 3) = ((n - 3 : Nat) : Int) := by rw [w64_id (by omega) (by omega)]; omega
 have e2 : wrap64 ((n : Int) - 2) = ((n - 2 : Nat) : Int) := by rw [w64_id (by omega) (by omega)]; omega
 have e1 : wrap64 ((n : Int) - 1) = ((n - 1 : Nat) : Int) := by rw [w64_id (by omega) (by omega)]; omega
 have b1 := hW.at (n - 3)
 have b2 := hW.at (n - 2)
 have b3 := hW.at (n - 1)
 have b0 := hW.at (n - 4)
 have hs := sbl_len'
 rw [compeerref05_Keys.l0]
 refine (if_pos (by omega)).trans ?_
 refine (if_pos (by rw [e4]; omega)).trans ?_
 refine (if_pos (by rw [e4]; omega)).trans ?_
 refine (if_pos (by rw [e3]; omega)).trans ?_
 refine (if_pos (by rw [e3]; omega)).trans ?_
 refine (if_pos (by rw [e2]; omega)).trans ?_
 refine (if_pos (by rw [e2]; omega)).trans ?_
 refine (if_pos (by rw [e1]; omega)).trans ?_
 refine (if_pos (by rw [e1]; omega)).trans ?_
 refine (if_pos (by rw [tmod_nat]; omega)).trans ?_
 refine (if_pos (by simp)).trans ?_
 refine (if_pos (by rw [rd_1, e3, rd_nt]; exact b1.1)).trans ?_
 refine (if_pos (by rw [rd_1, e3, rd_nt, hs]; exact b1.2)).trans ?_
 refine (if_pos (by simp)).trans ?_
 refine (if_pos (by rw [rd_2, e2, rd_nt]; exact b2.1)).trans ?_
 refine (if_pos (by rw [rd_2, e2, rd_nt, hs]; exact b2.2)).trans ?_
 refine (if_pos (by simp)).trans ?_
 refine (if_pos (by rw [rd_3, e1, rd_nt]; exact b3.1)).trans ?_
 refine (if_pos (by rw [rd_3, e1, rd_nt, hs]; exact b3.2)).trans ?_
 refine (if_pos (by simp)).trans ?_
 refine (if_pos (by rw [rd_0, e4, rd_nt]; exact b0.1)).trans ?_
 refine (if_pos (by rw [rd_0, e4, rd_nt, hs]; exact b0.2)).trans ?_
 rw [pfd _ hr hF, rd_1, rd_2, rd_3, rd_0, e4, e3, e2, e1, rd_nt, rd_nt, rd_nt, rd_nt]
 rfl
theorem kl0 (key : List Int) (hk : key.length = 16) (hb : Bs key) (C : Nat) (hC : 40 ≤ C) (q : Nat) (hq : q ≤ 40) :
  compeerref05_Keys.l0 (C + 7 * q + 1) sbl (kGo key (160 - 4 * q)) (rcAt ((175 - 4 * q) / 16)) ((176 - 4 * q : Nat) : Int) = some (kGo key 160) := by
 induction q with
 | zero => rw [show C + 7 * 0 + 1 = C + 1 from rfl, compeerref05_Keys.l0, if_neg (by omega)]
 | succ q ih =>
  have ih := ih (by omega)
  obtain ⟨n, hn⟩ : ∃ n, n = 176 - 4 * (q + 1) := ⟨_, rfl⟩
  have hn4 : n % 4 = 0 := by omega
  have hn16 : 16 ≤ n := by omega
  have hn' : n < 176 := by omega
  rw [show 160 - 4 * (q + 1) = n - 16 by omega, show (175 - 4 * (q + 1)) / 16 = (n - 1) / 16 by omega, ← hn, show C + 7 * (q + 1) + 1 = (C + 7 * q + 7) + 1 by omega]
  rw [show 160 - 4 * q = n - 16 + 4 by omega, show (175 - 4 * q) / 16 = (n + 3) / 16 by omega, show 176 - 4 * q = n + 4 by omega] at ih
  have hlen : (kGo key (n - 16)).length = n := by rw [kGo_len, hk]; omega
  have hbs := kGo_bs key hb (n - 16)
  by_cases h16 : n % 16 = 0
  ·rw [kstepB _ n _ _ hlen hbs (rcAt_b _) (by omega) hn16 hn' h16, show C + 7 * q + 7 = (C + 7 * q + 6) + 1 from rfl, compeerref05_Keys.j1]
   have := kl1 key [bits .xor .u8 (sbx (nt (kGo key (n - 16)) (n - 3))) (rcAt ((n - 1) / 16)), sbx (nt (kGo key (n - 16)) (n - 2)), sbx (nt (kGo key (n - 16)) (n - 1)), sbx (nt (kGo key (n - 16)) (n - 4))] n (dbl (rcAt ((n - 1) / 16))) hk hn16 (by omega) rfl ?_ 4 (C + 7 * q + 1) (by omega)
   ·rw [show n - 16 + (4 - 4) = n - 16 by omega] at this
    refine Eq.trans this ?_
    rw [show dbl (rcAt ((n - 1) / 16)) = rcAt ((n + 3) / 16) by rw [show (n + 3) / 16 = (n - 1) / 16 + 1 by omega]; rfl]
    exact ih
   ·intro j hj
    have hl2 : (kGo key (n - 16 + j)).length = n + j := by rw [kGo_len, hk]; omega
    unfold kNext
    rw [hl2, if_neg (by omega), show (n + j) % 16 = j by omega, show n + j - 16 = n - 16 + j by omega, show (n + j) / 16 - 1 = (n - 1) / 16 by omega]
    have hp : ∀ i, i < n → nt (kGo key (n - 16 + j)) i = nt (kGo key (n - 16)) i := fun i hi => kGo_pre key (n - 16) j i (by omega)
    have hw : nt (kGo key (n - 16 + j)) (n - 16 + j) = nt (kGo key (n - 16)) (n - 16 + j) := hp _ (by omega)
    have hwb : B8 (nt (kGo key (n - 16)) (n - 16 + j)) := hbs.at _
    rw [hw]
    by_cases hj0 : j = 0
    ·subst hj0
     rw [if_pos rfl, show n + 0 - 3 = n - 3 by omega, hp _ (by omega), x8_assoc _ _ _ hwb (sbx_b _) (rcAt_b _)]
     rfl
    ·rw [if_neg hj0, show n + j - j - 4 + (j + 1) % 4 = n - 4 + (j + 1) % 4 by omega, hp _ (by omega)]
     have : j = 1 ∨ j = 2 ∨ j = 3 := by omega
     rcases this with rfl | rfl | rfl
     ·rw [show n - 4 + (1 + 1) % 4 = n - 2 by omega]; rfl
     ·rw [show n - 4 + (2 + 1) % 4 = n - 1 by omega]; rfl
     ·rw [show n - 4 + (3 + 1) % 4 = n - 4 by omega]; rfl
  ·rw [kstepA _ n _ _ hlen hn16 hn' h16, show C + 7 * q + 7 = (C + 7 * q + 6) + 1 from rfl, compeerref05_Keys.j1]
   have := kl1 key [nt (kGo key (n - 16)) (n - 4), nt (kGo key (n - 16)) (n - 3), nt (kGo key (n - 16)) (n - 2), nt (kGo key (n - 16)) (n - 1)] n (rcAt ((n - 1) / 16)) hk hn16 (by omega) rfl ?_ 4 (C + 7 * q + 1) (by omega)
   ·rw [show n - 16 + (4 - 4) = n - 16 by omega] at this
    refine Eq.trans this ?_
    rw [show (n - 1) / 16 = (n + 3) / 16 by omega]
    exact ih
   ·intro j hj
    have hl2 : (kGo key (n - 16 + j)).length = n + j := by rw [kGo_len, hk]; omega
    unfold kNext
    rw [hl2, if_pos (by omega), show n + j - 16 = n - 16 + j by omega]
    have hp : ∀ i, i < n → nt (kGo key (n - 16 + j)) i = nt (kGo key (n - 16)) i := fun i hi => kGo_pre key (n - 16) j i (by omega)
    rw [hp (n + j - 4) (by omega)]
    have : j = 0 ∨ j = 1 ∨ j = 2 ∨ j = 3 := by omega
    rcases this with rfl | rfl | rfl | rfl
    ·rfl
    ·rw [show n + 1 - 4 = n - 3 by omega]; rfl
    ·rw [show n + 2 - 4 = n - 2 by omega]; rfl
    ·rw [show n + 3 - 4 = n - 1 by omega]; rfl
theorem keys5 (key : List Int) (hk : key.length = 16) (hb : Bs key) (K : Nat) (hK : 400 ≤ K) : compeerref05_Keys.f K sbl key = some (kGo key 160) := by
 obtain ⟨C, rfl⟩ : ∃ C, K = C + 7 * 40 + 1 := ⟨K - 281, by omega⟩
 unfold compeerref05_Keys.f
 simp only [Option.bind_some, List.nil_append, List.length_nil]
 rw [if_pos (by omega)]
 exact kl0 key hk hb C (by omega) 40 (by omega)
end Go.Proofs.YtejhjlfakfaegaaDoor
set_option linter.unusedSimpArgs false
set_option linter.unusedVariables false
namespace Go.Proofs.YtejhjlfakfaegaaDoor
open Go.RowKit Go.Proofs.YtejhjlfakfaegaaDoorW.PrintWords Go.Proofs.YtejhjlfakfaegaaDoor.PSealOpens

theorem all16_take (f : Nat → Int) (i : Nat) (h : i < 16) : (all16 f).take (i + 1) = (all16 f).take i ++ [f i] := by
 rw [List.take_succ_eq_append_getElem (by rw [all16_len]; exact h)]
 congr 1
 have := all16_at f i h
 rw [nt_get (by rw [all16_len]; exact h)] at this
 rw [this]
theorem all16_all (f : Nat → Int) : (all16 f).take 16 = all16 f := List.take_of_length_le (by rw [all16_len]; exact Nat.le_refl _)
theorem all16_tl (f : Nat → Int) (i : Nat) (h : i ≤ 16) : ((all16 f).take i).length = i := by rw [List.length_take, all16_len]; omega
/-- the columns turned, as the document has it -/
def mixF (t : List Int) (i : Nat) : Int := x8 (x8 (x8 (mul2 (nt t i)) (mul3 (nt t (i / 4 * 4 + (i % 4 + 1) % 4)))) (nt t (i / 4 * 4 + (i % 4 + 2) % 4))) (nt t (i / 4 * 4 + (i % 4 + 3) % 4))
theorem bl0 (b ks : List Int) (hb : b.length = 16) (hk : ks.length = 176) : ∀ (d K : Nat), d ≤ 16 →
  compeerref05_Block.l0 (K + d + 1) sbl b ks ((xk b ks 0).take (16 - d)) ((16 - d : Nat) : Int) = compeerref05_Block.l1 K sbl ks (xk b ks 0) 1
 | 0, K, _ => by
  rw [show K + 0 + 1 = K + 1 from rfl, compeerref05_Block.l0]
  refine (if_neg (by omega)).trans ?_
  rw [show 16 - 0 = 16 from rfl, xk, all16_all]
 | d + 1, K, h => by
  rw [show K + (d + 1) + 1 = (K + d + 1) + 1 by omega, compeerref05_Block.l0]
  refine (if_pos (by omega)).trans ?_
  refine (if_pos (by omega)).trans ?_
  refine (if_pos (by omega)).trans ?_
  refine (if_pos (by omega)).trans ?_
  refine (if_pos (by rw [xk, all16_tl _ _ (by omega)]; omega)).trans ?_
  rw [rd_nt, rd_nt, show wrap64 (((16 - (d + 1) : Nat) : Int) + 1) = ((16 - d : Nat) : Int) by rw [w64_id (by omega) (by omega)]; omega]
  rw [← bl0 b ks hb hk d K (by omega), show 16 - d = (16 - (d + 1)) + 1 by omega, xk, all16_take _ _ (by omega), Nat.zero_add]
  rfl
theorem bl3 (s ks : List Int) (n : Int) (hs : s.length = 16) (hsb : Bs s) (c : Nat) (hc : c < 4) : ∀ (d K : Nat), d ≤ 4 →
  compeerref05_Block.l3 (K + d + 1) sbl ks s n ((ss s).take (4 * c + (4 - d))) c ((4 - d : Nat) : Int) = compeerref05_Block.l2 K sbl ks s n ((ss s).take (4 * c + 4)) ((c + 1 : Nat) : Int)
 | 0, K, _ => by
  rw [show K + 0 + 1 = K + 1 from rfl, compeerref05_Block.l3]
  refine (if_neg (by omega)).trans ?_
  rw [w64_id (by omega) (by omega)]
  rfl
 | d + 1, K, h => by
  have e1 : wrap64 ((c : Int) + ((4 - (d + 1) : Nat) : Int)) = ((c + (4 - (d + 1)) : Nat) : Int) := by rw [w64_id (by omega) (by omega)]; omega
  have e2 : Int.tmod ((c + (4 - (d + 1)) : Nat) : Int) 4 = (((c + (4 - (d + 1))) % 4 : Nat) : Int) := by rw [Int.tmod_eq_emod_of_nonneg (by omega)]; omega
  have e3 : wrap64 ((((c + (4 - (d + 1))) % 4 : Nat) : Int) * 4) = (((c + (4 - (d + 1))) % 4 * 4 : Nat) : Int) := by rw [w64_id (by omega) (by omega)]; omega
  have e4 : wrap64 ((((c + (4 - (d + 1))) % 4 * 4 : Nat) : Int) + ((4 - (d + 1) : Nat) : Int)) = (((c + (4 - (d + 1))) % 4 * 4 + (4 - (d + 1)) : Nat) : Int) := by rw [w64_id (by omega) (by omega)]; omega
  have e : wrap64 (wrap64 (Int.tmod (wrap64 ((c : Int) + ((4 - (d + 1) : Nat) : Int))) 4 * 4) + ((4 - (d + 1) : Nat) : Int)) = (((c + (4 - (d + 1))) % 4 * 4 + (4 - (d + 1)) : Nat) : Int) := by rw [e1, e2, e3, e4]
  have hb := hsb.at ((c + (4 - (d + 1))) % 4 * 4 + (4 - (d + 1)))
  have hl := sbl_len'
  rw [show K + (d + 1) + 1 = (K + d + 1) + 1 by omega, compeerref05_Block.l3]
  refine (if_pos (by omega)).trans ?_
  refine (if_pos (by rw [e]; omega)).trans ?_
  refine (if_pos (by rw [e]; omega)).trans ?_
  refine (if_pos (by rw [e, rd_nt]; exact hb.1)).trans ?_
  refine (if_pos (by rw [e, rd_nt, hl]; exact hb.2)).trans ?_
  refine (if_pos (by rw [ss, all16_tl _ _ (by omega)]; omega)).trans ?_
  rw [e, rd_nt, rd_sbl, show wrap64 (((4 - (d + 1) : Nat) : Int) + 1) = ((4 - d : Nat) : Int) by rw [w64_id (by omega) (by omega)]; omega]
  rw [← bl3 s ks n hs hsb c hc d K (by omega), show 4 * c + (4 - d) = (4 * c + (4 - (d + 1))) + 1 by omega, ss, all16_take _ _ (by omega)]
  rw [show (4 * c + (4 - (d + 1)) + 4 * ((4 * c + (4 - (d + 1))) % 4)) % 16 = (c + (4 - (d + 1))) % 4 * 4 + (4 - (d + 1)) by omega]
theorem bl2 (s ks : List Int) (n : Int) (hs : s.length = 16) (hsb : Bs s) (K : Nat) (e : Nat) (he : e ≤ 4) :
  compeerref05_Block.l2 (K + 6 * e + 1) sbl ks s n ((ss s).take (4 * (4 - e))) ((4 - e : Nat) : Int) = if n < 10 then compeerref05_Block.l4 K sbl ks n (ss s) [] 0 else compeerref05_Block.j6 K sbl ks n (ss s) := by
 induction e with
 | zero =>
  rw [show K + 6 * 0 + 1 = K + 1 from rfl, compeerref05_Block.l2]
  refine (if_neg (by omega)).trans ?_
  rw [show 4 * (4 - 0) = 16 from rfl, ss, all16_all]
 | succ e ih =>
  rw [show K + 6 * (e + 1) + 1 = (K + 6 * e + 6) + 1 by omega, compeerref05_Block.l2]
  refine (if_pos (by omega)).trans ?_
  have := bl3 s ks n hs hsb (4 - (e + 1)) (by omega) 4 (K + 6 * e + 1) (by omega)
  rw [show 4 * (4 - (e + 1)) + (4 - 4) = 4 * (4 - (e + 1)) by omega, show 4 * (4 - (e + 1)) + 4 = 4 * (4 - e) by omega, show 4 - (e + 1) + 1 = 4 - e by omega] at this
  exact this.trans (ih (by omega))
theorem idx5 (c r q : Nat) (hc : c < 4) (hr : r < 4) (hq : q < 4) : wrap64 (wrap64 ((c : Int) * 4) + Int.tmod (wrap64 ((r : Int) + (q : Int))) 4) = ((c * 4 + (r + q) % 4 : Nat) : Int) := by
 rw [w64_id (x := (c : Int) * 4) (by omega) (by omega), w64_id (x := (r : Int) + (q : Int)) (by omega) (by omega), Int.tmod_eq_emod_of_nonneg (by omega), w64_id (by omega) (by omega)]
 omega
theorem idx50 (c r : Nat) (hc : c < 4) (hr : r < 4) : wrap64 (wrap64 ((c : Int) * 4) + (r : Int)) = ((c * 4 + r : Nat) : Int) := by
 rw [w64_id (x := (c : Int) * 4) (by omega) (by omega), w64_id (by omega) (by omega)]
 omega
theorem mixF_at (t : List Int) (c r : Nat) (hr : r < 4) : mixF t (c * 4 + r) = Go.bits .xor .u8 (Go.bits .xor .u8 (Go.bits .xor .u8 (mul2 (nt t (c * 4 + r))) (mul3 (nt t (c * 4 + (r + 1) % 4)))) (nt t (c * 4 + (r + 2) % 4))) (nt t (c * 4 + (r + 3) % 4)) := by
 unfold mixF x8
 rw [show (c * 4 + r) / 4 * 4 = c * 4 by omega, show (c * 4 + r) % 4 = r by omega]
theorem l5step (t ks U : List Int) (n : Int) (ht : t.length = 16) (htb : Bs t) (c r K : Nat) (hc : c < 4) (hr : r < 4) (hK : 40 ≤ K) (hU : U.length < 100) :
  compeerref05_Block.l5 (K + 1) sbl ks n t U c r = compeerref05_Block.l5 K sbl ks n t (U ++ [mixF t (c * 4 + r)]) c ((r + 1 : Nat) : Int) := by
 have m1 : (r + 1) % 4 < 4 := Nat.mod_lt _ (by decide)
 have m2 : (r + 2) % 4 < 4 := Nat.mod_lt _ (by decide)
 have m3 : (r + 3) % 4 < 4 := Nat.mod_lt _ (by decide)
 have hb0 := htb.at (c * 4 + r)
 have hb1 := htb.at (c * 4 + (r + 1) % 4)
 have HV := Lib.hid (mixF_at t c r hr)
 have P2 := Lib.hid (pf2 _ hb0 (k := K) hK)
 have P3 := Lib.hid (pf3 _ hb1 (k := K) hK)
 have hw : wrap64 ((r : Int) + 1) = ((r + 1 : Nat) : Int) := by rw [w64_id (by omega) (by omega)]; omega
 have HW := Lib.hid hw
 clear hw hb0 hb1
 have I0 := Lib.hid (idx50 c r hc hr)
 have I1 := Lib.hid (idx5 c r 1 hc hr (by decide))
 have I2 := Lib.hid (idx5 c r 2 hc hr (by decide))
 have I3 := Lib.hid (idx5 c r 3 hc hr (by decide))
 change Hid (wrap64 (wrap64 ((c : Int) * 4) + Int.tmod (wrap64 ((r : Int) + 1)) 4) = _) at I1
 change Hid (wrap64 (wrap64 ((c : Int) * 4) + Int.tmod (wrap64 ((r : Int) + 2)) 4) = _) at I2
 change Hid (wrap64 (wrap64 ((c : Int) * 4) + Int.tmod (wrap64 ((r : Int) + 3)) 4) = _) at I3
 rw [compeerref05_Block.l5, I0.out, I1.out, I2.out, I3.out, rd_nt, rd_nt, rd_nt, rd_nt, P2.out, P3.out, HW.out]
 generalize (r + 1) % 4 = q1 at *
 generalize (r + 2) % 4 = q2 at *
 generalize (r + 3) % 4 = q3 at *
 refine (if_pos (by omega)).trans ?_
 refine (if_pos (by omega)).trans ?_
 refine (if_pos (by omega)).trans ?_
 refine (if_pos (by omega)).trans ?_
 refine (if_pos (by omega)).trans ?_
 refine (if_pos (by omega)).trans ?_
 refine (if_pos (by omega)).trans ?_
 refine (if_pos (by omega)).trans ?_
 refine (if_pos (by omega)).trans ?_
 rw [Option.bind_some, Option.bind_some]
 refine (if_pos (by omega)).trans ?_
 rw [HV.out]
theorem bl5 (t ks : List Int) (n : Int) (ht : t.length = 16) (htb : Bs t) (c : Nat) (hc : c < 4) (K : Nat) (hK : 40 ≤ K) (d : Nat) (hd : d ≤ 4) :
  compeerref05_Block.l5 (K + d + 1) sbl ks n t ((all16 (mixF t)).take (4 * c + (4 - d))) c ((4 - d : Nat) : Int) = compeerref05_Block.l4 K sbl ks n t ((all16 (mixF t)).take (4 * c + 4)) ((c + 1 : Nat) : Int) := by
 induction d with
 | zero =>
  rw [show K + 0 + 1 = K + 1 from rfl, compeerref05_Block.l5]
  refine (if_neg (by omega)).trans ?_
  rw [w64_id (by omega) (by omega)]
  rfl
 | succ d ih =>
  have h := l5step t ks ((all16 (mixF t)).take (4 * c + (4 - (d + 1)))) n ht htb c (4 - (d + 1)) (K + d + 1) hc (by omega) (by omega) (by rw [all16_tl _ _ (by omega)]; omega)
  rw [show c * 4 + (4 - (d + 1)) = 4 * c + (4 - (d + 1)) by omega, ← all16_take _ _ (by omega), show 4 * c + (4 - (d + 1)) + 1 = 4 * c + (4 - d) by omega, show 4 - (d + 1) + 1 = 4 - d by omega] at h
  exact h.trans (ih (by omega))
theorem bl4 (t ks : List Int) (n : Int) (ht : t.length = 16) (htb : Bs t) (K : Nat) (hK : 40 ≤ K) (e : Nat) (he : e ≤ 4) :
  compeerref05_Block.l4 (K + 6 * e + 1) sbl ks n t ((all16 (mixF t)).take (4 * (4 - e))) ((4 - e : Nat) : Int) = compeerref05_Block.j6 K sbl ks n (all16 (mixF t)) := by
 induction e with
 | zero =>
  rw [show K + 6 * 0 + 1 = K + 1 from rfl, compeerref05_Block.l4]
  refine (if_neg (by omega)).trans ?_
  rw [show 4 * (4 - 0) = 16 from rfl, all16_all]
 | succ e ih =>
  rw [show K + 6 * (e + 1) + 1 = (K + 6 * e + 6) + 1 by omega, compeerref05_Block.l4]
  refine (if_pos (by omega)).trans ?_
  have := bl5 t ks n ht htb (4 - (e + 1)) (by omega) (K + 6 * e + 1) (by omega) 4 (by omega)
  rw [show 4 * (4 - (e + 1)) + (4 - 4) = 4 * (4 - (e + 1)) by omega, show 4 * (4 - (e + 1)) + 4 = 4 * (4 - e) by omega, show 4 - (e + 1) + 1 = 4 - e by omega] at this
  exact this.trans (ih (by omega))
theorem bl6 (u ks : List Int) (n : Nat) (hu : u.length = 16) (hk : ks.length = 176) (hn : n ≤ 10) : ∀ (d K : Nat), d ≤ 16 →
  compeerref05_Block.l6 (K + d + 1) sbl ks n (mapTo (fun i => x8 (nt u i) (nt ks (16 * n + i))) u (16 - d)) ((16 - d : Nat) : Int) = compeerref05_Block.l1 K sbl ks (xk u ks (16 * n)) ((n + 1 : Nat) : Int)
 | 0, K, _ => by
  rw [show K + 0 + 1 = K + 1 from rfl, compeerref05_Block.l6]
  refine (if_neg (by omega)).trans ?_
  rw [show 16 - 0 = 16 from rfl, mapTo_16, w64_id (by omega) (by omega)]
  rfl
 | d + 1, K, h => by
  have e : wrap64 (wrap64 (16 * (n : Int)) + ((16 - (d + 1) : Nat) : Int)) = ((16 * n + (16 - (d + 1)) : Nat) : Int) := by rw [w64_id (x := 16 * (n : Int)) (by omega) (by omega), w64_id (by omega) (by omega)]; omega
  rw [show K + (d + 1) + 1 = (K + d + 1) + 1 by omega, compeerref05_Block.l6]
  refine (if_pos (by omega)).trans ?_
  refine (if_pos (by omega)).trans ?_
  refine (if_pos (by rw [mapTo_len]; omega)).trans ?_
  refine (if_pos (by rw [e]; omega)).trans ?_
  refine (if_pos (by rw [e]; omega)).trans ?_
  rw [e, rd_nt, rd_nt, mapTo_at _ _ _ _ (by omega), if_neg (by omega), show (((16 - (d + 1) : Nat) : Int)).toNat = 16 - (d + 1) by omega, show wrap64 (((16 - (d + 1) : Nat) : Int) + 1) = ((16 - d : Nat) : Int) by rw [w64_id (by omega) (by omega)]; omega]
  rw [← bl6 u ks n hu hk hn d K (by omega), show 16 - d = (16 - (d + 1)) + 1 by omega, ← mapTo_set _ _ _ (by omega)]
  rfl
end Go.Proofs.YtejhjlfakfaegaaDoor
set_option linter.unusedSimpArgs false
set_option linter.unusedVariables false
namespace Go.Proofs.YtejhjlfakfaegaaDoor
open Go.RowKit Go.Proofs.YtejhjlfakfaegaaDoorW.PrintWords Go.Proofs.YtejhjlfakfaegaaDoor.PSealOpens

theorem x8_rot (a b c d : Int) (ha : B8 a) (hb : B8 b) (hc : B8 c) (hd : B8 d) : x8 (x8 (x8 a b) c) d = x8 (x8 (x8 b c) d) a := by
 rw [x8_assoc a b c ha hb hc, x8_assoc a _ d ha (x8_b _ _) hd, x8_comm a _ ha (x8_b _ _)]
theorem prd_b : ∀ (n : Nat) (a b p : Int), B8 p → B8 (prd n a b p)
 | 0, _, _, _, h => h
 | n + 1, a, b, p, h => by
  rw [prd]
  refine prd_b n _ _ _ ?_
  split
  ·exact x8_b _ _
  ·exact h
theorem mul2_b (a : Int) : B8 (mul2 a) := prd_b 8 a 2 0 ⟨by decide, by decide⟩
theorem mul3_b (a : Int) : B8 (mul3 a) := prd_b 8 a 3 0 ⟨by decide, by decide⟩
theorem mixAt_far (l : List Int) (c j : Nat) (hl : l.length = 16) (hc : c ≤ 12) (hj : j < 16) (h : j < c ∨ c + 3 < j) : nt (mixAt l c) j = nt l j := by
 unfold mixAt
 rw [nt_set (by simp [hl]; omega) (by simp [hl]; omega), if_neg (by omega), nt_set (by simp [hl]; omega) (by simp [hl]; omega), if_neg (by omega), nt_set (by simp [hl]; omega) (by simp [hl]; omega), if_neg (by omega), nt_set (by rw [hl]; omega) (by rw [hl]; omega), if_neg (by omega)]
theorem mixAt_near (l : List Int) (c : Nat) (hl : l.length = 16) (hb : Bs l) (hc : c ≤ 12) (h4 : c % 4 = 0) (r : Nat) (hr : r < 4) : nt (mixAt l c) (c + r) = mixF l (c + r) := by
 have b0 := hb.at c
 have b1 := hb.at (c + 1)
 have b2 := hb.at (c + 2)
 have b3 := hb.at (c + 3)
 unfold mixF
 rw [show (c + r) / 4 * 4 = c by omega, show (c + r) % 4 = r by omega]
 unfold mixAt
 have : r = 0 ∨ r = 1 ∨ r = 2 ∨ r = 3 := by omega
 rcases this with rfl | rfl | rfl | rfl
 ·rw [nt_set (by simp [hl]; omega) (by simp [hl]; omega), if_neg (by omega), nt_set (by simp [hl]; omega) (by simp [hl]; omega), if_neg (by omega), nt_set (by simp [hl]; omega) (by simp [hl]; omega), if_neg (by omega), nt_set (by rw [hl]; omega) (by rw [hl]; omega), if_pos (by omega)]
  rfl
 ·rw [nt_set (by simp [hl]; omega) (by simp [hl]; omega), if_neg (by omega), nt_set (by simp [hl]; omega) (by simp [hl]; omega), if_neg (by omega), nt_set (by simp [hl]; omega) (by simp [hl]; omega), if_pos (by omega)]
  exact x8_rot _ _ _ _ b0 (mul2_b _) (mul3_b _) b3
 ·rw [nt_set (by simp [hl]; omega) (by simp [hl]; omega), if_neg (by omega), nt_set (by simp [hl]; omega) (by simp [hl]; omega), if_pos (by omega)]
  exact (x8_rot _ _ _ _ b0 b1 (mul2_b _) (mul3_b _)).trans (x8_rot _ _ _ _ b1 (mul2_b _) (mul3_b _) b0)
 ·rw [nt_set (by simp [hl]; omega) (by simp [hl]; omega), if_pos (by omega)]
  exact ((x8_rot _ _ _ _ (mul3_b _) b1 b2 (mul2_b _)).trans (x8_rot _ _ _ _ b1 b2 (mul2_b _) (mul3_b _))).trans (x8_rot _ _ _ _ b2 (mul2_b _) (mul3_b _) b1)
theorem mixF_congr (l m : List Int) (c r : Nat) (h4 : c % 4 = 0) (hr : r < 4) (h : ∀ q, q < 4 → nt l (c + q) = nt m (c + q)) : mixF l (c + r) = mixF m (c + r) := by
 unfold mixF
 rw [show (c + r) / 4 * 4 = c by omega, show (c + r) % 4 = r by omega, h r hr, h ((r + 1) % 4) (Nat.mod_lt _ (by decide)), h ((r + 2) % 4) (Nat.mod_lt _ (by decide)), h ((r + 3) % 4) (Nat.mod_lt _ (by decide))]
/-- so many columns are turned -/
theorem mixN_at (t : List Int) (ht : t.length = 16) (hb : Bs t) : ∀ n, n ≤ 4 → ∀ j, j < 16 → nt (mixN t n) j = if j < 4 * n then mixF t j else nt t j
 | 0, _, j, hj => by rw [if_neg (by omega)]; rfl
 | n + 1, hn, j, hj => by
  have ih := mixN_at t ht hb n (by omega)
  rw [mixN]
  by_cases h : j < 4 * n ∨ 4 * n + 3 < j
  ·rw [mixAt_far _ _ _ (by rw [mixN_len, ht]) (by omega) hj h, ih j hj]
   by_cases h2 : j < 4 * n
   ·rw [if_pos h2, if_pos (by omega)]
   ·rw [if_neg h2, if_neg (by omega)]
  ·obtain ⟨r, hr⟩ : ∃ r, j = 4 * n + r := ⟨j - 4 * n, by omega⟩
   subst hr
   rw [mixAt_near _ _ (by rw [mixN_len, ht]) (mixN_bs t hb n) (by omega) (by omega) r (by omega), if_pos (by omega)]
   exact mixF_congr _ _ (4 * n) r (by omega) (by omega) fun q hq => by rw [ih _ (by omega), if_neg (by omega)]
theorem mixN_4 (t : List Int) (ht : t.length = 16) (hb : Bs t) : mixN t 4 = all16 (mixF t) :=
 nt_ext (by rw [mixN_len, ht]) (all16_len _) fun j hj => by rw [mixN_at t ht hb 4 (by omega) j hj, if_pos (by omega), all16_at _ _ hj]
/-- a round of the reference -/
theorem bround (s ks : List Int) (hs : s.length = 16) (hsb : Bs s) (hk : ks.length = 176) (n : Nat) (hn1 : 1 ≤ n) (hn : n ≤ 10) (K : Nat) (hK : 40 ≤ K) :
  ∃ F, K ≤ F ∧ F ≤ K + 80 ∧ compeerref05_Block.l1 F sbl ks s n = compeerref05_Block.l1 K sbl ks (rnd5 ks n s) ((n + 1 : Nat) : Int) := by
 have hj6 : ∀ (u : List Int), u.length = 16 → ∀ K, compeerref05_Block.j6 (K + 18) sbl ks n u = compeerref05_Block.l1 K sbl ks (xk u ks (16 * n)) ((n + 1 : Nat) : Int) := by
  intro u hu K
  rw [show K + 18 = (K + 16 + 1) + 1 from rfl, compeerref05_Block.j6]
  have := bl6 u ks n hu hk hn 16 K (by omega)
  rw [show 16 - 16 = 0 from rfl, mapTo_0 _ _ hu] at this
  exact this
 have hl2 : ∀ K, compeerref05_Block.l2 (K + 25) sbl ks s n [] 0 = if (n : Int) < 10 then compeerref05_Block.l4 K sbl ks n (ss s) [] 0 else compeerref05_Block.j6 K sbl ks n (ss s) := by
  intro K
  exact bl2 s ks n hs hsb K 4 (by omega)
 by_cases h10 : n < 10
 ·refine ⟨K + 18 + 25 + 25 + 1, by omega, by omega, ?_⟩
  rw [compeerref05_Block.l1]
  refine (if_pos (by omega)).trans ?_
  rw [hl2, if_pos (by omega)]
  have := bl4 (ss s) ks n (ss_len s) (ss_bs s) (K + 18) (by omega) 4 (by omega)
  refine Eq.trans this ?_
  rw [hj6 _ (all16_len _), rnd5, if_pos h10, mixN_4 _ (ss_len s) (ss_bs s)]
 ·refine ⟨K + 18 + 25 + 1, by omega, by omega, ?_⟩
  rw [compeerref05_Block.l1]
  refine (if_pos (by omega)).trans ?_
  rw [hl2, if_neg (by omega), hj6 _ (ss_len s), rnd5, if_neg h10]
theorem brounds (b ks : List Int) (hk : ks.length = 176) : ∀ (d K : Nat), 40 ≤ K → d ≤ 10 → ∃ F, K ≤ F ∧ F ≤ K + 80 * d + 1 ∧ compeerref05_Block.l1 F sbl ks (blkTo ks b (10 - d)) ((10 - d + 1 : Nat) : Int) = some (blk5 ks b)
 | 0, K, hK, _ => ⟨K + 1, by omega, by omega, by rw [compeerref05_Block.l1]; exact (if_neg (by omega)).trans rfl⟩
 | d + 1, K, hK, h => by
  obtain ⟨F, hF0, hF, he⟩ := brounds b ks hk d K hK (by omega)
  obtain ⟨F2, hF20, hF2, he2⟩ := bround (blkTo ks b (10 - (d + 1))) ks (blkTo_len _ _ _) (blkTo_bs _ _ _) hk (10 - (d + 1) + 1) (by omega) (by omega) F (by omega)
  refine ⟨F2, by omega, by omega, he2.trans ?_⟩
  rw [← he, show 10 - d = 10 - (d + 1) + 1 by omega]
  rfl
/-- the reference's Block: the program's -/
theorem blockP (key b : List Int) (hk : key.length = 16) (hkb : Bs key) (hb : b.length = 16) (K : Nat) (hK : 1300 ≤ K) : compeerref05_Block.f K sbl key b = some (blk5 (kGo key 160) b) := by
 obtain ⟨F, hF0, hF, he⟩ := brounds b (kGo key 160) (by rw [kGo_len, hk]) 10 400 (by omega) (by omega)
 refine leo_up (fun k => compeerref05_Block.f k sbl key b) (compeerref05_Block.mono sbl key b) (k := F + 17) (by omega) ?_
 show compeerref05_Block.f (F + 17) sbl key b = _
 unfold compeerref05_Block.f
 rw [keys5 key hk hkb _ (by omega), Option.bind_some]
 have := bl0 b (kGo key 160) hb (by rw [kGo_len, hk]) 16 F (by omega)
 exact this.trans he
end Go.Proofs.YtejhjlfakfaegaaDoor
set_option linter.unusedSimpArgs false
set_option linter.unusedVariables false
namespace Go.Proofs.YtejhjlfakfaegaaDoor
open Go.RowKit Go.Proofs.YtejhjlfakfaegaaDoorW.PrintWords Go.Proofs.YtejhjlfakfaegaaDoor.PSealOpens

theorem incTo_setg (l : List Int) (p : Nat) (h : p < 16) : (incTo l (p + 1)).set p ((nt l p + cAt l (15 - p)) % 256) = incTo l p :=
 nt_ext (by simp [incTo_len]) (incTo_len _ _) fun j hj => by
  rw [nt_set (by rw [incTo_len]; exact h) (by rw [incTo_len]; exact hj), incTo, incTo, all16_at _ _ hj, all16_at _ _ hj]
  by_cases e : p = j
  ·subst e; rw [if_pos rfl, if_pos (by omega)]
  ·rw [if_neg e]
   by_cases e2 : p + 1 ≤ j
   ·rw [if_pos e2, if_pos (by omega)]
   ·rw [if_neg e2, if_neg (by omega)]
theorem cAt_div (l : List Int) (hb : Bs l) (p : Nat) (h : p < 16) : (nt l p + cAt l (15 - p)) / 256 = cAt l (16 - p) := by
 have hx := hb.at p
 have hc := cAt_01 l (15 - p)
 rw [show 16 - p = (15 - p) + 1 by omega, cAt, show 15 - (15 - p) = p by omega]
 split <;> omega
theorem tm256 (x : Int) (h : 0 ≤ x) : Int.tmod x 256 = x % 256 := Int.tmod_eq_emod_of_nonneg h
theorem td256 (x : Int) (h : 0 ≤ x) : Int.tdiv x 256 = x / 256 := Int.tdiv_eq_ediv_of_nonneg h
theorem carry_b (l : List Int) (hb : Bs l) (p : Nat) : 0 ≤ nt l p + cAt l (15 - p) ∧ nt l p + cAt l (15 - p) ≤ 256 := by
 have hx := hb.at p
 have hc := cAt_01 l (15 - p)
 omega
theorem sl1_step (F out pad key b : List Int) (i : Int) (hF : F.length = 16) (hFb : Bs F) (p : Nat) (hp : p < 16) (K : Nat) :
  compeerref05_Stream.l1 (K + 1) sbl key b (incTo F (p + 1)) out pad i (cAt F (15 - p)) p = compeerref05_Stream.l1 K sbl key b (incTo F p) out pad i (cAt F (16 - p)) ((p : Int) - 1) := by
 obtain ⟨c0, c1⟩ := carry_b F hFb p
 have hx := hFb.at p
 have hr : rd (incTo F (p + 1)) (p : Int) = nt F p := by rw [rd_nt, incTo_at F p hp]
 have h1 : wrap64 (nt F p) = nt F p := w64_id (by omega) (by omega)
 have h2 : wrap64 (nt F p + cAt F (15 - p)) = nt F p + cAt F (15 - p) := w64_id (by omega) (by omega)
 have h3 : wrap64 (cAt F (16 - p)) = cAt F (16 - p) := w64_id (by have := cAt_01 F (16 - p); omega) (by have := cAt_01 F (16 - p); omega)
 have h4 : wrap64 ((p : Int) - 1) = (p : Int) - 1 := w64_id (by omega) (by omega)
 have hset := incTo_setg F p hp
 have hdiv := cAt_div F hFb p hp
 have hl : ((incTo F (p + 1)).length : Int) = 16 := by rw [incTo_len]; rfl
 have hg : (p : Int) < ((incTo F (p + 1)).length : Int) := by rw [hl]; omega
 have g0 : (p : Int) ≥ 0 := by omega
 rw [compeerref05_Stream.l1, hr, h1, h2, tm256 _ c0, td256 _ c0, hdiv, h3, h4, show (nt F p + cAt F (15 - p)) % 256 % 256 = (nt F p + cAt F (15 - p)) % 256 from Int.emod_emod_of_dvd _ (Int.dvd_refl _), show ((p : Int)).toNat = p by omega, hset]
 exact (if_pos g0).trans ((if_pos g0).trans (if_pos hg))
theorem sl1_all (F out pad key b : List Int) (i : Int) (hF : F.length = 16) (hFb : Bs F) (K : Nat) : ∀ d, d ≤ 16 →
  compeerref05_Stream.l1 (K + d) sbl key b (incTo F d) out pad i (cAt F (16 - d)) ((d : Int) - 1) = compeerref05_Stream.l1 K sbl key b (inc F) out pad i (cAt F 16) (-1)
 | 0, _ => by rw [incTo_0]; rfl
 | d + 1, h => by
  have := sl1_step F out pad key b i hF hFb d (by omega) (K + d)
  rw [show K + (d + 1) = K + d + 1 by omega, show ((d + 1 : Nat) : Int) - 1 = (d : Int) by omega, show 16 - (d + 1) = 15 - d by omega, this]
  exact sl1_all F out pad key b i hF hFb K d (by omega)
theorem sl1_end (at' out pad key b : List Int) (i : Nat) (cr : Int) (hi : i < b.length) (hb : b.length < 1000000) (hp : pad.length = 16) (ho : out.length = i) (K : Nat) :
  compeerref05_Stream.l1 (K + 1) sbl key b at' out pad i cr (-1) = compeerref05_Stream.l0 K sbl key b at' (out ++ [x8 (nt b i) (nt pad (i % 16))]) pad ((i + 1 : Nat) : Int) := by
 have hm := tmod_nat i
 have hlt : i % 16 < 16 := Nat.mod_lt _ (by decide)
 have hw : wrap64 ((i : Int) + 1) = ((i + 1 : Nat) : Int) := by rw [w64_id (by omega) (by omega)]; omega
 have g1 : ((i % 16 : Nat) : Int) < (pad.length : Int) := by omega
 have g2 : (i : Int) < (b.length : Int) := by omega
 have g3 : out.length < 140737488355328 := by omega
 have g4 : (0 : Int) ≤ (i : Int) := by omega
 have g5 : (0 : Int) ≤ ((i % 16 : Nat) : Int) := by omega
 rw [compeerref05_Stream.l1, hm, rd_nt, rd_nt, hw]
 refine (if_neg (by decide)).trans ?_
 exact (if_pos g4).trans ((if_pos g2).trans ((if_pos g5).trans ((if_pos g1).trans (if_pos g3))))
theorem sl0_plain (at' out pad key b : List Int) (i : Nat) (hi : i < b.length) (hb : b.length < 1000000) (hp : pad.length = 16) (ho : out.length = i) (hm16 : ¬ i % 16 = 0) (K : Nat) :
  compeerref05_Stream.l0 (K + 1) sbl key b at' out pad i = compeerref05_Stream.l0 K sbl key b at' (out ++ [x8 (nt b i) (nt pad (i % 16))]) pad ((i + 1 : Nat) : Int) := by
 have hm := tmod_nat i
 have hlt : i % 16 < 16 := Nat.mod_lt _ (by decide)
 have hw : wrap64 ((i : Int) + 1) = ((i + 1 : Nat) : Int) := by rw [w64_id (by omega) (by omega)]; omega
 have g1 : ((i % 16 : Nat) : Int) < (pad.length : Int) := by omega
 have g2 : (i : Int) < (b.length : Int) := by omega
 have g3 : out.length < 140737488355328 := by omega
 have g4 : (0 : Int) ≤ (i : Int) := by omega
 have g5 : (0 : Int) ≤ ((i % 16 : Nat) : Int) := by omega
 have gm : ¬ ((i % 16 : Nat) : Int) = 0 := by omega
 rw [compeerref05_Stream.l0, hm, rd_nt, rd_nt, hw]
 exact (if_pos g2).trans ((if_neg gm).trans ((if_pos g4).trans ((if_pos g5).trans ((if_pos g1).trans (if_pos g3)))))
theorem strm_take (ks f b : List Int) (i : Nat) (h : i < b.length) : (strm ks f b).take (i + 1) = (strm ks f b).take i ++ [x8 (nt b i) (nt (blk5 ks (incN f (i / 16))) (i % 16))] := by
 rw [List.take_succ_eq_append_getElem (by rw [strm_len]; exact h)]
 congr 1
 have := strm_at ks f b i h
 rw [nt_get (by rw [strm_len]; exact h)] at this
 rw [this]
/-- what is held of the block ahead of a byte -/
def padAt (ks f : List Int) (i : Nat) : List Int := if i = 0 then [] else blk5 ks (incN f ((i - 1) / 16))
theorem sl0 (key f b : List Int) (hk : key.length = 16) (hkb : Bs key) (hf : f.length = 16) (hfb : Bs f) (hb : b.length < 1000000) : ∀ (d : Nat), d ≤ b.length → ∃ F0, 1300 ≤ F0 ∧
  compeerref05_Stream.l0 F0 sbl key b (incN f ((b.length - d + 15) / 16)) ((strm (kGo key 160) f b).take (b.length - d)) (padAt (kGo key 160) f (b.length - d)) ((b.length - d : Nat) : Int) = some (strm (kGo key 160) f b)
 | 0, _ => by
  refine ⟨1301, by omega, ?_⟩
  rw [compeerref05_Stream.l0]
  refine (if_neg (by omega)).trans ?_
  rw [show b.length - 0 = b.length from rfl, List.take_of_length_le (by rw [strm_len]; exact Nat.le_refl _)]
 | d + 1, h => by
  obtain ⟨F0, hF0, he⟩ := sl0 key f b hk hkb hf hfb hb d (by omega)
  obtain ⟨i, hi⟩ : ∃ i, b.length - (d + 1) = i := ⟨_, rfl⟩
  have hi2 : b.length - d = i + 1 := by omega
  have hib : i < b.length := by omega
  rw [hi2] at he
  rw [hi]
  have htl : ((strm (kGo key 160) f b).take i).length = i := by rw [List.length_take, strm_len]; omega
  have hst := strm_take (kGo key 160) f b i hib
  have g0 : (i : Int) < (b.length : Int) := by omega
  have hm := tmod_nat i
  by_cases h16 : i % 16 = 0
  ·refine ⟨F0 + 18, by omega, ?_⟩
   have hq : (i + 15) / 16 = i / 16 := by omega
   have hpad : padAt (kGo key 160) f (i + 1) = blk5 (kGo key 160) (incN f (i / 16)) := by rw [padAt, if_neg (by omega)]; rfl
   have hinc : incN f ((i + 1 + 15) / 16) = inc (incN f (i / 16)) := by rw [show (i + 1 + 15) / 16 = i / 16 + 1 by omega]; rfl
   have hBl := blockP key (incN f (i / 16)) hk hkb (incN_len f hf _) (F0 + 17) (by omega)
   have h1 := sl1_all (incN f (i / 16)) ((strm (kGo key 160) f b).take i) (blk5 (kGo key 160) (incN f (i / 16))) key b i (incN_len f hf _) (incN_b f hf hfb _) (F0 + 1) 16 (by omega)
   have h2 := sl1_end (inc (incN f (i / 16))) ((strm (kGo key 160) f b).take i) (blk5 (kGo key 160) (incN f (i / 16))) key b i (cAt (incN f (i / 16)) 16) hib hb (blkTo_len _ _ 10) htl F0
   have gm : Int.tmod (i : Int) 16 = 0 := by rw [hm]; omega
   rw [compeerref05_Stream.l0, hq, hBl, Option.bind_some]
   refine (if_pos g0).trans ((if_pos gm).trans ?_)
   rw [incTo_16 _ (incN_len f hf _)] at h1
   refine Eq.trans h1 (Eq.trans h2 ?_)
   rw [← hst, ← he, hpad, hinc]
  ·refine ⟨F0 + 1, by omega, ?_⟩
   have hq : (i + 1 + 15) / 16 = (i + 15) / 16 := by omega
   have hpad : padAt (kGo key 160) f (i + 1) = blk5 (kGo key 160) (incN f (i / 16)) := by rw [padAt, if_neg (by omega)]; rfl
   have hpad0 : padAt (kGo key 160) f i = blk5 (kGo key 160) (incN f (i / 16)) := by rw [padAt, if_neg (by omega), show (i - 1) / 16 = i / 16 by omega]
   have h1 := sl0_plain (incN f ((i + 15) / 16)) ((strm (kGo key 160) f b).take i) (blk5 (kGo key 160) (incN f (i / 16))) key b i hib hb (blkTo_len _ _ 10) htl h16 F0
   rw [hpad0, h1, ← hst, ← he, hpad, hq]
/-- the reference's Stream: the program's -/
theorem streamP (key f b : List Int) (hk : key.length = 16) (hkb : Bs key) (hf : f.length = 16) (hfb : Bs f) (hb : b.length < 1000000) : ∃ K, compeerref05_Stream.f K sbl key f b = some (strm (kGo key 160) f b) := by
 obtain ⟨K, _, he⟩ := sl0 key f b hk hkb hf hfb hb b.length (Nat.le_refl _)
 refine ⟨K, ?_⟩
 unfold compeerref05_Stream.f
 rw [Option.bind_some]
 refine (if_pos (by simp; omega)).trans ?_
 rw [show b.length - b.length = 0 by omega] at he
 exact he
end Go.Proofs.YtejhjlfakfaegaaDoor
set_option linter.unusedSimpArgs false
set_option linter.unusedVariables false
namespace Go.Proofs.YtejhjlfakfaegaaDoor
open Go.RowKit Go.Proofs.YtejhjlfakfaegaaDoorW.PrintWords Go.Proofs.YtejhjlfakfaegaaDoor.PSealOpens

theorem rstream_any (key f b : List Int) (A0 A1 A2 A3 : Option Addr) (c0 c1 c2 c3 n : Nat) (w : World) (h0 : ReadsInt w .u8 A0 256 sbl) (h1 : ReadsInt w .u8 A1 16 key) (h2 : ReadsInt w .u8 A2 16 f) (h3 : ReadsInt w .u8 A3 n b)
  (hc0 : 256 ≤ c0) (hc1 : 16 ≤ c1) (hc2 : 16 ≤ c2) (hc3 : n ≤ c3) (hkb : Bs key) (hfb : Bs f) (hn : n < 1000000) :
  Calls Tryd.prog 27 #[.slice A0 256 c0, .slice A1 16 c1, .slice A2 16 c2, .slice A3 n c3] w fun e w' => ∃ v, e = .returned v ∧ w'.ownsRow w.heap.size 5 1 v n (nums .u8 (strm (kGo key 160) f b)) ∧ Below w.heap.size w w' := by
 have e0 := h0.1
 have e1 := h1.1
 have e2 := h2.1
 have e3 := h3.1
 obtain ⟨K, hK⟩ := streamP key f b e1 hkb e2 hfb (by omega)
 have := compeerref05_Stream.calls K A0 c0 sbl A1 c1 key A2 c2 f A3 c3 b _ w (Kd.C_of_reads (d := (0 : Int)) (h1 := fun _ => rfl) (by rw [e0]; exact h0)) (by omega) (Kd.C_of_reads (d := (0 : Int)) (h1 := fun _ => rfl) (by rw [e1]; exact h1)) (by omega) (Kd.C_of_reads (d := (0 : Int)) (h1 := fun _ => rfl) (by rw [e2]; exact h2)) (by omega) (Kd.C_of_reads (d := (0 : Int)) (h1 := fun _ => rfl) (by rw [e3]; exact h3)) (by omega) hK
 rw [e0, e1, e2, e3] at this
 refine this.mono fun e w' ⟨v, he, hR, hB⟩ => ⟨v, he, ?_, hB⟩
 have := Kd.own_of_R hR
 rw [strm_len, e3] at this
 exact this
end Go.Proofs.YtejhjlfakfaegaaDoor
