/- aes' double, product, box: what each answers. -/
import Derived.Test.YtejhjlfakfaegaaApp
import Derived.Great.Walk
set_option linter.unusedSimpArgs false
set_option linter.unusedVariables false
namespace Go.Proofs.Ytejhjlfakfaegaa
open Go.RowKit Go.Proofs.YtejhjlfakfaegaaW.PrintWords

def x8 (a b : Int) : Int := bits .xor .u8 a b
/-- is a byte -/
def B8 (x : Int) : Prop := 0 ≤ x ∧ x < 256
theorem bits_b (op : BinOp) (a b : Int) : B8 (bits op .u8 a b) := by unfold bits; rw [IntKind.wrap_u8]; unfold B8; omega
theorem x8_b (a b : Int) : B8 (x8 a b) := bits_b _ _ _
def dbl (b : Int) : Int := if 128 ≤ b then x8 (b * 2 % 256) 27 else b * 2
theorem dbl_b (b : Int) (h : B8 b) : B8 (dbl b) := by
  unfold dbl
  split
  · exact x8_b _ _
  · unfold B8 at *; omega
set_option maxHeartbeats 1000000 in
theorem double_any (b : Int) (w : World) (hb : B8 b) :
    Calls Try.prog 28 #[.int .u8 b] w fun e w' => e = .returned (.int .u8 (dbl b)) ∧ w = w' := by
  obtain ⟨h0, h1⟩ := hb
  by_cases h : 128 ≤ b
  · have hd : dbl b = bits .xor .u8 (b * 2 % 256) 27 := by unfold dbl x8; rw [if_pos h]
    have HD := Lib.hid hd
    clear hd
    go_enter Try.func28, Try.ntmps28
    go_wp2
    go_ret
    rw [HD.out]
    exact ⟨rfl, rfl⟩
  · have hd : dbl b = b * 2 := by unfold dbl; rw [if_neg h]
    have HD := Lib.hid hd
    clear hd
    go_enter Try.func28, Try.ntmps28
    go_wp2
    go_ret
    rw [HD.out]
    exact ⟨rfl, rfl⟩
/-- the product: what is left of it, by rounds -/
def prd : Nat → Int → Int → Int → Int
  | 0, _, _, p => p
  | n + 1, a, b, p => prd n (dbl a) (b / 2) (if b % 2 = 1 then x8 p a else p)
theorem prd_0 : ∀ (n : Nat) (a p : Int), prd n a 0 p = p
  | 0, _, _ => rfl
  | n + 1, a, p => by rw [prd, if_neg (by decide)]; exact prd_0 n _ _
theorem prd_more : ∀ (n : Nat) (a b p : Int), 0 ≤ b → b < 2 ^ n → prd (n + 1) a b p = prd n a b p
  | 0, a, b, p, h0, h => by
    obtain rfl : b = 0 := by simp at h; omega
    rw [prd_0, prd_0]
  | n + 1, a, b, p, h0, h => by
    rw [prd, prd_more n _ _ _ (by omega) (by rw [Int.pow_succ] at h; omega)]
    rfl
theorem and1 (b : Int) (h : B8 b) : bits .and .u8 b 1 = b % 2 := by
  obtain ⟨h0, h1⟩ := h
  obtain ⟨n, rfl⟩ := Int.eq_ofNat_of_zero_le h0
  have : ∀ m : Nat, m < 256 → bits .and .u8 (m : Int) 1 = (m : Int) % 2 := by decide +kernel
  exact this n (by omega)
set_option maxHeartbeats 1000000 in
theorem product_any (a b : Int) (w : World) (ha : B8 a) (hb : B8 b) :
    Calls Try.prog 42 #[.int .u8 a, .int .u8 b] w fun e w' => e = .returned (.int .u8 (prd 8 a b 0)) ∧ w = w' := by
  go_enter Try.func42, Try.ntmps42
  go_wp2
  go_loop [0, 1, 5] (fun u v p => ∃ x y z : Int, B8 x ∧ B8 y ∧ B8 z ∧ u = .int .u8 x ∧ v = .int .u8 y ∧ p = .int .u8 z ∧ prd 8 x y z = prd 8 a b 0) (fun _ v _ => (intOf v).toNat)
  case atStart => exact ⟨a, b, 0, ha, hb, by unfold B8; decide, rfl, rfl, rfl, rfl⟩
  case round =>
    obtain ⟨x, y, z, hx, hy, hz, rfl, rfl, rfl, he⟩ := hrel
    have HE := Lib.hid he
    have HX := Lib.hid hx
    have HY := Lib.hid hy
    have HZ := Lib.hid hz
    obtain ⟨x0, x1⟩ := hx
    obtain ⟨y0, y1⟩ := hy
    obtain ⟨z0, z1⟩ := hz
    clear he
    by_cases hpos : 0 < y
    · have hst : prd 8 (dbl x) (y / 2) (if y % 2 = 1 then x8 z x else z) = prd 8 x y z := by
        rw [show prd 8 x y z = prd 9 x y z from (prd_more 8 x y z y0 (by simpa using y1)).symm]
        rfl
      have HS := Lib.hid hst
      have ha1 := Lib.hid (and1 y HY.out)
      clear hst
      by_cases hodd : y % 2 = 1
      · have ht : (bits .and .u8 y 1 == 1) = true := by rw [ha1.out, hodd]; rfl
        have HO := Lib.hid hodd
        clear hodd
        go_wp2_with (go_at_call 28; with_reducible refine (double_any x _ HX.out).mono ?_; rintro e w2 ⟨rfl, rfl⟩)
        refine ⟨⟨dbl x, y / 2, x8 z x, dbl_b _ HX.out, ⟨by omega, by omega⟩, x8_b _ _, rfl, rfl, rfl, ?_⟩, by simp [intOf]; omega⟩
        rw [← HE.out, ← HS.out, if_pos HO.out]
      · have ht : (bits .and .u8 y 1 == 1) = false := by rw [ha1.out]; exact beq_eq_false_iff_ne.2 hodd
        have HO := Lib.hid hodd
        clear hodd
        go_wp2_with (go_at_call 28; with_reducible refine (double_any x _ HX.out).mono ?_; rintro e w2 ⟨rfl, rfl⟩)
        refine ⟨⟨dbl x, y / 2, z, dbl_b _ HX.out, ⟨by omega, by omega⟩, HZ.out, rfl, rfl, rfl, ?_⟩, by simp [intOf]; omega⟩
        rw [← HE.out, ← HS.out, if_neg HO.out]
    · obtain rfl : y = 0 := by omega
      go_wp2
      go_ret
      rw [← HE.out, prd_0]
      exact ⟨rfl, rfl⟩

/-! ### The box -/
def qNext (q : Int) : Int :=
  let q := x8 q (q * 2 % 256)
  let q := x8 q (q * 4 % 256)
  let q := x8 q (q * 16 % 256)
  if 128 ≤ q then x8 q 9 else q
def pNext (p : Int) : Int := x8 p (dbl p)
def xTo (q : Int) : Nat → Int
  | 0 => q
  | n + 1 => x8 (xTo q n) (bits .or .u8 (q * 2 ^ (n + 1) % 256) (q / 2 ^ (8 - (n + 1))))
def pAt : Nat → Int
  | 0 => 1
  | k + 1 => pNext (pAt k)
def qAt : Nat → Int
  | 0 => 1
  | k + 1 => qNext (qAt k)
def bxTo : Nat → Array Value
  | 0 => Array.replicate 256 (.int .u8 0)
  | k + 1 => (bxTo k).setIfInBounds (pAt (k + 1)).toNat (.int .u8 (x8 (xTo (qAt (k + 1)) 4) 99))
def bx : Array Value := (bxTo 255).setIfInBounds 0 (.int .u8 99)
theorem pAt_b : ∀ k, B8 (pAt k)
  | 0 => by unfold B8; decide
  | k + 1 => x8_b _ _
theorem qNext_b (q : Int) : B8 (qNext q) := by
  unfold qNext
  dsimp only
  split <;> exact x8_b _ _
theorem qAt_b : ∀ k, B8 (qAt k)
  | 0 => by unfold B8; decide
  | k + 1 => qNext_b _
theorem bxTo_size : ∀ k, (bxTo k).size = 256
  | 0 => by simp [bxTo]
  | k + 1 => by rw [bxTo, Array.size_setIfInBounds, bxTo_size k]
theorem setCell_alloc (w : World) (b : Array Value) (T : TypeId) (i m : Nat) (v : Value) : ((w.alloc (.cells b T)).drewN m).setCell ⟨w.heap.size, i, none⟩ v = (w.alloc (.cells (b.setIfInBounds i v) T)).drewN m := by
  have h : (((w.alloc (.cells b T)).drewN m).setCell ⟨w.heap.size, i, none⟩ v).heap = ((w.alloc (.cells (b.setIfInBounds i v) T)).drewN m).heap := by
    apply Array.ext_getElem?
    intro k
    show ((w.heap.push _).modify _ _)[k]? = (w.heap.push _)[k]?
    rw [Array.getElem?_modify, Array.getElem?_push, Array.getElem?_push]
    by_cases hk : k = w.heap.size
    · subst hk; simp
    · rw [if_neg (fun e => hk e.symm), if_neg hk, if_neg hk]
  exact congrArg (fun h => { w.drewN m with heap := h }) h
set_option maxHeartbeats 1000000 in
set_option maxRecDepth 100000 in
theorem box_any (w : World)  :
    Calls Try.prog 27 #[] w fun e w' => e = .returned (.pointer (some ⟨w.heap.size, 0, none⟩)) ∧ ∃ m, w' = (w.alloc (.cells bx 70)).drewN m := by
  go_enter Try.func27, Try.ntmps27
  go_wp2_with (refine Great.wpList_runTo rfl (some 1) rfl (.pointer (some ⟨w.heap.size, 0, none⟩)) (w.alloc (.cells (bxTo 0) 70)) (by kernel_rfl) ?_)
  go_loopw [2, 3, 6] (fun p q i wr => ∃ k m : Nat, k ≤ 255 ∧ i = .int .i64 k ∧ p = .int .u8 (pAt k) ∧ q = .int .u8 (qAt k) ∧ wr = (w.alloc (.cells (bxTo k) 70)).drewN m) (fun _ _ i _ => (255 - intOf i).toNat)
  case atStart => exact ⟨0, 0, by omega, rfl, rfl, rfl, rfl⟩
  case round =>
    obtain ⟨k, m, hk, rfl, rfl, rfl, rfl⟩ := hrel
    by_cases hlt : k < 255
    · have hpn : pAt (k + 1) = bits .xor .u8 (pAt k) (dbl (pAt k)) := rfl
      have HPN := Lib.hid hpn
      have HBN : Hid (bxTo (k + 1) = (bxTo k).setIfInBounds (pAt (k + 1)).toNat (.int .u8 (bits .xor .u8 (xTo (qAt (k + 1)) 4) 99))) := Lib.hid rfl
      have HPB := Lib.hid (pAt_b k)
      have HQ' := Lib.hid (qAt_b (k + 1))
      have HP' := Lib.hid (pAt_b (k + 1))
      obtain ⟨p0, p1⟩ := pAt_b k
      obtain ⟨q0, q1⟩ := qAt_b k
      have HSZ := Lib.hid (bxTo_size k)
      have HQN : Hid (qAt (k + 1) = if 128 ≤ bits .xor .u8 (bits .xor .u8 (bits .xor .u8 (qAt k) (qAt k * 2 % 256)) (bits .xor .u8 (qAt k) (qAt k * 2 % 256) * 4 % 256)) (bits .xor .u8 (bits .xor .u8 (qAt k) (qAt k * 2 % 256)) (bits .xor .u8 (qAt k) (qAt k * 2 % 256) * 4 % 256) * 16 % 256) then bits .xor .u8 (bits .xor .u8 (bits .xor .u8 (bits .xor .u8 (qAt k) (qAt k * 2 % 256)) (bits .xor .u8 (qAt k) (qAt k * 2 % 256) * 4 % 256)) (bits .xor .u8 (bits .xor .u8 (qAt k) (qAt k * 2 % 256)) (bits .xor .u8 (qAt k) (qAt k * 2 % 256) * 4 % 256) * 16 % 256)) 9 else bits .xor .u8 (bits .xor .u8 (bits .xor .u8 (qAt k) (qAt k * 2 % 256)) (bits .xor .u8 (qAt k) (qAt k * 2 % 256) * 4 % 256)) (bits .xor .u8 (bits .xor .u8 (qAt k) (qAt k * 2 % 256)) (bits .xor .u8 (qAt k) (qAt k * 2 % 256) * 4 % 256) * 16 % 256)) := Lib.hid rfl
      clear hpn
      generalize hgp : pAt (k + 1) = p' at *
      generalize hgq : qAt (k + 1) = q' at *
      generalize hgb : bxTo (k + 1) = b' at *
      have HGP := Lib.hid hgp
      have HGQ := Lib.hid hgq
      have HGB := Lib.hid hgb
      clear hgp hgq hgb
      generalize pAt k = p at *
      generalize qAt k = q at *
      generalize bxTo k = b at *
      go_wp2_with (go_at_call 28; with_reducible refine (double_any p _ HPB.out).mono ?_; rintro e w2 ⟨rfl, rfl⟩)
      all_goals
        have hq := HQN.out
        first | rw [if_pos (by assumption)] at hq | rw [if_neg (by omega)] at hq
        rw [← hq, ← HPN.out]
        clear hq HQN HPN
        obtain ⟨q0', q1'⟩ := HQ'.out
        obtain ⟨p0', p1'⟩ := HP'.out
        go_loopw [4, 5] (fun x n wr => ∃ (N : Int) (m' : Nat), 1 ≤ N ∧ N ≤ 5 ∧ n = .int .i64 N ∧ x = .int .u8 (xTo q' (N.toNat - 1)) ∧ wr = (w.alloc (.cells b 70)).drewN m') (fun _ n _ => (5 - intOf n).toNat)
        case atStart => exact ⟨1, m, by omega, by omega, rfl, rfl, rfl⟩
        case round =>
          obtain ⟨N, m', hN, hN', rfl, rfl, rfl⟩ := hrel
          by_cases h5 : N = 5
          · subst h5
            have hx : xTo q' ((5 : Int).toNat - 1) = xTo q' 4 := rfl
            rw [hx]
            have HBNo := HBN.out
            generalize xTo q' 4 = x at *
            have hcell : b[p'.toNat]? = some (b[p'.toNat]'(by rw [HSZ.out]; omega)) := Array.getElem?_eq_getElem _
            have HBN' := Lib.hid HBNo
            clear HBNo HBN hx
            go_wp2
            refine ⟨⟨k + 1, m', by omega, by go_num, by rw [HGP.out], by rw [HGQ.out], ?_⟩, by simp [intOf]; omega⟩
            rw [setCell_alloc, HGB.out, HBN'.out]
          · have : N = 1 ∨ N = 2 ∨ N = 3 ∨ N = 4 := by omega
            rcases this with rfl | rfl | rfl | rfl
            all_goals
              generalize hy : xTo q' _ = x
              have HY := Lib.hid hy
              clear hy
              go_wp2
              go_quiet (fail)
              go_wp2
              refine ⟨⟨_, _, ?_, ?_, rfl, ?_, rfl⟩, by simp [intOf]⟩
              · omega
              · omega
              · rw [← HY.out]
                rfl
    · obtain rfl : k = 255 := by omega
      obtain ⟨v0, hcell⟩ : ∃ v, (bxTo 255)[0]? = some v := ⟨_, Array.getElem?_eq_getElem (by rw [bxTo_size]; omega)⟩
      generalize hB : bxTo 255 = B at *
      have HB : Hid (B.setIfInBounds 0 (.int .u8 99) = bx) := Lib.hid (by rw [← hB]; rfl)
      clear hB
      go_wp2
      go_ret
      refine ⟨rfl, m, ?_⟩
      rw [← HB.out, ← setCell_alloc]
end Go.Proofs.Ytejhjlfakfaegaa
