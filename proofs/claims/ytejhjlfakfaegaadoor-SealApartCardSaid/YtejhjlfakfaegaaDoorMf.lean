/- The reference's Digits. octet's Equal; seal's part and from. seal's from and part. seal's tape: New, Open, Fresh, Seal, Digest, Text, Derive. seal's Fresh, Digest, Text, Derive. seal's Seal, Digest, Text, Derive. The reference's Derive: bytes appended to a converted string. Same of any two rows; the reference's Open. The reference's Open. What is in a box that was sealed; the example of law 06. The example of law 06. -/
import Derived.Test.YtejhjlfakfaegaaDoorMa
import Derived.Lib.ItoaMem
import Derived.Lib.ItoaLen
import Derived.Deep.RegionHeld3
import Derived.Test.YtejhjlfakfaegaaDoorMd
import Derived.Test.YtejhjlfakfaegaaDoorShelf
import Derived.IntWalk
import Derived.Test.YtejhjlfakfaegaaDoorMb
import Derived.Test.YtejhjlfakfaegaaDoorMe
set_option linter.unusedSimpArgs false
set_option linter.unusedVariables false
namespace Go.Proofs.YtejhjlfakfaegaaDoor
open Go.RowKit Go.Proofs.YtejhjlfakfaegaaDoorW.PrintWords
theorem tkp {P : Program} {ops : Array Oper} {Q : Exit → Act → World → Prop} {md : Region.Mode} {S : World → Prop} {fuel : Nat} {listed : Array Bool} {a : Act} {w : World} (i : Nat) {oi : Oper} {v : Value} (hy : ∀ w, S w → (execOp a.eval oi).run P w = .ok (.value v) w)
  (h : wpAnyH P md ops Q S fuel (listed.setIfInBounds i true) (a.put oi.dst v) w) (hi : ops[i]? = some oi := by rfl) (hs : Region.noSelect ops = true := by kernel_rfl) (hf : Region.free md ops listed i = true := by kernel_rfl) (hr : (Region.ready md ops listed).contains i = true := by kernel_rfl)
  (hQ : ∀ c a w, Q (.panic c) (a.put oi.dst v) w → Q (.panic c) a w := by exact fun _ _ _ h => h) (hw : Region.wanted oi (yielded ops a.tmps) = true := by rfl) (hS : S w := by assumption) : wpAnyH P md ops Q S (fuel + 1) listed a w :=
 wpAnyH_take hi hs hf hr hQ (.inl ⟨hw, hy⟩) hS h

/-- the byte of a digit -/
def dgt (m : Nat) : UInt8 := UInt8.ofNat (48 + m % 10)
theorem dec_lt (m : Nat) (h : m < 10) : Lib.decDigits m = [dgt m] := by rw [Lib.decDigits_one h, dgt, Nat.mod_eq_of_lt h]
theorem dec_ge (m : Nat) (h : 10 ≤ m) : Lib.decDigits m = Lib.decDigits (m / 10) ++ [dgt m] := by
 rw [Lib.decDigits, dif_neg (by omega)]
 rfl
theorem enc_dgt (m : Nat) : Utf8.encode (48 + (m : Int) % 10) = ⟨#[dgt m]⟩ := by
 have h : ∀ d : Nat, d < 10 → Utf8.encode (48 + (d : Int)) = ⟨#[UInt8.ofNat (48 + d)]⟩ := by
  intro d hd
  have : ∀ d : Fin 10, Utf8.encode (48 + (d.val : Int)) = ⟨#[UInt8.ofNat (48 + d.val)]⟩ := by decide +kernel
  exact this ⟨d, hd⟩
 have := h (m % 10) (Nat.mod_lt _ (by omega))
 rw [show ((m % 10 : Nat) : Int) = (m : Int) % 10 by omega] at this
 exact this
def preD (m : Nat) : List UInt8 := if m < 10 then [] else Lib.decDigits (m / 10)
theorem preD_start (N : Nat) : preD N ++ [dgt N] = Lib.decDigits N := by
 unfold preD
 by_cases h : N < 10
 ·rw [if_pos h, dec_lt N h]; rfl
 ·rw [if_neg h, dec_ge N (by omega)]
theorem preD_step (m : Nat) (h : 10 ≤ m) (l : List UInt8) : preD (m / 10) ++ (dgt (m / 10) :: l) = preD m ++ l := by
 rw [show dgt (m / 10) :: l = [dgt (m / 10)] ++ l from rfl, ← List.append_assoc, preD_start, preD, if_neg (by omega)]
theorem str_app (c : UInt8) (s : ByteArray) : (⟨#[c]⟩ ++ s : ByteArray).data.toList = c :: s.data.toList := by
 rw [ByteArray.data_append]
 simp
theorem str_of (s : ByteArray) (l : List UInt8) (h : s.data.toList = l) : s = ⟨l.toArray⟩ := by
 subst h
 cases s
 simp
theorem dec_len (N : Nat) (h : N ≤ 9223372036854775808) : (Lib.decDigits N).length ≤ 21 := by
 by_cases h0 : N = 0
 ·subst h0; rw [dec_lt 0 (by omega)]; decide
 ·have := Lib.itoa_length_le (-(N : Int)) (by omega) (by omega)
  rw [Lib.itoa_neg N (by omega), List.length_cons] at this
  omega
theorem suf_len {p s : List UInt8} {N : Nat} (hN : N ≤ 9223372036854775808) (h : p ++ s = Lib.decDigits N) : s.length ≤ 21 := by
 have h1 := dec_len N hN
 rw [← h, List.length_append] at h1
 omega
set_option maxRecDepth 100000 in
set_option maxHeartbeats 1000000 in
theorem digits_pos (N : Nat) (w : World) (hN : N < 9223372036854775808) :
  Calls Tryd.prog 25 #[.int .i64 (N : Int)] w fun e w' => e = .returned (.string ⟨(Lib.decDigits N).toArray⟩) ∧ w = w' := by
 have HST := Lib.hid (preD_start N)
 go_enter Tryd.func25, Tryd.ntmps25
 go_wp2
 go_loop [0, 4] (fun a b => ∃ (m : Nat) (s : ByteArray), m < 9223372036854775808 ∧ a = .int .i64 (m : Int) ∧ b = .string s ∧ Hid (preD m ++ s.data.toList = Lib.decDigits N)) (fun a _ => (intOf a).toNat)
 case atStart => exact ⟨N, _, hN, rfl, rfl, Lib.hid (by rw [enc_dgt N]; exact HST.out)⟩
 case round =>
  obtain ⟨m, s, hm, rfl, rfl, HI⟩ := hrel
  have hz : s.size ≤ 21 := by have := suf_len (by omega) HI.out; rwa [data_length] at this
  by_cases h : 10 ≤ m
  ·have hEm : Utf8.encode (48 + (m : Int) / 10 % 10) = ⟨#[dgt (m / 10)]⟩ := by rw [← enc_dgt (m / 10)]; congr 1
   have hz1 : ¬ 9223372036854775807 < (Utf8.encode (48 + (m : Int) / 10 % 10)).size + s.size := by rw [hEm]; show ¬ 9223372036854775807 < 1 + s.size; omega
   clear hEm
   have HS := Lib.hid (preD_step m h s.data.toList)
   go_wp2
   go_round
   case rel => exact ⟨m / 10, _, by omega, by go_num, rfl, Lib.hid (by rw [show Utf8.encode (48 + (m : Int) / 10 % 10) = ⟨#[dgt (m / 10)]⟩ by rw [← enc_dgt (m / 10)]; congr 1, str_app, HS.out]; exact HI.out)⟩
   case measure => simp [intOf]; omega
  ·have HE := HI.out
   rw [preD, if_pos (by omega), List.nil_append] at HE
   have HS := Lib.hid (str_of _ _ HE)
   clear HE
   go_wp2
   go_ret
   exact ⟨by rw [HS.out]; rfl, rfl⟩
theorem neg_end (m : Nat) (s : ByteArray) {N : Nat} (hm : m < 10) (h : Lib.decDigits m ++ s.data.toList = Lib.decDigits N) : (⟨#[45]⟩ ++ Utf8.encode (48 + (m : Int) % 10) ++ s : ByteArray) = ⟨(45 :: Lib.decDigits N).toArray⟩ := by
 refine str_of _ _ ?_
 rw [enc_dgt m, ← h, dec_lt m hm, ByteArray.data_append, ByteArray.data_append]
 simp
set_option maxRecDepth 100000 in
set_option maxHeartbeats 1000000 in
theorem digits_neg (N : Nat) (w : World) (h0 : 0 < N) (hN : N ≤ 9223372036854775808) :
  Calls Tryd.prog 25 #[.int .i64 (-(N : Int))] w fun e w' => e = .returned (.string ⟨(45 :: Lib.decDigits N).toArray⟩) ∧ w = w' := by
 go_enter Tryd.func25, Tryd.ntmps25
 go_wp2
 go_loop [0, 3] (fun a b => ∃ (m : Nat) (s : ByteArray), 0 < m ∧ m ≤ 9223372036854775808 ∧ a = .int .i64 (-(m : Int)) ∧ b = .string s ∧ Hid (Lib.decDigits m ++ s.data.toList = Lib.decDigits N)) (fun a _ => (-intOf a).toNat)
 case atStart => exact ⟨N, ByteArray.empty, h0, hN, rfl, rfl, Lib.hid (by simp)⟩
 case round =>
  obtain ⟨m, s, hm0, hm, rfl, rfl, HI⟩ := hrel
  have hz : s.size ≤ 21 := by have := suf_len (by omega) HI.out; rwa [data_length] at this
  have hz1 : ¬ 9223372036854775807 < (Utf8.encode (48 + (m : Int) % 10)).size + s.size := by rw [enc_dgt m]; show ¬ 9223372036854775807 < 1 + s.size; omega
  by_cases h : 10 ≤ m
  ·have HS := Lib.hid (dec_ge m h)
   go_wp2
   go_round
   case rel => exact ⟨m / 10, _, by omega, by omega, by go_num, rfl, Lib.hid (by rw [enc_dgt m, str_app, ← HI.out, HS.out]; simp)⟩
   case measure => simp [intOf]; omega
  ·clear hz1
   have hz2 : ¬ 9223372036854775807 < 1 + (Utf8.encode (48 + (m : Int) % 10)).size := by rw [enc_dgt m]; show ¬ 9223372036854775807 < 1 + 1; omega
   have hz3 : ¬ 9223372036854775807 < 1 + (Utf8.encode (48 + (m : Int) % 10)).size + s.size := by rw [enc_dgt m]; show ¬ 9223372036854775807 < 1 + 1 + s.size; omega
   go_wp2
   go_ret
   exact ⟨by rw [← neg_end m s (by omega) HI.out]; rfl, rfl⟩
/-- Digits: the decimal numeral -/
theorem digits_any (n : Int) (w : World) (h0 : -9223372036854775808 ≤ n) (h1 : n ≤ 9223372036854775807) :
  Calls Tryd.prog 25 #[.int .i64 n] w fun e w' => e = .returned (.string ⟨(Lib.itoa n).toArray⟩) ∧ w = w' := by
 by_cases h : 0 ≤ n
 ·obtain ⟨N, rfl⟩ := Int.eq_ofNat_of_zero_le h
  rw [Lib.itoa_nonneg]
  exact digits_pos N w (by omega)
 ·obtain ⟨N, rfl⟩ : ∃ N : Nat, n = -(N : Int) := ⟨n.natAbs, by omega⟩
  rw [Lib.itoa_neg N (by omega)]
  exact digits_neg N w (by omega) (by rw [Int.not_le] at h; omega)
end Go.Proofs.YtejhjlfakfaegaaDoor
set_option linter.unusedSimpArgs false
set_option linter.unusedVariables false
namespace Go.Proofs.YtejhjlfakfaegaaDoor
open Go.RowKit Go.Proofs.YtejhjlfakfaegaaDoorW.PrintWords

/-! ### octet.at, octet.Equal -/
set_option maxHeartbeats 1000000 in
theorem oat_any (A : Option Addr) (n c k : Nat) (l : List Int) (w : World) (hr : ReadsInt w .u8 A n l) (hk : k < 9223372036854775807) :
  Calls Tryd.prog 37 #[.slice A n c, .int .i64 (k : Int)] w fun e w' => e = .returned (.int .u8 (nt l k)) ∧ w = w' := by
 have hm := hr.2.1
 by_cases hlt : k < n
 ·obtain ⟨ad, rfl, hc⟩ := hr.2.2 (by omega)
  have hck := hc k hlt
  change w.cell? (ad.add k) = some (.int .u8 (nt l k)) at hck
  clear hr hc
  go_enter Tryd.func37, Tryd.ntmps37
  go_wp2
  go_ret
  exact ⟨rfl, rfl⟩
 ·have hz : nt l k = 0 := nt_end l k (by rw [hr.1]; omega)
  have HZ := Lib.hid hz
  clear hz hr
  go_enter Tryd.func37, Tryd.ntmps37
  go_wp2
  go_ret
  rw [HZ.out]
  exact ⟨rfl, rfl⟩
theorem x8_zero (a b : Int) (ha : B8 a) (hb : B8 b) : x8 a b = 0 ↔ a = b := by
 obtain ⟨a0, a1⟩ := ha
 obtain ⟨b0, b1⟩ := hb
 obtain ⟨m, rfl⟩ := Int.eq_ofNat_of_zero_le a0
 obtain ⟨n, rfl⟩ := Int.eq_ofNat_of_zero_le b0
 have h : m ^^^ n < 2 ^ 8 := Nat.xor_lt_two_pow (n := 8) (by omega) (by omega)
 have e : x8 (m : Int) (n : Int) = ((m ^^^ n : Nat) : Int) := by
  show IntKind.u8.wrap (((BitVec.ofInt 8 (m : Int)) ^^^ (BitVec.ofInt 8 (n : Int))).toNat : Int) = _
  rw [BitVec.ofInt_natCast, BitVec.ofInt_natCast, BitVec.toNat_xor, BitVec.toNat_ofNat, BitVec.toNat_ofNat, Nat.mod_eq_of_lt (show m < 2 ^ 8 by omega), Nat.mod_eq_of_lt (show n < 2 ^ 8 by omega), IntKind.wrap_u8]
  omega
 rw [e]
 have h1 : m ^^^ n = 0 ↔ m = n := by
  constructor
  ·intro h0
   have : m ^^^ n ^^^ n = 0 ^^^ n := by rw [h0]
   rwa [Nat.xor_assoc, Nat.xor_self, Nat.xor_zero, Nat.zero_xor] at this
  ·rintro rfl
   exact Nat.xor_self _
 omega
def or8 (a b : Int) : Int := bits .or .u8 a b
theorem or8_zero (a b : Int) (ha : B8 a) (hb : B8 b) : or8 a b = 0 ↔ a = 0 ∧ b = 0 := by
 obtain ⟨a0, a1⟩ := ha
 obtain ⟨b0, b1⟩ := hb
 obtain ⟨m, rfl⟩ := Int.eq_ofNat_of_zero_le a0
 obtain ⟨n, rfl⟩ := Int.eq_ofNat_of_zero_le b0
 have h : m ||| n < 2 ^ 8 := Nat.or_lt_two_pow (n := 8) (by omega) (by omega)
 have e : or8 (m : Int) (n : Int) = ((m ||| n : Nat) : Int) := by
  show IntKind.u8.wrap (((BitVec.ofInt 8 (m : Int)) ||| (BitVec.ofInt 8 (n : Int))).toNat : Int) = _
  rw [BitVec.ofInt_natCast, BitVec.ofInt_natCast, BitVec.toNat_or, BitVec.toNat_ofNat, BitVec.toNat_ofNat, Nat.mod_eq_of_lt (show m < 2 ^ 8 by omega), Nat.mod_eq_of_lt (show n < 2 ^ 8 by omega), IntKind.wrap_u8]
  omega
 rw [e]
 have := @Nat.or_eq_zero_iff m n
 omega
def dTo (a b : List Int) : Nat → Int
 | 0 => 0
 | k + 1 => or8 (dTo a b k) (x8 (nt a k) (nt b k))
theorem dTo_b (a b : List Int) : ∀ k, B8 (dTo a b k)
 | 0 => by unfold dTo B8; decide
 | k + 1 => by rw [dTo]; exact bits_b _ _ _
theorem dTo_zero (a b : List Int) (ha : Bs a) (hb : Bs b) : ∀ k, dTo a b k = 0 ↔ sameTo a b k
 | 0 => by simp [dTo, sameTo]
 | k + 1 => by
  rw [dTo, or8_zero _ _ (dTo_b _ _ _) (x8_b _ _), dTo_zero a b ha hb k, x8_zero _ _ (ha.at k) (hb.at k)]
  constructor
  ·rintro ⟨h1, h2⟩ j hj
   by_cases e : j = k
   ·rw [e]; exact h2
   ·exact h1 j (by omega)
  ·intro h
   exact ⟨fun j hj => h j (by omega), h k (by omega)⟩
theorem eq_dec (a b : List Int) (ha : Bs a) (hb : Bs b) (d : Int) (hd : d = dTo a b (max a.length b.length)) : (decide (d = 0) && decide (a.length = b.length)) = decide (a = b) := by
 rw [Bool.eq_iff_iff]
 simp only [Bool.and_eq_true, decide_eq_true_eq]
 rw [hd, dTo_zero a b ha hb]
 constructor
 ·rintro ⟨h1, h2⟩
  exact same_of a b h2 (fun j hj => h1 j (by omega))
 ·rintro rfl
  exact ⟨fun j _ => rfl, rfl⟩
set_option maxHeartbeats 1000000 in
theorem equal_any (A B : Option Addr) (n c m d : Nat) (a b : List Int) (w : World) (hra : ReadsInt w .u8 A n a) (hrb : ReadsInt w .u8 B m b) (ha : Bs a) (hb : Bs b) (hn : n < 1000000) (hm : m < 1000000) :
  Calls Tryd.prog 18 #[.slice A n c, .slice B m d] w fun e w' => e = .returned (.bool (decide (a = b))) ∧ w = w' := by
 have HA := Lib.hid hra
 have HB := Lib.hid hrb
 have HD : Hid (∀ x : Int, x = dTo a b (max n m) → (decide (x = 0) && decide (n = m)) = decide (a = b)) := Lib.hid fun x hx => by
  have := eq_dec a b ha hb x (by rw [hra.1, hrb.1]; exact hx)
  rw [hra.1, hrb.1] at this
  exact this
 clear hra hrb
 obtain ⟨q, hq⟩ : ∃ q : Nat, q = max n m := ⟨_, rfl⟩
 have hq0 : q < 1000000 := by omega
 have hmx : max (n : Int) (m : Int) = (q : Int) := by omega
 have HQ := Lib.hid hq
 clear hq
 go_enter Tryd.func18, Tryd.ntmps18
 go_wp2
 go_loop [5, 6, 12] (fun v _ i => ∃ k : Nat, k ≤ q ∧ i = .int .i64 k ∧ v = .int .u8 (dTo a b k)) (fun _ _ i => q - (intOf i).toNat)
 case atStart => exact ⟨0, by omega, rfl, rfl⟩
 case round =>
  obtain ⟨k, hk, rfl, rfl⟩ := hrel
  by_cases hlt : k < q
  ·obtain ⟨d0, d1⟩ := dTo_b a b k
   have HDS : Hid (dTo a b (k + 1) = or8 (dTo a b k) (x8 (nt a k) (nt b k))) := Lib.hid rfl
   obtain ⟨d', hde⟩ : ∃ d', d' = dTo a b (k + 1) := ⟨_, rfl⟩
   have HDE := Lib.hid hde
   clear hde
   rw [← HDE.out] at HDS
   generalize dTo a b k = dk at *
   go_wp2_with fail
   refine (oat_any A n c k a _ HA.out (by omega)).mono ?_
   rintro e w1 ⟨rfl, rfl⟩
   go_wp2_with fail
   refine (oat_any B m d k b _ HB.out (by omega)).mono ?_
   rintro e w1 ⟨rfl, rfl⟩
   obtain ⟨x0, x1⟩ := ha.at k
   obtain ⟨y0, y1⟩ := hb.at k
   go_wp2
   go_round
   case rel => exact ⟨k + 1, by omega, by go_num, by rw [← HDE.out, HDS.out]; rfl⟩
   case measure => simp [intOf]; omega
  ·obtain rfl : k = q := by omega
   have HZ := Lib.hid (HD.out _ (by rw [HQ.out] : dTo a b k = dTo a b (max n m)))
   obtain ⟨d0, d1⟩ := dTo_b a b k
   generalize dTo a b k = dk at *
   by_cases hz : dk = 0
   ·subst hz
    by_cases hnm : n = m
    ·subst hnm
     have HZ2 : Hid (decide (a = b) = true) := Lib.hid (by rw [← HZ.out]; simp)
     have t1 : ((0 : Int) == 0) = true := by decide
     clear HZ
     go_wp2
     go_ret
     rw [HZ2.out]
     exact ⟨rfl, rfl⟩
    ·have HZ2 : Hid (decide (a = b) = false) := Lib.hid (by rw [← HZ.out]; simp [hnm])
     have t1 : ((0 : Int) == 0) = true := by decide
     have t2 : ((n : Int) == (m : Int)) = false := beq_eq_false_iff_ne.2 (by omega)
     clear HZ
     go_wp2
     go_ret
     rw [HZ2.out]
     exact ⟨rfl, rfl⟩
   ·have HZ2 : Hid (decide (a = b) = false) := Lib.hid (by rw [← HZ.out]; simp [hz])
    have t1 : (dk == 0) = false := beq_eq_false_iff_ne.2 hz
    clear HZ hz
    go_wp2
    go_ret
    rw [HZ2.out]
    exact ⟨rfl, rfl⟩

/-! ### The table that Itoa reads -/
def Tab (w : World) : Prop := Lib.TabIs Tryd.prog w "internal/strconv.uint64pow10" .u64 Lib.pow10Tab
theorem gp_is : Tryd.prog.globalNamed "internal/strconv.uint64pow10" = some 0 := by kernel_rfl
theorem tab_ch {S : Nat → Prop} {w w' : World} (h : Ch S w w') (hs : ¬ S 0) (ht : Tab w) : Tab w' := by
 unfold Tab Lib.TabIs World.var? at *
 rw [gp_is] at *
 simp only [Option.bind_some] at *
 cases e : w.heap[0]? with
 | none => rw [e] at ht; cases ht
 | some o => rw [e] at ht; rw [h.blk e hs]; exact ht
theorem tab_lt {w : World} (ht : Tab w) : 0 < w.heap.size := by
 unfold Tab Lib.TabIs World.var? at ht
 rw [gp_is] at ht
 simp only [Option.bind_some] at ht
 cases e : w.heap[0]? with
 | none => rw [e] at ht; cases ht
 | some o => exact blk_lt e
def itoaB (n : Int) : List Int := (Lib.itoa n).map fun b => (b.toNat : Int)
theorem itoa_any (n : Int) (w : World) (h0 : -9223372036854775808 ≤ n) (h1 : n ≤ 9223372036854775807) (ht : Tab w) :
  Calls Tryd.prog 36 #[.int .i64 n] w fun e w' => e = .returned (.string ⟨(Lib.itoa n).toArray⟩) ∧ Ch (fun _ => False) w w' :=
 (Tryd.strconv_Itoa n h0 h1 w ht).mono fun e w' ⟨he, k, os, hw⟩ => ⟨he, by
  subst hw
  refine ⟨rfl, rfl, rfl, by simp [Sort.grow], fun i hi _ => ?_⟩
  show (w.heap ++ os)[i]? = _
  exact Array.getElem?_append_left hi⟩
end Go.Proofs.YtejhjlfakfaegaaDoor
set_option linter.unusedSimpArgs false
set_option linter.unusedVariables false
namespace Go.Proofs.YtejhjlfakfaegaaDoor
open Go.RowKit Go.Proofs.YtejhjlfakfaegaaDoorW.PrintWords

def z8 : List Int := List.replicate 8 0
theorem from_any (A : Option Addr) (c : Nat) (l : List Int) (w : World) (hr : ReadsInt w .u8 A 8 l) :
  Calls Tryd.prog 22 #[.slice A 8 c] w fun e w' => e = .returned (.agg (nums .u8 (l ++ z8)).toArray) ∧ Ch (fun _ => False) w w' := by
 obtain ⟨hl, -, hc⟩ := hr
 obtain ⟨ad, rfl, hcell⟩ := hc (by omega)
 have HSRC : Hid (∀ j v, (nums .u8 l)[j]? = some v → w.cell? (ad.add j) = some v) := Lib.hid fun j v hv => by
  obtain ⟨hj, e⟩ := List.getElem?_eq_some_iff.1 hv
  have hj' : j < 8 := by rw [← hl]; simpa [nums] using hj
  rw [hcell j hj', ← e]
  simp [nums, List.getD_eq_getElem?_getD, hl, hj']
 have HL := Lib.hid hl
 obtain ⟨m, hm⟩ : ∃ m, m = l ++ z8 := ⟨_, rfl⟩
 have HML : Hid (m.length = 16) := Lib.hid (by rw [hm, List.length_append, hl]; rfl)
 have HM := Lib.hid hm
 clear hl hc hcell hm
 rw [← HM.out]
 go_enter Tryd.func22, Tryd.ntmps22
 go_wp2_with first
  | (refine wpList_copy_row rfl (.tmp 4) (.tmp 5) 23 23 rfl 5 Tryd.underlying23 (by kernel_rfl) (w.heap.size + 1) 0 16 16 ad 8 c rfl rfl (nums .u8 (List.replicate 16 0)).toArray 22 (heap_alloc2_new w _ _) (nums .u8 l) (by rw [nums_len, HL.out]; rfl) (fun j v hv => (((Ch.refl (fun _ => False) w).alloc _).alloc _).cell (HSRC.out j v hv) (fun h => h)) (by rw [nums_len, HL.out]; decide) (nums_one _ _) ?_; intro w2 h2 hc2; (have H2 : Hid (w2.heap[w.heap.size + 1]? = some (.cells (nums .u8 m).toArray 22 (0, 0))) := Lib.hid (by rw [h2, List.take_zero, List.nil_append, nums_len, HL.out, HM.out]; (rw [show List.drop (0 + 8) (nums .u8 (List.replicate 16 0)).toArray.toList = nums .u8 z8 by rfl, nums, nums, ← List.map_append]; rfl))); have HK2 : Hid (w2.heap[w.heap.size]? = some (.cells (nums .u8 (List.replicate 16 0)).toArray 22 (0, 0))) := Lib.hid (hc2.blk (heap_alloc2_old w _ _) (by show w.heap.size ≠ w.heap.size + 1; omega)); have HC2 : Hid (Ch (fun _ => False) w w2) := Lib.hid ((((Ch.refl (fun _ => False) w).alloc _).alloc _).then_ hc2 (fun i hi e => by omega)); clear h2 hc2 HSRC)
  | (refine wpList_load_mid rfl 22 (.tmp 3) rfl (w.heap.size + 1) 0 rfl (nums .u8 m) (.array 16 5) (range_nums H2.out) Tryd.underlying22 rfl (by rw [nums_len, HML.out]; kernel_rfl) ?_)
  | (refine wpList_store_blk rfl 22 (.tmp 2) (.tmp 7) rfl w.heap.size 0 (nums .u8 m) rfl rfl (nums .u8 (List.replicate 16 0)).toArray 22 HK2.out (by rw [nums_len, HML.out]; decide) (by rw [nums_len, HML.out]; kernel_rfl) (nums_one _ _) ?_; intro w3 h3 hc3; (have H3 : Hid (w3.heap[w.heap.size]? = some (.cells (nums .u8 m).toArray 22 (0, 0))) := Lib.hid (by rw [h3, List.take_zero, List.nil_append, nums_len, HML.out]; (rw [show List.drop (0 + 16) (nums .u8 (List.replicate 16 0)).toArray.toList = [] by rfl, List.append_nil]))); have HC3 : Hid (Ch (fun _ => False) w w3) := Lib.hid (HC2.out.then_ hc3 (fun i hi e => by omega)); clear h3 hc3)
 refine bodyPost_ret (results_cell_row rfl _ _ w.heap.size 22 (nums .u8 m).toArray (0, 0) (.array 16 5) rfl H3.out Tryd.underlying22 rfl (by rw [List.size_toArray, nums_len, HML.out]; kernel_rfl)) rfl ⟨rfl, HC3.out⟩

theorem step_store_blk {P : Program} {w : World} {ops : Array Oper} {op : Oper} {a : Act} {K : Act → World → Prop} {Q : Exit → Act → World → Prop} {E : Prop} (hgd : op.guard = none) (ty : TypeId) (x y : Operand) (ho : op.op = .store ty x y)
  (g o : Nat) (cs : List Value) (hx : a.eval x = .pointer (some ⟨g, o, none⟩)) (hy : a.eval y = .agg cs.toArray)
  (cur : Array Value) (t : TypeId) (hg : w.heap[g]? = some (.cells cur t (0, 0))) (hfit : o + cs.length ≤ cur.size) (hi : (P.info? ty).map (·.size) = some cs.length) (h1 : ∀ v ∈ cs, v.oneCell' = true)
  (h : ∀ w', w'.heap[g]? = some (.cells (cur.toList.take o ++ cs ++ cur.toList.drop (o + cs.length)).toArray t (0, 0)) → Ch (· = g) w w' → K (a.put op.dst undef) w') :
  if Region.wanted op (yielded ops a.tmps) = true then op.wp P a w K Q else E := by
 have hw : Region.wanted op (yielded ops a.tmps) = true := by simp [Region.wanted, hgd]
 rw [if_pos hw]
 refine wp_store_mid ty x y ho g o cs.toArray hx hy (fun j hj => ?_) (by simpa using hi) (all_oneCell_toArray h1) (h _ ?_ ?_)
 ·have hj' : j < cs.length := by simpa using hj
  exact ⟨by rw [blk_cell hg, Array.getElem?_eq_getElem (by omega)]; rfl, blk_frozen hg _⟩
 ·obtain ⟨cur', h3, h4, h5⟩ := setCells_row (g := g) cs o w cur hg hfit
  rw [show cs.toArray.toList = cs by simp, h3, ← h5]
 ·rw [show cs.toArray.toList = cs by simp]
  obtain ⟨h1, h2, h3, h4⟩ := setCells_same g cs o w
  exact ⟨h1, h2, h3, by rw [h4]; exact Nat.le_refl _, fun k _ hn => setCells_far cs o k hn⟩
theorem bytesOf_itoa (n : Int) (s : ByteArray) : bytesOf (s ++ ⟨(Lib.itoa n).toArray⟩) = bytesOf s ++ itoaB n := by
 unfold bytesOf itoaB
 rw [ByteArray.data_append]
 simp
theorem cat_size (s : ByteArray) (u : Int) (hs : s.size ≤ 10) (h0 : -9223372036854775808 ≤ u) (h1 : u ≤ 9223372036854775807) : (s ++ (⟨(Lib.itoa u).toArray⟩ : ByteArray)).size < 100000 := by
 rw [ByteArray.size_append]
 have h := Lib.itoa_length_le u h0 h1
 have e : (⟨(Lib.itoa u).toArray⟩ : ByteArray).size = (Lib.itoa u).length := by simp [ByteArray.size]
 omega
set_option maxRecDepth 100000 in
set_option maxHeartbeats 1000000 in
theorem part_any (l : List Int) (u : Int) (s : ByteArray) (w : World) (hl : l.length = 16) (hb : Bs l) (h0 : -9223372036854775808 ≤ u) (h1 : u ≤ 9223372036854775807) (hs : s.size ≤ 10) (ht : Tab w) :
  Calls Tryd.prog 17 #[.agg (nums .u8 l).toArray, .int .i64 u, .string s] w fun e w' => e = .returned (.agg (nums .u8 (drv l (bytesOf s ++ itoaB u))).toArray) ∧ Ch (fun _ => False) w w' := by
 have HL := Lib.hid hl
 have HB := Lib.hid hb
 have HT := Lib.hid ht
 have HIL := Lib.hid (Lib.itoa_length_le u h0 h1)
 go_enter Tryd.func17, Tryd.ntmps17
 go_upto_region 1 with fail
 refine wp_named _ fun w1 hw1 => ?_
 obtain ⟨gk, hgk⟩ : ∃ gk, w.heap.size = gk := ⟨_, rfl⟩
 obtain ⟨gz, hgz⟩ : ∃ gz, gk + 1 = gz := ⟨_, rfl⟩
 have hK1 : w1.heap[gk]? = some (.cells (nums .u8 l).toArray 35 (0, 0)) := by rw [hw1, ← hgk]; exact heap_alloc2_old _ _ _
 have hZ1 : w1.heap[gz]? = some (.cells (nums .u8 (List.replicate 16 0)).toArray 35 (0, 0)) := by rw [hw1, ← hgz, ← hgk]; exact heap_alloc2_new _ _ _
 have hC1 : Ch (fun _ => False) w w1 := by rw [hw1]; exact ((Ch.refl _ _).alloc _).alloc _
 rw [hgk, hgz]
 have HK1 := Lib.hid hK1
 have HZ1 := Lib.hid hZ1
 have HC1 := Lib.hid hC1
 have HLOW : Hid (w.heap.size ≤ gz) := Lib.hid (by omega)
 have HNE : Hid (¬ gk = gz) := Lib.hid (by omega)
 have HSZ : Hid ((s ++ (⟨(Lib.itoa u).toArray⟩ : ByteArray)).size < 100000) := Lib.hid (cat_size s u hs h0 h1)
 have hcat : ¬ 9223372036854775807 < s.size + (Lib.itoa u).length := by have := HIL.out; omega
 clear hw1 hK1 hZ1 hC1 hgk hgz hl hb ht
 have huk := Tryd.underlying35
 have hik : (Tryd.prog.info? 35).map (·.size) = some (nums .u8 l).length := by rw [nums_len, HL.out]; kernel_rfl
 refine wp_region_held_drew (S := fun w' => Ch (fun _ => False) w w' ∧ w'.rangeAt gk 0 (nums .u8 l)) (by kernel_rfl) ?_ (fun hHeld => ?_)
 ·exact ⟨HC1.out.drew, range_nums HK1.out⟩
 refine wpAnyH_take (i := 0) (v := .agg (nums .u8 l).toArray) rfl (by kernel_rfl) (by kernel_rfl) (by kernel_rfl) (fun _ _ _ h => h) ?_ (by assumption) ?_
 ·refine yieldsIf_load_mid (by rfl) 35 (.tmp 3) rfl gk 0 rfl (nums .u8 l) _ (fun w hSw => ?_) huk rfl hik
  (try dsimp only at hSw)
  go_split_ands
  assumption
 try simp only [Act.put, List.getElem_toArray, List.getElem_cons_succ, List.getElem_cons_zero, List.setIfInBounds_toArray, List.set_cons_zero, List.set_cons_succ]
 refine tkp (v := ?_) 1 ?_ ?_
 rotate_left
 ·intro w hSw; (try dsimp only at hSw); go_simp; (first | done | with_reducible rfl)
 try simp only [Act.put, List.getElem_toArray, List.getElem_cons_succ, List.getElem_cons_zero, List.setIfInBounds_toArray, List.set_cons_zero, List.set_cons_succ]
 refine tkp (v := ?_) 2 ?_ ?_
 rotate_left
 ·intro w hSw; (try dsimp only at hSw); go_simp; (first | done | with_reducible rfl)
 try simp only [Act.put, List.getElem_toArray, List.getElem_cons_succ, List.getElem_cons_zero, List.setIfInBounds_toArray, List.set_cons_zero, List.set_cons_succ]
 refine wpAnyH_ready (rs := [3]) (by kernel_rfl) (by simp) ?_
 refine AllReadyH.cons rfl (fun K hK => ?_) AllReadyH.nil
 go_simp
 have HIT := itoa_any u w1.drew h0 h1 (tab_ch HC1.out.drew (fun h => h) HT.out)
 with_reducible refine HIT.mono ?_
 rintro e w3 ⟨rfl, hc⟩
 have HC3 := Lib.hid (HC1.out.drew.trans hc)
 have HK3 := Lib.hid (hc.blk HK1.out (fun h => h))
 have HZ3 := Lib.hid (hc.blk HZ1.out (fun h => h))
 clear hc HIT
 refine hK.out _ _ ⟨HC3.out, range_nums HK3.out⟩ (fun hHeld => ?_)
 clear hK K
 refine tkp (v := ?_) 4 ?_ ?_
 rotate_left
 ·intro w hSw; (try dsimp only at hSw); go_simp; (first | done | with_reducible rfl)
 try simp only [Act.put, List.getElem_toArray, List.getElem_cons_succ, List.getElem_cons_zero, List.setIfInBounds_toArray, List.set_cons_zero, List.set_cons_succ]
 refine wpAnyH_ready (rs := [5]) (by kernel_rfl) (by simp) ?_
 refine AllReadyH.cons rfl (fun K hK => ?_) AllReadyH.nil
 go_simp
 have HDV := derive_any l (s ++ (⟨(Lib.itoa u).toArray⟩ : ByteArray)) w3 HL.out HB.out HSZ.out
 rw [bytesOf_itoa] at HDV
 have HDL := Lib.hid (drv_len l (bytesOf s ++ itoaB u))
 obtain ⟨d, hd⟩ : ∃ d, d = drv l (bytesOf s ++ itoaB u) := ⟨_, rfl⟩
 rw [← hd] at HDV HDL
 have HDE := Lib.hid hd
 clear hd
 with_reducible refine HDV.mono ?_
 rintro e w4 ⟨rfl, hc⟩
 have HC4 := Lib.hid (HC3.out.trans hc)
 have HK4 := Lib.hid (hc.blk HK3.out (fun h => h))
 have HZ4 := Lib.hid (hc.blk HZ3.out (fun h => h))
 clear hc HDV
 refine hK.out _ _ ⟨HC4.out, range_nums HK4.out⟩ (fun hHeld => ?_)
 clear hK K
 refine wpAnyH_ready (rs := [6]) (by kernel_rfl) (by simp) ?_
 refine AllReadyH.cons rfl (fun K hK => ?_) AllReadyH.nil
 refine step_store_blk rfl 35 (.tmp 6) (.tmp 12) rfl gz 0 (nums .u8 d) rfl rfl (nums .u8 (List.replicate 16 0)).toArray 35 HZ4.out (by rw [nums_len, HDL.out]; decide) (by rw [nums_len, HDL.out]; kernel_rfl) (nums_one _ _) ?_
 intro w5 h5 hc5
 have H5 : Hid (w5.heap[gz]? = some (.cells (nums .u8 d).toArray 35 (0, 0))) := Lib.hid (by rw [h5, List.take_zero, List.nil_append, nums_len, HDL.out]; (rw [show List.drop (0 + 16) (nums .u8 (List.replicate 16 0)).toArray.toList = [] by rfl, List.append_nil]))
 have HC5 : Hid (Ch (fun _ => False) w w5) := Lib.hid (HC4.out.then_ hc5 (fun i hi e => by have := HLOW.out; omega))
 have HK5 := Lib.hid (hc5.blk HK4.out HNE.out)
 clear h5 hc5
 refine hK.out _ _ ⟨HC5.out, range_nums HK5.out⟩ (fun hHeld => ?_)
 clear hK K
 refine wpAnyH_done (by kernel_rfl) ?_ _
 go_wp2
 refine bodyPost_ret (results_cell_row rfl _ _ gz 35 (nums .u8 d).toArray (0, 0) (.array 16 5) rfl H5.out Tryd.underlying35 rfl (by rw [List.size_toArray, nums_len, HDL.out]; kernel_rfl)) rfl ⟨by rw [HDE.out], HC5.out⟩
end Go.Proofs.YtejhjlfakfaegaaDoor
set_option linter.unusedSimpArgs false
set_option linter.unusedVariables false
namespace Go.Proofs.YtejhjlfakfaegaaDoor
open Go.RowKit Go.Proofs.YtejhjlfakfaegaaDoorW.PrintWords

/-- a tape at block g -/
structure RealAt (w : World) (g : Nat) (A : Option Addr) (c : Nat) (seed : List Int) (ks bs : Int) : Prop where
 here : w.heap[g]? = some (.cells #[.slice A seed.length c, .int .u64 ks, .int .u64 bs] 43 (0, 0))
 reads : ReadsInt w .u8 A seed.length seed
 low : ¬ 0 = g
 apart : ∀ a, A = some a → 0 < seed.length → ¬ a.block = g
 b : Bs seed
 len : seed.length < 1000
theorem RealAt.ch {w w' : World} {g : Nat} {A : Option Addr} {c : Nat} {seed : List Int} {ks bs : Int} (h : RealAt w g A c seed ks bs) (hc : Ch (fun _ => False) w w') : RealAt w' g A c seed ks bs :=
 ⟨hc.blk h.here (fun h => h), hc.reads h.reads (fun _ _ h => h), h.low, h.apart, h.b, h.len⟩
theorem snew_any (A : Option Addr) (n c : Nat) (l : List Int) (w : World) (hr : ReadsInt w .u8 A n l) (hb : Bs l) (hn : n < 1000) (hw : 0 < w.heap.size) :
  Calls Tryd.prog 6 #[.slice A n c] w fun e w' => ∃ g A' c', e = .returned (.pointer (some ⟨g, 0, none⟩)) ∧ RealAt w' g A' c' l 0 0 ∧ w.heap.size ≤ g ∧ Ch (fun _ => False) w w' := by
 have HR := Lib.hid hr
 have HW := Lib.hid hw
 have HB := Lib.hid hb
 have HN : Hid (([] ++ l : List Int).length = n) := Lib.hid (by rw [List.nil_append]; exact hr.1)
 have HN2 : Hid (l.length = n) := Lib.hid hr.1
 have hl : ([] : List Int).length + l.length ≤ 1000 := by have := hr.1; simp; omega
 clear hr hw
 go_enter Tryd.func6, Tryd.ntmps6
 go_wp2_with (at_builtin; refine print_append_row (w0 := w) w.heap.size rfl _ _ 23 5 .u8 1 rfl Tryd.underlying23 info_u8 (by decide) (.slice none 0 0) [] l _ _ _ rfl rfl (by simpa [nums] using own_nil w w.heap.size 5 1) HR.out (Below.refl _ _) (Nat.le_refl _) (by simp; omega) ?_; intro v1 w1 ho hb1 _ _; rw [HN.out, List.nil_append] at ho; obtain ⟨A1, c1, rfl⟩ := own_slice ho; have HO := Lib.hid ho; have HB1 := Lib.hid hb1; clear ho hb1)
 go_ret
 refine ⟨w1.heap.size, A1, c1, rfl, ⟨by rw [HN2.out]; exact heap_alloc_new w1 _, ?_, by have := HB1.out.size; have := HW.out; omega, ?_, HB.out, by have := HN2.out; omega⟩, HB1.out.size, (Ch.of_below HB1.out).alloc _⟩
 ·rw [HN2.out]
  exact ((Ch.refl (fun _ => False) w1).alloc _).reads (rd_own HO.out) (fun _ _ h => h)
 ·intro a ha hp
  obtain ⟨a', ha', hcc⟩ := (rd_own HO.out).2.2 (by have := HN2.out; omega)
  rw [ha] at ha'
  injection ha' with ha'
  subst ha'
  have := World.block_lt_of_cell? w1 _ (hcc 0 (by have := HN2.out; omega))
  simp [Addr.add] at this
  omega
/-- what is in a box of a key and usage -/
def openB (k : List Int) (u : Int) (box : List Int) : Option (List Int) :=
 if box.length < 24 then none
 else if (hmac (drv k (109 :: itoaB u)) (box.take (box.length - 16))).take 16 = box.drop (box.length - 16) then some (strm (kGo (drv k (101 :: itoaB u)) 160) (box.take 8 ++ z8) ((box.take (box.length - 16)).drop 8))
 else none
def OpenPost (k : List Int) (u : Int) (box : List Int) (w : World) (e : Ending) (w' : World) : Prop :=
 ∃ A n c, e = .returned (.tuple #[.slice A n c, .bool (openB k u box).isSome]) ∧ ReadsInt w' .u8 A n ((openB k u box).getD []) ∧ Ch (fun _ => False) w w'
theorem b109 : bytesOf ⟨#[109]⟩ = [109] := by decide +kernel
theorem b101 : bytesOf ⟨#[101]⟩ = [101] := by decide +kernel
set_option maxRecDepth 100000 in
set_option maxHeartbeats 2000000 in
theorem sopen_any (rv : Value) (k : List Int) (u : Int) (A : Option Addr) (n c : Nat) (box : List Int) (w : World) (hk : k.length = 16) (hkb : Bs k) (h0 : -9223372036854775808 ≤ u) (h1 : u ≤ 9223372036854775807) (hr : ReadsInt w .u8 A n box) (hbb : Bs box) (hnc : n ≤ c) (hn : n < 10000) (ht : Tab w) :
  Calls Tryd.prog 7 #[rv, .agg (nums .u8 k).toArray, .int .i64 u, .slice A n c] w (OpenPost k u box w) := by
 by_cases hlt : n < 24
 ·have hO : openB k u box = none := by unfold openB; rw [if_pos (by rw [hr.1]; exact hlt)]
  have HO := Lib.hid hO
  clear hO hr
  go_enter Tryd.func7, Tryd.ntmps7
  go_wp2
  go_ret2
  refine ⟨none, 0, 0, by rw [HO.out]; rfl, by rw [HO.out]; exact ⟨rfl, by omega, fun h => by omega⟩, (Ch.refl _ _).alloc _⟩
 ·obtain ⟨ad, rfl, -⟩ := hr.2.2 (by omega)
  have hci : (n : Int) ≤ c := by omega
  have HK := Lib.hid hk
  have HKB := Lib.hid hkb
  have HR := Lib.hid hr
  have HBB := Lib.hid hbb
  have HT := Lib.hid ht
  have HBL := Lib.hid hr.1
  clear hk hkb hr hbb ht
  go_enter Tryd.func7, Tryd.ntmps7
  go_upto_region 3 with fail
  refine wp_named _ fun w1 hw1 => ?_
  have hK1 : w1.heap[w.heap.size]? = some (.cells (nums .u8 k).toArray 35 (0, 0)) := by rw [hw1]; exact heap_alloc_new _ _
  have hC1 : Ch (fun _ => False) w w1 := by rw [hw1]; exact (Ch.refl _ _).alloc _
  obtain ⟨gk, hgk⟩ : ∃ gk, w.heap.size = gk := ⟨_, rfl⟩
  rw [hgk] at hK1 ⊢
  have HK1 := Lib.hid hK1
  have HC1 := Lib.hid hC1
  have HGK := Lib.hid hgk
  clear hw1 hK1 hC1 hgk
  have e1 : IntKind.i64.wrap ((n : Int) - 16) = (n : Int) - 16 := IntWalk.i64_in _ (by omega)
  have e2 : (0 : Int) ≤ (n : Int) - 16 := by omega
  have e3 : (8 : Int) ≤ (n : Int) - 16 := by omega
  have e4 : (n : Int) - 16 ≤ (c : Int) := by omega
  have e5 : (n : Int) - 16 ≤ (n : Int) := by omega
  have e6 : (8 : Int) ≤ (c : Int) := by omega
  have e7 : ((n : Int) - 16).toNat = n - 16 := by omega
  go_quiet (fail)
  clear e1 e2 e3 e4 e5 e6 e7
  rw [show n - (n - 16) = 16 by omega, show n - 16 - 8 = n - 24 by omega]
  obtain ⟨w2, hw2⟩ : ∃ w2, w2 = w1.drewN nq := ⟨_, rfl⟩
  rw [← hw2]
  have HK2 : Hid (w2.heap[gk]? = some (.cells (nums .u8 k).toArray 35 (0, 0))) := Lib.hid (by rw [hw2]; exact drewN_blk nq HK1.out)
  have HC2 : Hid (Ch (fun _ => False) w w2) := Lib.hid (by rw [hw2]; exact HC1.out.drewN nq)
  clear hw2 HK1 HC1
  have HRD : Hid (∀ W, Ch (fun _ => False) w W → ReadsInt W .u8 (some ad) 8 (box.take 8) ∧ ReadsInt W .u8 (some ⟨ad.block, ad.off + 8, none⟩) (n - 24) ((box.drop 8).take (n - 24)) ∧ ReadsInt W .u8 (some (ad.add (n - 16))) 16 (box.drop (n - 16))) := Lib.hid fun W hC => by
   have hr := hC.reads HR.out (fun _ _ h => h)
   refine ⟨reads_take hr (by omega), reads_sub hr 8 (n - 24) (by omega), ?_⟩
   have := reads_sub hr (n - 16) 16 (by omega)
   rwa [List.take_of_length_le (by rw [List.length_drop, HBL.out]; omega)] at this
  have HTW : Hid (∀ W, Ch (fun _ => False) w W → Tab W) := Lib.hid fun W hC => tab_ch hC (fun h => h) HT.out
  have HFL : Hid (([box.take 8, (box.drop 8).take (n - 24)] : List (List Int)).flatten = box.take (n - 16)) := Lib.hid (by
   rw [show n - 16 = 8 + (n - 24) by omega, List.take_add]; simp)
  have HOP : Hid (openB k u box = if (hmac (drv k ([109] ++ itoaB u)) (box.take (n - 16))).take 16 = box.drop (n - 16) then some (strm (kGo (drv k ([101] ++ itoaB u)) 160) (box.take 8 ++ z8) ((box.drop 8).take (n - 24))) else none) := Lib.hid (by
   unfold openB
   rw [if_neg (by rw [HBL.out]; omega), HBL.out, List.drop_take, show n - 16 - 8 = n - 24 by omega]
   rfl)
  have HB8 : Hid (Bs (box.take 8) ∧ Bs ((box.drop 8).take (n - 24)) ∧ Bs (box.drop (n - 16))) := Lib.hid ⟨HBB.out.take 8, (HBB.out.drop 8).take _, HBB.out.drop _⟩
  have HLI : Hid (((box.drop 8).take (n - 24)).length = n - 24 ∧ (box.take 8).length = 8) := Lib.hid ⟨by rw [List.length_take, List.length_drop, HBL.out]; omega, by rw [List.length_take, HBL.out]; omega⟩
  have HP := part_any k u ⟨#[109]⟩ w2 HK.out HKB.out h0 h1 (by decide) (HTW.out _ HC2.out)
  have HPE : Hid (∀ W, Ch (fun _ => False) w W → Calls Tryd.prog 17 #[.agg (nums .u8 k).toArray, .int .i64 u, .string ⟨#[101]⟩] W fun e w' => e = .returned (.agg (nums .u8 (drv k ([101] ++ itoaB u))).toArray) ∧ Ch (fun _ => False) W w') := Lib.hid fun W hC => by
   rw [← b101]
   exact part_any k u ⟨#[101]⟩ W HK.out HKB.out h0 h1 (by decide) (HTW.out _ hC)
  rw [b109] at HP
  obtain ⟨km, hkm⟩ : ∃ km, km = drv k ([109] ++ itoaB u) := ⟨_, rfl⟩
  obtain ⟨ke, hke⟩ : ∃ ke, ke = drv k ([101] ++ itoaB u) := ⟨_, rfl⟩
  have HKM : Hid (km.length = 16 ∧ Bs km ∧ ke.length = 16 ∧ Bs ke) := Lib.hid ⟨by rw [hkm]; exact drv_len _ _, by rw [hkm]; exact (hmac_b _ _).take _, by rw [hke]; exact drv_len _ _, by rw [hke]; exact (hmac_b _ _).take _⟩
  rw [← hkm] at HP HOP
  rw [← hke] at HPE HOP
  clear hkm hke
  obtain ⟨bn, hbn⟩ : ∃ bn, bn = box.take 8 := ⟨_, rfl⟩
  obtain ⟨bi, hbi⟩ : ∃ bi, bi = (box.drop 8).take (n - 24) := ⟨_, rfl⟩
  obtain ⟨bs, hbs⟩ : ∃ bs, bs = box.drop (n - 16) := ⟨_, rfl⟩
  obtain ⟨bm, hbm⟩ : ∃ bm, bm = box.take (n - 16) := ⟨_, rfl⟩
  rw [← hbn, ← hbi, ← hbs] at HRD HB8
  rw [← hbn, ← hbi] at HLI
  rw [← hbn, ← hbi, ← hbm] at HFL
  rw [← hbn, ← hbi, ← hbs, ← hbm] at HOP
  have HML : Hid (bm.length < 10000) := Lib.hid (by rw [hbm, List.length_take]; omega)
  clear hbn hbi hbs hbm HR HBB HBL
  go_wp2_with first
   | (refine wpList_load_mid rfl 35 (.tmp 5) rfl gk 0 rfl (nums .u8 k) (.array 16 5) (range_nums HK2.out) Tryd.underlying35 rfl (by rw [nums_len, HK.out]; kernel_rfl) ?_)
  with_reducible refine HP.mono ?_
  clear HP
  rintro e w3 ⟨rfl, hc⟩
  have HC3 := Lib.hid (HC2.out.trans hc)
  have HK3 := Lib.hid (hc.blk HK2.out (fun h => h))
  have HGK3 : Hid (gk < w3.heap.size) := Lib.hid (blk_lt HK3.out)
  clear hc HK2
  go_wp2_with first
   | (refine wpList_store_blk rfl 35 (.tmp 13) (.tmp 31) rfl w3.heap.size 0 (nums .u8 km) rfl rfl (nums .u8 (List.replicate 16 0)).toArray 35 (heap_alloc_new w3 _) (by rw [nums_len, HKM.out.1]; decide) (by rw [nums_len, HKM.out.1]; kernel_rfl) (nums_one _ _) ?_; intro w4 h4 hc4; (have H4 : Hid (w4.heap[w3.heap.size]? = some (.cells (nums .u8 km).toArray 35 (0, 0))) := Lib.hid (by rw [h4, List.take_zero, List.nil_append, nums_len, HKM.out.1]; (rw [show List.drop (0 + 16) (nums .u8 (List.replicate 16 0)).toArray.toList = [] by rfl, List.append_nil]))); have HC4 : Hid (Ch (fun _ => False) w w4) := Lib.hid ((HC3.out.alloc _).then_ hc4 (fun i hi e => by have := HC3.out.size; omega)); have HK4 : Hid (w4.heap[gk]? = some (.cells (nums .u8 k).toArray 35 (0, 0))) := Lib.hid (hc4.blk (((Ch.refl (fun _ => False) w3).alloc _).blk HK3.out (fun h => h)) (by show ¬ gk = w3.heap.size; have := HGK3.out; omega)); clear h4 hc4)
  obtain ⟨gb, hgb⟩ : ∃ gb, w3.heap.size = gb := ⟨_, rfl⟩
  rw [hgb] at H4 ⊢
  clear hgb
  have hcc := (Ch.refl (fun _ => False) w4).alloc (.cells #[.slice (some ad) 8 c, .slice (some ⟨ad.block, ad.off + 8, none⟩) (n - 24) (c - 8)] 23)
  have hrd := HRD.out _ (HC4.out.trans hcc)
  have HS := msum_any (some ⟨gb, 0, none⟩) (some ⟨w4.heap.size, 0, none⟩) 16 16 2 2 km [bn, bi] (w4.alloc (.cells #[.slice (some ad) 8 c, .slice (some ⟨ad.block, ad.off + 8, none⟩) (n - 24) (c - 8)] 23))
   (reads_blk (hcc.blk H4.out (fun h => h)) HKM.out.1 (by decide)) (rows2_two (heap_alloc_new w4 _) hrd.1 hrd.2.1) HKM.out.2.1 (by intro x hx; simp only [List.mem_cons, List.not_mem_nil, or_false] at hx; rcases hx with rfl | rfl; exact HB8.out.1; exact HB8.out.2.1) (by decide) (by rw [HFL.out]; have := HML.out; omega) (by decide)
  rw [HFL.out] at HS
  obtain ⟨hm, hhm⟩ : ∃ hm, hm = hmac km bm := ⟨_, rfl⟩
  have HHL : Hid (hm.length = 32 ∧ Bs hm) := Lib.hid ⟨by rw [hhm]; exact hmac_len _ _, by rw [hhm]; exact hmac_b _ _⟩
  rw [← hhm] at HS HOP
  have HCC := Lib.hid hcc
  clear hcc hrd hhm
  with_reducible refine HS.mono ?_
  clear HS
  rintro e w5 ⟨v5, rfl, ho, hb⟩
  obtain ⟨A5, c5, rfl, h32⟩ := q_slice (q_of_own ho)
  have h16 : (16 : Int) ≤ c5 := by omega
  obtain ⟨a5, rfl, -⟩ := (rd_own ho).2.2 (by omega)
  have hc5 := HCC.out.trans (Ch.of_below hb)
  have HC5 := Lib.hid (HC4.out.trans hc5)
  have HK5 := Lib.hid (hc5.blk HK4.out (fun h => h))
  have HR5 := Lib.hid (reads_take (rd_own ho) (show 16 ≤ 32 by omega))
  clear ho hb h32 hc5 HCC HC4 HK4 H4
  go_wp2_with fail
  have HE := equal_any (some a5) (some (ad.add (n - 16))) 16 c5 16 (c - (n - 16)) (hm.take 16) bs w5 HR5.out (HRD.out _ HC5.out).2.2 (HHL.out.2.take _) HB8.out.2.2 (by decide) (by decide)
  with_reducible refine HE.mono ?_
  clear HE
  by_cases hq : hm.take 16 = bs
  ·rw [decide_eq_true hq]
   have HOP2 : Hid (openB k u box = some (strm (kGo ke 160) (bn ++ z8) bi)) := Lib.hid (by rw [HOP.out, if_pos hq])
   clear hq HOP
   rintro e w6 ⟨rfl, rfl⟩
   go_wp2_with first
    | (refine wpList_load_mid rfl 35 (.tmp 5) rfl gk 0 rfl (nums .u8 k) (.array 16 5) (range_nums HK5.out) Tryd.underlying35 rfl (by rw [nums_len, HK.out]; kernel_rfl) ?_)
   have HP := HPE.out w5 HC5.out
   with_reducible refine HP.mono ?_
   clear HP
   rintro e w6 ⟨rfl, hc⟩
   have HC6 := Lib.hid (HC5.out.trans hc)
   clear hc
   go_wp2_with fail
   have HN := new5_at ke w6 HKM.out.2.2.1 HKM.out.2.2.2
   with_reducible refine HN.mono ?_
   clear HN
   rintro e w7 ⟨g7, bg7, rfl, hci7, hg1, hg2, hc⟩
   have HC7 := Lib.hid (HC6.out.trans hc)
   have HCI := Lib.hid hci7
   clear hc hci7 hg1 hg2
   go_wp2_with fail
   have HF := from_any (some ad) c bn w7 (HRD.out _ HC7.out).1
   with_reducible refine HF.mono ?_
   clear HF
   rintro e w8 ⟨rfl, hc⟩
   have HC8 := Lib.hid (HC7.out.trans hc)
   have HCI8 := Lib.hid (HCI.out.keep hc)
   clear hc HCI
   go_wp2_with fail
   have HST := stream5_any g7 bg7 (kGo ke 160) (bn ++ z8) bi (some ⟨ad.block, ad.off + 8, none⟩) (n - 24) (c - 8) w8 HCI8.out (by rw [List.length_append, HLI.out.2]; rfl) (HB8.out.1.append (by unfold Bs; decide)) (HRD.out _ HC8.out).2.1 HB8.out.2.1 (by omega)
   with_reducible refine HST.mono ?_
   clear HST
   rintro e w9 ⟨v9, rfl, ho, hc⟩
   obtain ⟨A9, c9, rfl⟩ := own_slice ho
   have HC9 := Lib.hid (HC8.out.trans hc)
   have HR9 := Lib.hid (rd_own ho)
   clear ho hc
   go_wp2
   go_ret2
   refine ⟨A9, n - 24, c9, by rw [HOP2.out]; rfl, by rw [HOP2.out]; exact HR9.out, HC9.out⟩
  ·rw [decide_eq_false hq]
   have HOP2 : Hid (openB k u box = none) := Lib.hid (by rw [HOP.out, if_neg hq])
   clear hq HOP
   rintro e w6 ⟨rfl, rfl⟩
   go_wp2
   go_ret2
   refine ⟨none, 0, 0, by rw [HOP2.out]; rfl, by rw [HOP2.out]; exact ⟨rfl, by omega, fun h => by omega⟩, HC5.out⟩
end Go.Proofs.YtejhjlfakfaegaaDoor
set_option linter.unusedSimpArgs false
set_option linter.unusedVariables false
namespace Go.Proofs.YtejhjlfakfaegaaDoor
open Go.RowKit Go.Proofs.YtejhjlfakfaegaaDoorW.PrintWords

/-- the n-th key of a seed's tape -/
def freshK (seed : List Int) (n : Int) : List Int := (hmac seed (putBytes n)).take 16
theorem freshK_len (seed : List Int) (n : Int) : (freshK seed n).length = 16 := by rw [freshK, List.length_take, hmac_len]; rfl
theorem freshK_b (seed : List Int) (n : Int) : Bs (freshK seed n) := (hmac_b _ _).take _
set_option maxRecDepth 100000 in
set_option maxHeartbeats 2000000 in
theorem fresh_any (g : Nat) (A : Option Addr) (c : Nat) (seed : List Int) (ks bs : Int) (w : World) (h : RealAt w g A c seed ks bs) (k0 : 0 ≤ ks) (k1 : ks < 1000000) :
  Calls Tryd.prog 12 #[.pointer (some ⟨g, 0, none⟩)] w fun e w' => e = .returned (.agg (nums .u8 (freshK seed (ks + 1))).toArray) ∧ RealAt w' g A c seed (ks + 1) bs ∧ Ch (fun i => i = g) w w' := by
 have hb := blk_lt h.here
 have H := Lib.hid h
 have c0 : w.cell? ⟨g, 1, none⟩ = some (.int .u64 ks) := blk_cell h.here 1
 have f0 : w.frozen? ⟨g, 1, none⟩ = false := blk_frozen h.here _
 have hne : ¬ w.heap.size = g := by omega
 clear h
 go_enter Tryd.func12, Tryd.ntmps12
 go_upto_region 2 with fail
 refine wp_named _ fun w1 hw1 => ?_
 obtain ⟨gr, hgr⟩ : ∃ gr, w.heap.size = gr := ⟨_, rfl⟩
 have hW1 : Ch (fun i => i = g) w w1 := by rw [hw1]; exact (Ch.setCell (S := fun i => i = g) (p := ⟨g, 1, none⟩) (Ch.refl _ _) (.inl rfl) _).alloc _
 have hZ1 : w1.heap[gr]? = some (.cells (nums .u8 (List.replicate 16 0)).toArray 35 (0, 0)) := by
  rw [hw1, ← hgr]
  have := heap_alloc_new (w.setCell ⟨g, 1, none⟩ (.int .u64 (ks + 1))) (.cells (nums .u8 (List.replicate 16 0)).toArray 35)
  rwa [World.size_setCell] at this
 have hA1 : RealAt w1 g A c seed (ks + 1) bs := by
  have hs : (w.setCell ⟨g, 1, none⟩ (.int .u64 (ks + 1))).heap[g]? = some (.cells #[.slice A seed.length c, .int .u64 (ks + 1), .int .u64 bs] 43 (0, 0)) := blk_set H.out.here 1 (.int .u64 (ks + 1))
  rw [hw1]
  exact ⟨((Ch.refl (fun _ => False) _).alloc _).blk hs (fun h => h), ((Ch.setCell (S := fun i => i = g) (p := ⟨g, 1, none⟩) (Ch.refl _ w) (.inl rfl) _).alloc _).reads' H.out.reads H.out.apart, H.out.low, H.out.apart, H.out.b, H.out.len⟩
 rw [hgr]
 have HW1 := Lib.hid hW1
 have HZR := Lib.hid hZ1
 have HRA1 := Lib.hid hA1
 have HGR := Lib.hid hgr
 clear hw1 hW1 hZ1 hA1 hgr c0 f0
 have HMK : Hid (∀ W, Ch (fun _ => False) w1 W → W.cell? ⟨g, 0, none⟩ = some (.slice A seed.length c) ∧ W.cell? ⟨g, 1, none⟩ = some (.int .u64 (ks + 1))) := Lib.hid fun W hC => ⟨blk_cell (HRA1.out.ch hC).here 0, blk_cell (HRA1.out.ch hC).here 1⟩
 have HSD : Hid (∀ W, Ch (fun _ => False) w1 W → ReadsInt W .u8 A seed.length seed) := Lib.hid fun W hC => (HRA1.out.ch hC).reads
 have HSB := Lib.hid H.out.b
 have HSL : Hid (seed.length < 100000) := Lib.hid (by have := H.out.len; omega)
 have HEND : Hid (∀ W W', RealAt W g A c seed (ks + 1) bs → Ch (fun _ => False) w1 W → Ch (fun i => i = gr) W W' → RealAt W' g A c seed (ks + 1) bs ∧ Ch (fun i => i = g) w W') := Lib.hid fun W W' hA hC hC' => by
  have h1 := H.out.apart
  have hg := HGR.out
  have hc : Ch (fun i => i = g) w W' := (HW1.out.then_ hC (fun _ _ h => h.elim)).then_ hC' (fun i hi e => by omega)
  exact ⟨⟨hC'.blk hA.here (by show ¬ g = gr; omega), hc.reads' H.out.reads H.out.apart, H.out.low, H.out.apart, H.out.b, H.out.len⟩, hc⟩
 obtain ⟨d, hd⟩ : ∃ d, d = freshK seed (ks + 1) := ⟨_, rfl⟩
 have HDL : Hid (d.length = 16) := Lib.hid (by rw [hd]; exact freshK_len _ _)
 have HD := Lib.hid hd
 clear hd
 have HC0 : Hid (Ch (fun _ => False) w1 w1.drew) := Lib.hid (Ch.refl _ _).drew
 refine wp_region_held_drew (S := fun W => W.cell? ⟨g, 0, none⟩ = some (.slice A seed.length c) ∧ W.cell? ⟨g, 1, none⟩ = some (.int .u64 (ks + 1))) (by kernel_rfl) ?_ (fun hHeld => ?_)
 ·exact HMK.out _ HC0.out
 refine tkp (v := ?_) 0 ?_ ?_
 rotate_left
 ·intro w hSw; (try dsimp only at hSw); go_simp; (first | done | with_reducible rfl)
 try simp only [Act.put, List.getElem_toArray, List.getElem_cons_succ, List.getElem_cons_zero, List.setIfInBounds_toArray, List.set_cons_zero, List.set_cons_succ]
 refine tkp (v := ?_) 1 ?_ ?_
 rotate_left
 ·intro w hSw; (try dsimp only at hSw); go_simp; (first | done | with_reducible rfl)
 try simp only [Act.put, List.getElem_toArray, List.getElem_cons_succ, List.getElem_cons_zero, List.setIfInBounds_toArray, List.set_cons_zero, List.set_cons_succ]
 refine tkp (v := ?_) 2 ?_ ?_
 rotate_left
 ·intro w hSw; (try dsimp only at hSw); go_simp; (first | done | with_reducible rfl)
 try simp only [Act.put, List.getElem_toArray, List.getElem_cons_succ, List.getElem_cons_zero, List.setIfInBounds_toArray, List.set_cons_zero, List.set_cons_succ]
 refine tkp (v := ?_) 3 ?_ ?_
 rotate_left
 ·intro w hSw; (try dsimp only at hSw); go_simp; (first | done | with_reducible rfl)
 try simp only [Act.put, List.getElem_toArray, List.getElem_cons_succ, List.getElem_cons_zero, List.setIfInBounds_toArray, List.set_cons_zero, List.set_cons_succ]
 refine tkp (v := ?_) 4 ?_ ?_
 rotate_left
 ·intro w hSw; (try dsimp only at hSw); go_simp; (first | done | with_reducible rfl)
 try simp only [Act.put, List.getElem_toArray, List.getElem_cons_succ, List.getElem_cons_zero, List.setIfInBounds_toArray, List.set_cons_zero, List.set_cons_succ]
 refine tkp (v := ?_) 5 ?_ ?_
 rotate_left
 ·intro w hSw; (try dsimp only at hSw); go_simp; (first | done | with_reducible rfl)
 try simp only [Act.put, List.getElem_toArray, List.getElem_cons_succ, List.getElem_cons_zero, List.setIfInBounds_toArray, List.set_cons_zero, List.set_cons_succ]
 refine tkp (v := ?_) 6 ?_ ?_
 rotate_left
 ·intro w hSw; (try dsimp only at hSw); go_simp; (first | done | with_reducible rfl)
 try simp only [Act.put, List.getElem_toArray, List.getElem_cons_succ, List.getElem_cons_zero, List.setIfInBounds_toArray, List.set_cons_zero, List.set_cons_succ]
 refine tkp (v := ?_) 7 ?_ ?_
 rotate_left
 ·intro w hSw; (try dsimp only at hSw); go_simp; (first | done | with_reducible rfl)
 try simp only [Act.put, List.getElem_toArray, List.getElem_cons_succ, List.getElem_cons_zero, List.setIfInBounds_toArray, List.set_cons_zero, List.set_cons_succ]
 refine wpAnyH_ready (rs := [8, 16]) (by kernel_rfl) (by simp) ?_
 refine AllReadyH.cons rfl (fun K hK => ?_) ?_
 ·go_simp
  have HX := put_own (ks + 1) w1.drew (by omega) (by omega)
  with_reducible refine HX.mono ?_
  clear HX
  rintro e w11 ⟨v, rfl, ho, hb⟩
  obtain ⟨Ap, cp, rfl, -⟩ := q_slice (q_of_own ho)
  have hc := Ch.of_below (S := fun _ => False) hb
  have HC11 := Lib.hid (HC0.out.trans hc)
  clear hc HC0
  have HP11 := Lib.hid (rd_own ho)
  clear ho hb
  refine hK.out _ _ (HMK.out _ HC11.out) (fun hHeld => ?_)
  clear hK K
  refine wpAnyH_ready (rs := [9, 16]) (by kernel_rfl) (by simp) ?_
  refine AllReadyH.cons rfl (fun K hK => ?_) ?_
  ·go_simp
   go_wp2_with fail
   obtain ⟨w12, hw⟩ : ∃ W, W = w11.alloc (.cells #[.slice Ap 8 cp] 23) := ⟨_, rfl⟩
   have hc : Ch (fun _ => False) w11 w12 := by rw [hw]; exact (Ch.refl _ _).alloc _
   have hnew : w12.heap[w11.heap.size]? = some (Obj.cells #[.slice Ap 8 cp] 23 (0, 0)) := by rw [hw]; exact heap_alloc_new _ _
   change K _ (w11.alloc (.cells #[.slice Ap 8 cp] 23))
   rw [← hw]
   obtain ⟨gb, hg⟩ : ∃ g, w11.heap.size = g := ⟨_, rfl⟩
   rw [hg] at hnew ⊢
   clear hw hg
   have HC12 := Lib.hid (HC11.out.trans hc)
   have HP12 := Lib.hid (hc.reads HP11.out (fun _ _ h => h))
   clear hc HC11 HP11
   have HB12 := Lib.hid hnew
   clear hnew
   refine hK.out _ _ (HMK.out _ HC12.out) (fun hHeld => ?_)
   clear hK K
   refine wpAnyH_ready (rs := [10, 16]) (by kernel_rfl) (by simp) ?_
   refine AllReadyH.cons rfl (fun K hK => ?_) ?_
   ·go_simp
    have HX := msum_any A (some ⟨gb, 0, none⟩) seed.length c 1 1 seed [putBytes (ks + 1)] w12 (HSD.out _ HC12.out) (rows2_one1 HB12.out HP12.out) HSB.out (by intro x hx; simp only [List.mem_cons, List.not_mem_nil, or_false] at hx; subst hx; exact putBytes_bs _) HSL.out (by simp [putBytes_length]) (by decide)
    rw [show ([putBytes (ks + 1)] : List (List Int)).flatten = putBytes (ks + 1) by simp] at HX
    with_reducible refine HX.mono ?_
    clear HX
    rintro e w13 ⟨v, rfl, ho, hb⟩
    obtain ⟨A5, c5, rfl, h32⟩ := q_slice (q_of_own ho)
    have h16 : (16 : Int) ≤ c5 := by omega
    obtain ⟨a5, rfl, -⟩ := (rd_own ho).2.2 (by omega)
    have hc := Ch.of_below (S := fun _ => False) hb
    have HC13 := Lib.hid (HC12.out.trans hc)
    clear hc HC12
    have HR13 : Hid (ReadsInt w13 .u8 (some a5) 16 d) := Lib.hid (by rw [HD.out]; exact reads_take (rd_own ho) (show 16 ≤ 32 by omega))
    clear ho hb h32
    refine hK.out _ _ (HMK.out _ HC13.out) (fun hHeld => ?_)
    clear hK K
    refine tkp (v := ?_) 11 ?_ ?_
    rotate_left
    ·intro w hSw; (try dsimp only at hSw); go_simp; (first | done | with_reducible rfl)
    try simp only [Act.put, List.getElem_toArray, List.getElem_cons_succ, List.getElem_cons_zero, List.setIfInBounds_toArray, List.set_cons_zero, List.set_cons_succ]
    refine wpAnyH_ready (rs := [12, 16]) (by kernel_rfl) (by simp) ?_
    refine AllReadyH.cons rfl (fun K hK => ?_) ?_
    ·go_simp
     have HX := okey_any (some a5) c5 d w13 HR13.out
     with_reducible refine HX.mono ?_
     clear HX
     rintro e w14 ⟨rfl, hc⟩
     have HC14 := Lib.hid (HC13.out.trans hc)
     clear hc HC13
     refine hK.out _ _ (HMK.out _ HC14.out) (fun hHeld => ?_)
     clear hK K
     refine tkp (v := ?_) 13 ?_ ?_
     rotate_left
     ·intro w hSw; (try dsimp only at hSw); go_simp; (first | done | with_reducible rfl)
     try simp only [Act.put, List.getElem_toArray, List.getElem_cons_succ, List.getElem_cons_zero, List.setIfInBounds_toArray, List.set_cons_zero, List.set_cons_succ]
     refine tkp (v := ?_) 14 ?_ ?_
     rotate_left
     ·intro w hSw; (try dsimp only at hSw); go_simp; (first | done | with_reducible rfl)
     try simp only [Act.put, List.getElem_toArray, List.getElem_cons_succ, List.getElem_cons_zero, List.setIfInBounds_toArray, List.set_cons_zero, List.set_cons_succ]
     refine tkp (v := ?_) 15 ?_ ?_
     rotate_left
     ·intro w hSw; (try dsimp only at hSw); go_simp; (first | done | with_reducible rfl)
     try simp only [Act.put, List.getElem_toArray, List.getElem_cons_succ, List.getElem_cons_zero, List.setIfInBounds_toArray, List.set_cons_zero, List.set_cons_succ]
     refine wpAnyH_ready (rs := [16]) (by kernel_rfl) (by simp) ?_
     refine AllReadyH.cons rfl (fun K hK => ?_) AllReadyH.nil
     go_simp
     go_wp2_with fail
     obtain ⟨w15, hw⟩ : ∃ W, W = w14.alloc (.cells (nums .u8 (List.replicate 16 0)).toArray 35) := ⟨_, rfl⟩
     have hc : Ch (fun _ => False) w14 w15 := by rw [hw]; exact (Ch.refl _ _).alloc _
     have hnew : w15.heap[w14.heap.size]? = some (Obj.cells (nums .u8 (List.replicate 16 0)).toArray 35 (0, 0)) := by rw [hw]; exact heap_alloc_new _ _
     change K _ (w14.alloc (.cells (nums .u8 (List.replicate 16 0)).toArray 35))
     rw [← hw]
     obtain ⟨ga, hg⟩ : ∃ g, w14.heap.size = g := ⟨_, rfl⟩
     rw [hg] at hnew ⊢
     have HLOW := Lib.hid (show w1.heap.size ≤ ga by have := HC14.out.size; omega)
     clear hw hg
     have HC15 := Lib.hid (HC14.out.trans hc)
     clear hc HC14
     have HA15 := Lib.hid hnew
     clear hnew
     refine hK.out _ _ (HMK.out _ HC15.out) (fun hHeld => ?_)
     clear hK K
     refine wpAnyH_ready (rs := [17]) (by kernel_rfl) (by simp) ?_
     refine AllReadyH.cons rfl (fun K hK => ?_) AllReadyH.nil
     refine step_store_blk rfl 35 (.tmp 3) (.tmp 26) rfl ga 0 (nums .u8 d) rfl rfl (nums .u8 (List.replicate 16 0)).toArray 35 HA15.out (by rw [nums_len, HDL.out]; decide) (by rw [nums_len, HDL.out]; kernel_rfl) (nums_one _ _) ?_
     intro w99 h5 hc5
     have H99 : Hid (w99.heap[ga]? = some (.cells (nums .u8 d).toArray 35 (0, 0))) := Lib.hid (by rw [h5, List.take_zero, List.nil_append, nums_len, HDL.out]; (rw [show List.drop (0 + 16) (nums .u8 (List.replicate 16 0)).toArray.toList = [] by rfl, List.append_nil]))
     have HC99 := Lib.hid (HC15.out.then_ hc5 (fun i hi e => by have := HLOW.out; omega))
     clear h5 hc5
     refine hK.out _ _ (HMK.out _ HC99.out) (fun hHeld => ?_)
     clear hK K
     refine tkp (v := ?_) 18 ?_ ?_
     rotate_left
     ·intro w hSw; (try dsimp only at hSw); go_simp; (first | done | with_reducible rfl)
     try simp only [Act.put, List.getElem_toArray, List.getElem_cons_succ, List.getElem_cons_zero, List.setIfInBounds_toArray, List.set_cons_zero, List.set_cons_succ]
     refine wpAnyH_done (by kernel_rfl) ?_ _
     have HZ99 := Lib.hid (HC99.out.blk HZR.out (fun h => h))
     have HA99 := Lib.hid (HRA1.out.ch HC99.out)
     go_wp2_with first
      | (refine wpList_load_mid rfl 35 (.tmp 3) rfl ga 0 rfl (nums .u8 d) (.array 16 5) (range_nums H99.out) Tryd.underlying35 rfl (by rw [nums_len, HDL.out]; kernel_rfl) ?_)
      | (refine wpList_store_blk rfl 35 (.tmp 2) (.tmp 28) rfl gr 0 (nums .u8 d) rfl rfl (nums .u8 (List.replicate 16 0)).toArray 35 HZ99.out (by rw [nums_len, HDL.out]; decide) (by rw [nums_len, HDL.out]; kernel_rfl) (nums_one _ _) ?_; intro w98 h8 hc8; (have H98 : Hid (w98.heap[gr]? = some (.cells (nums .u8 d).toArray 35 (0, 0))) := Lib.hid (by rw [h8, List.take_zero, List.nil_append, nums_len, HDL.out]; (rw [show List.drop (0 + 16) (nums .u8 (List.replicate 16 0)).toArray.toList = [] by rfl, List.append_nil]))); have HC98 := Lib.hid hc8; clear h8 hc8)
     refine bodyPost_ret (results_cell_row rfl _ _ gr 35 (nums .u8 d).toArray (0, 0) (.array 16 5) rfl H98.out Tryd.underlying35 rfl (by rw [List.size_toArray, nums_len, HDL.out]; kernel_rfl)) rfl ⟨by rw [HD.out], HEND.out _ _ HA99.out HC99.out HC98.out⟩
    refine AllReadyH.cons rfl (fun K hK => ?_) AllReadyH.nil
    go_simp
    go_wp2_with fail
    obtain ⟨w16, hw⟩ : ∃ W, W = w13.alloc (.cells (nums .u8 (List.replicate 16 0)).toArray 35) := ⟨_, rfl⟩
    have hc : Ch (fun _ => False) w13 w16 := by rw [hw]; exact (Ch.refl _ _).alloc _
    have hnew : w16.heap[w13.heap.size]? = some (Obj.cells (nums .u8 (List.replicate 16 0)).toArray 35 (0, 0)) := by rw [hw]; exact heap_alloc_new _ _
    change K _ (w13.alloc (.cells (nums .u8 (List.replicate 16 0)).toArray 35))
    rw [← hw]
    obtain ⟨ga, hg⟩ : ∃ g, w13.heap.size = g := ⟨_, rfl⟩
    rw [hg] at hnew ⊢
    have HLOW := Lib.hid (show w1.heap.size ≤ ga by have := HC13.out.size; omega)
    clear hw hg
    have HC16 := Lib.hid (HC13.out.trans hc)
    have HR16 := Lib.hid (hc.reads HR13.out (fun _ _ h => h))
    clear hc HC13 HR13
    have HA16 := Lib.hid hnew
    clear hnew
    refine hK.out _ _ (HMK.out _ HC16.out) (fun hHeld => ?_)
    clear hK K
    refine wpAnyH_ready (rs := [12]) (by kernel_rfl) (by simp) ?_
    refine AllReadyH.cons rfl (fun K hK => ?_) AllReadyH.nil
    go_simp
    have HX := okey_any (some a5) c5 d w16 HR16.out
    with_reducible refine HX.mono ?_
    clear HX
    rintro e w17 ⟨rfl, hc⟩
    have HC17 := Lib.hid (HC16.out.trans hc)
    have HA17 := Lib.hid (hc.blk HA16.out (fun h => h))
    clear hc HC16 HA16
    refine hK.out _ _ (HMK.out _ HC17.out) (fun hHeld => ?_)
    clear hK K
    refine tkp (v := ?_) 13 ?_ ?_
    rotate_left
    ·intro w hSw; (try dsimp only at hSw); go_simp; (first | done | with_reducible rfl)
    try simp only [Act.put, List.getElem_toArray, List.getElem_cons_succ, List.getElem_cons_zero, List.setIfInBounds_toArray, List.set_cons_zero, List.set_cons_succ]
    refine tkp (v := ?_) 14 ?_ ?_
    rotate_left
    ·intro w hSw; (try dsimp only at hSw); go_simp; (first | done | with_reducible rfl)
    try simp only [Act.put, List.getElem_toArray, List.getElem_cons_succ, List.getElem_cons_zero, List.setIfInBounds_toArray, List.set_cons_zero, List.set_cons_succ]
    refine tkp (v := ?_) 15 ?_ ?_
    rotate_left
    ·intro w hSw; (try dsimp only at hSw); go_simp; (first | done | with_reducible rfl)
    try simp only [Act.put, List.getElem_toArray, List.getElem_cons_succ, List.getElem_cons_zero, List.setIfInBounds_toArray, List.set_cons_zero, List.set_cons_succ]
    refine wpAnyH_ready (rs := [17]) (by kernel_rfl) (by simp) ?_
    refine AllReadyH.cons rfl (fun K hK => ?_) AllReadyH.nil
    refine step_store_blk rfl 35 (.tmp 3) (.tmp 26) rfl ga 0 (nums .u8 d) rfl rfl (nums .u8 (List.replicate 16 0)).toArray 35 HA17.out (by rw [nums_len, HDL.out]; decide) (by rw [nums_len, HDL.out]; kernel_rfl) (nums_one _ _) ?_
    intro w99 h5 hc5
    have H99 : Hid (w99.heap[ga]? = some (.cells (nums .u8 d).toArray 35 (0, 0))) := Lib.hid (by rw [h5, List.take_zero, List.nil_append, nums_len, HDL.out]; (rw [show List.drop (0 + 16) (nums .u8 (List.replicate 16 0)).toArray.toList = [] by rfl, List.append_nil]))
    have HC99 := Lib.hid (HC17.out.then_ hc5 (fun i hi e => by have := HLOW.out; omega))
    clear h5 hc5
    refine hK.out _ _ (HMK.out _ HC99.out) (fun hHeld => ?_)
    clear hK K
    refine tkp (v := ?_) 18 ?_ ?_
    rotate_left
    ·intro w hSw; (try dsimp only at hSw); go_simp; (first | done | with_reducible rfl)
    try simp only [Act.put, List.getElem_toArray, List.getElem_cons_succ, List.getElem_cons_zero, List.setIfInBounds_toArray, List.set_cons_zero, List.set_cons_succ]
    refine wpAnyH_done (by kernel_rfl) ?_ _
    have HZ99 := Lib.hid (HC99.out.blk HZR.out (fun h => h))
    have HA99 := Lib.hid (HRA1.out.ch HC99.out)
    go_wp2_with first
     | (refine wpList_load_mid rfl 35 (.tmp 3) rfl ga 0 rfl (nums .u8 d) (.array 16 5) (range_nums H99.out) Tryd.underlying35 rfl (by rw [nums_len, HDL.out]; kernel_rfl) ?_)
     | (refine wpList_store_blk rfl 35 (.tmp 2) (.tmp 28) rfl gr 0 (nums .u8 d) rfl rfl (nums .u8 (List.replicate 16 0)).toArray 35 HZ99.out (by rw [nums_len, HDL.out]; decide) (by rw [nums_len, HDL.out]; kernel_rfl) (nums_one _ _) ?_; intro w98 h8 hc8; (have H98 : Hid (w98.heap[gr]? = some (.cells (nums .u8 d).toArray 35 (0, 0))) := Lib.hid (by rw [h8, List.take_zero, List.nil_append, nums_len, HDL.out]; (rw [show List.drop (0 + 16) (nums .u8 (List.replicate 16 0)).toArray.toList = [] by rfl, List.append_nil]))); have HC98 := Lib.hid hc8; clear h8 hc8)
    refine bodyPost_ret (results_cell_row rfl _ _ gr 35 (nums .u8 d).toArray (0, 0) (.array 16 5) rfl H98.out Tryd.underlying35 rfl (by rw [List.size_toArray, nums_len, HDL.out]; kernel_rfl)) rfl ⟨by rw [HD.out], HEND.out _ _ HA99.out HC99.out HC98.out⟩
   refine AllReadyH.cons rfl (fun K hK => ?_) AllReadyH.nil
   go_simp
   go_wp2_with fail
   obtain ⟨w18, hw⟩ : ∃ W, W = w12.alloc (.cells (nums .u8 (List.replicate 16 0)).toArray 35) := ⟨_, rfl⟩
   have hc : Ch (fun _ => False) w12 w18 := by rw [hw]; exact (Ch.refl _ _).alloc _
   have hnew : w18.heap[w12.heap.size]? = some (Obj.cells (nums .u8 (List.replicate 16 0)).toArray 35 (0, 0)) := by rw [hw]; exact heap_alloc_new _ _
   change K _ (w12.alloc (.cells (nums .u8 (List.replicate 16 0)).toArray 35))
   rw [← hw]
   obtain ⟨ga, hg⟩ : ∃ g, w12.heap.size = g := ⟨_, rfl⟩
   rw [hg] at hnew ⊢
   have HLOW := Lib.hid (show w1.heap.size ≤ ga by have := HC12.out.size; omega)
   clear hw hg
   have HC18 := Lib.hid (HC12.out.trans hc)
   have HP18 := Lib.hid (hc.reads HP12.out (fun _ _ h => h))
   have HB18 := Lib.hid (hc.blk HB12.out (fun h => h))
   clear hc HC12 HP12 HB12
   have HA18 := Lib.hid hnew
   clear hnew
   refine hK.out _ _ (HMK.out _ HC18.out) (fun hHeld => ?_)
   clear hK K
   refine wpAnyH_ready (rs := [10]) (by kernel_rfl) (by simp) ?_
   refine AllReadyH.cons rfl (fun K hK => ?_) AllReadyH.nil
   go_simp
   have HX := msum_any A (some ⟨gb, 0, none⟩) seed.length c 1 1 seed [putBytes (ks + 1)] w18 (HSD.out _ HC18.out) (rows2_one1 HB18.out HP18.out) HSB.out (by intro x hx; simp only [List.mem_cons, List.not_mem_nil, or_false] at hx; subst hx; exact putBytes_bs _) HSL.out (by simp [putBytes_length]) (by decide)
   rw [show ([putBytes (ks + 1)] : List (List Int)).flatten = putBytes (ks + 1) by simp] at HX
   with_reducible refine HX.mono ?_
   clear HX
   rintro e w19 ⟨v, rfl, ho, hb⟩
   obtain ⟨A5, c5, rfl, h32⟩ := q_slice (q_of_own ho)
   have h16 : (16 : Int) ≤ c5 := by omega
   obtain ⟨a5, rfl, -⟩ := (rd_own ho).2.2 (by omega)
   have hc := Ch.of_below (S := fun _ => False) hb
   have HC19 := Lib.hid (HC18.out.trans hc)
   have HA19 := Lib.hid (hc.blk HA18.out (fun h => h))
   clear hc HC18 HA18
   have HR19 : Hid (ReadsInt w19 .u8 (some a5) 16 d) := Lib.hid (by rw [HD.out]; exact reads_take (rd_own ho) (show 16 ≤ 32 by omega))
   clear ho hb h32
   refine hK.out _ _ (HMK.out _ HC19.out) (fun hHeld => ?_)
   clear hK K
   refine tkp (v := ?_) 11 ?_ ?_
   rotate_left
   ·intro w hSw; (try dsimp only at hSw); go_simp; (first | done | with_reducible rfl)
   try simp only [Act.put, List.getElem_toArray, List.getElem_cons_succ, List.getElem_cons_zero, List.setIfInBounds_toArray, List.set_cons_zero, List.set_cons_succ]
   refine wpAnyH_ready (rs := [12]) (by kernel_rfl) (by simp) ?_
   refine AllReadyH.cons rfl (fun K hK => ?_) AllReadyH.nil
   go_simp
   have HX := okey_any (some a5) c5 d w19 HR19.out
   with_reducible refine HX.mono ?_
   clear HX
   rintro e w20 ⟨rfl, hc⟩
   have HC20 := Lib.hid (HC19.out.trans hc)
   have HA20 := Lib.hid (hc.blk HA19.out (fun h => h))
   clear hc HC19 HA19
   refine hK.out _ _ (HMK.out _ HC20.out) (fun hHeld => ?_)
   clear hK K
   refine tkp (v := ?_) 13 ?_ ?_
   rotate_left
   ·intro w hSw; (try dsimp only at hSw); go_simp; (first | done | with_reducible rfl)
   try simp only [Act.put, List.getElem_toArray, List.getElem_cons_succ, List.getElem_cons_zero, List.setIfInBounds_toArray, List.set_cons_zero, List.set_cons_succ]
   refine tkp (v := ?_) 14 ?_ ?_
   rotate_left
   ·intro w hSw; (try dsimp only at hSw); go_simp; (first | done | with_reducible rfl)
   try simp only [Act.put, List.getElem_toArray, List.getElem_cons_succ, List.getElem_cons_zero, List.setIfInBounds_toArray, List.set_cons_zero, List.set_cons_succ]
   refine tkp (v := ?_) 15 ?_ ?_
   rotate_left
   ·intro w hSw; (try dsimp only at hSw); go_simp; (first | done | with_reducible rfl)
   try simp only [Act.put, List.getElem_toArray, List.getElem_cons_succ, List.getElem_cons_zero, List.setIfInBounds_toArray, List.set_cons_zero, List.set_cons_succ]
   refine wpAnyH_ready (rs := [17]) (by kernel_rfl) (by simp) ?_
   refine AllReadyH.cons rfl (fun K hK => ?_) AllReadyH.nil
   refine step_store_blk rfl 35 (.tmp 3) (.tmp 26) rfl ga 0 (nums .u8 d) rfl rfl (nums .u8 (List.replicate 16 0)).toArray 35 HA20.out (by rw [nums_len, HDL.out]; decide) (by rw [nums_len, HDL.out]; kernel_rfl) (nums_one _ _) ?_
   intro w99 h5 hc5
   have H99 : Hid (w99.heap[ga]? = some (.cells (nums .u8 d).toArray 35 (0, 0))) := Lib.hid (by rw [h5, List.take_zero, List.nil_append, nums_len, HDL.out]; (rw [show List.drop (0 + 16) (nums .u8 (List.replicate 16 0)).toArray.toList = [] by rfl, List.append_nil]))
   have HC99 := Lib.hid (HC20.out.then_ hc5 (fun i hi e => by have := HLOW.out; omega))
   clear h5 hc5
   refine hK.out _ _ (HMK.out _ HC99.out) (fun hHeld => ?_)
   clear hK K
   refine tkp (v := ?_) 18 ?_ ?_
   rotate_left
   ·intro w hSw; (try dsimp only at hSw); go_simp; (first | done | with_reducible rfl)
   try simp only [Act.put, List.getElem_toArray, List.getElem_cons_succ, List.getElem_cons_zero, List.setIfInBounds_toArray, List.set_cons_zero, List.set_cons_succ]
   refine wpAnyH_done (by kernel_rfl) ?_ _
   have HZ99 := Lib.hid (HC99.out.blk HZR.out (fun h => h))
   have HA99 := Lib.hid (HRA1.out.ch HC99.out)
   go_wp2_with first
    | (refine wpList_load_mid rfl 35 (.tmp 3) rfl ga 0 rfl (nums .u8 d) (.array 16 5) (range_nums H99.out) Tryd.underlying35 rfl (by rw [nums_len, HDL.out]; kernel_rfl) ?_)
    | (refine wpList_store_blk rfl 35 (.tmp 2) (.tmp 28) rfl gr 0 (nums .u8 d) rfl rfl (nums .u8 (List.replicate 16 0)).toArray 35 HZ99.out (by rw [nums_len, HDL.out]; decide) (by rw [nums_len, HDL.out]; kernel_rfl) (nums_one _ _) ?_; intro w98 h8 hc8; (have H98 : Hid (w98.heap[gr]? = some (.cells (nums .u8 d).toArray 35 (0, 0))) := Lib.hid (by rw [h8, List.take_zero, List.nil_append, nums_len, HDL.out]; (rw [show List.drop (0 + 16) (nums .u8 (List.replicate 16 0)).toArray.toList = [] by rfl, List.append_nil]))); have HC98 := Lib.hid hc8; clear h8 hc8)
   refine bodyPost_ret (results_cell_row rfl _ _ gr 35 (nums .u8 d).toArray (0, 0) (.array 16 5) rfl H98.out Tryd.underlying35 rfl (by rw [List.size_toArray, nums_len, HDL.out]; kernel_rfl)) rfl ⟨by rw [HD.out], HEND.out _ _ HA99.out HC99.out HC98.out⟩
  refine AllReadyH.cons rfl (fun K hK => ?_) AllReadyH.nil
  go_simp
  go_wp2_with fail
  obtain ⟨w21, hw⟩ : ∃ W, W = w11.alloc (.cells (nums .u8 (List.replicate 16 0)).toArray 35) := ⟨_, rfl⟩
  have hc : Ch (fun _ => False) w11 w21 := by rw [hw]; exact (Ch.refl _ _).alloc _
  have hnew : w21.heap[w11.heap.size]? = some (Obj.cells (nums .u8 (List.replicate 16 0)).toArray 35 (0, 0)) := by rw [hw]; exact heap_alloc_new _ _
  change K _ (w11.alloc (.cells (nums .u8 (List.replicate 16 0)).toArray 35))
  rw [← hw]
  obtain ⟨ga, hg⟩ : ∃ g, w11.heap.size = g := ⟨_, rfl⟩
  rw [hg] at hnew ⊢
  have HLOW := Lib.hid (show w1.heap.size ≤ ga by have := HC11.out.size; omega)
  clear hw hg
  have HC21 := Lib.hid (HC11.out.trans hc)
  have HP21 := Lib.hid (hc.reads HP11.out (fun _ _ h => h))
  clear hc HC11 HP11
  have HA21 := Lib.hid hnew
  clear hnew
  refine hK.out _ _ (HMK.out _ HC21.out) (fun hHeld => ?_)
  clear hK K
  refine wpAnyH_ready (rs := [9]) (by kernel_rfl) (by simp) ?_
  refine AllReadyH.cons rfl (fun K hK => ?_) AllReadyH.nil
  go_simp
  go_wp2_with fail
  obtain ⟨w22, hw⟩ : ∃ W, W = w21.alloc (.cells #[.slice Ap 8 cp] 23) := ⟨_, rfl⟩
  have hc : Ch (fun _ => False) w21 w22 := by rw [hw]; exact (Ch.refl _ _).alloc _
  have hnew : w22.heap[w21.heap.size]? = some (Obj.cells #[.slice Ap 8 cp] 23 (0, 0)) := by rw [hw]; exact heap_alloc_new _ _
  change K _ (w21.alloc (.cells #[.slice Ap 8 cp] 23))
  rw [← hw]
  obtain ⟨gb, hg⟩ : ∃ g, w21.heap.size = g := ⟨_, rfl⟩
  rw [hg] at hnew ⊢
  clear hw hg
  have HC22 := Lib.hid (HC21.out.trans hc)
  have HP22 := Lib.hid (hc.reads HP21.out (fun _ _ h => h))
  have HA22 := Lib.hid (hc.blk HA21.out (fun h => h))
  clear hc HC21 HP21 HA21
  have HB22 := Lib.hid hnew
  clear hnew
  refine hK.out _ _ (HMK.out _ HC22.out) (fun hHeld => ?_)
  clear hK K
  refine wpAnyH_ready (rs := [10]) (by kernel_rfl) (by simp) ?_
  refine AllReadyH.cons rfl (fun K hK => ?_) AllReadyH.nil
  go_simp
  have HX := msum_any A (some ⟨gb, 0, none⟩) seed.length c 1 1 seed [putBytes (ks + 1)] w22 (HSD.out _ HC22.out) (rows2_one1 HB22.out HP22.out) HSB.out (by intro x hx; simp only [List.mem_cons, List.not_mem_nil, or_false] at hx; subst hx; exact putBytes_bs _) HSL.out (by simp [putBytes_length]) (by decide)
  rw [show ([putBytes (ks + 1)] : List (List Int)).flatten = putBytes (ks + 1) by simp] at HX
  with_reducible refine HX.mono ?_
  clear HX
  rintro e w23 ⟨v, rfl, ho, hb⟩
  obtain ⟨A5, c5, rfl, h32⟩ := q_slice (q_of_own ho)
  have h16 : (16 : Int) ≤ c5 := by omega
  obtain ⟨a5, rfl, -⟩ := (rd_own ho).2.2 (by omega)
  have hc := Ch.of_below (S := fun _ => False) hb
  have HC23 := Lib.hid (HC22.out.trans hc)
  have HA23 := Lib.hid (hc.blk HA22.out (fun h => h))
  clear hc HC22 HA22
  have HR23 : Hid (ReadsInt w23 .u8 (some a5) 16 d) := Lib.hid (by rw [HD.out]; exact reads_take (rd_own ho) (show 16 ≤ 32 by omega))
  clear ho hb h32
  refine hK.out _ _ (HMK.out _ HC23.out) (fun hHeld => ?_)
  clear hK K
  refine tkp (v := ?_) 11 ?_ ?_
  rotate_left
  ·intro w hSw; (try dsimp only at hSw); go_simp; (first | done | with_reducible rfl)
  try simp only [Act.put, List.getElem_toArray, List.getElem_cons_succ, List.getElem_cons_zero, List.setIfInBounds_toArray, List.set_cons_zero, List.set_cons_succ]
  refine wpAnyH_ready (rs := [12]) (by kernel_rfl) (by simp) ?_
  refine AllReadyH.cons rfl (fun K hK => ?_) AllReadyH.nil
  go_simp
  have HX := okey_any (some a5) c5 d w23 HR23.out
  with_reducible refine HX.mono ?_
  clear HX
  rintro e w24 ⟨rfl, hc⟩
  have HC24 := Lib.hid (HC23.out.trans hc)
  have HA24 := Lib.hid (hc.blk HA23.out (fun h => h))
  clear hc HC23 HA23
  refine hK.out _ _ (HMK.out _ HC24.out) (fun hHeld => ?_)
  clear hK K
  refine tkp (v := ?_) 13 ?_ ?_
  rotate_left
  ·intro w hSw; (try dsimp only at hSw); go_simp; (first | done | with_reducible rfl)
  try simp only [Act.put, List.getElem_toArray, List.getElem_cons_succ, List.getElem_cons_zero, List.setIfInBounds_toArray, List.set_cons_zero, List.set_cons_succ]
  refine tkp (v := ?_) 14 ?_ ?_
  rotate_left
  ·intro w hSw; (try dsimp only at hSw); go_simp; (first | done | with_reducible rfl)
  try simp only [Act.put, List.getElem_toArray, List.getElem_cons_succ, List.getElem_cons_zero, List.setIfInBounds_toArray, List.set_cons_zero, List.set_cons_succ]
  refine tkp (v := ?_) 15 ?_ ?_
  rotate_left
  ·intro w hSw; (try dsimp only at hSw); go_simp; (first | done | with_reducible rfl)
  try simp only [Act.put, List.getElem_toArray, List.getElem_cons_succ, List.getElem_cons_zero, List.setIfInBounds_toArray, List.set_cons_zero, List.set_cons_succ]
  refine wpAnyH_ready (rs := [17]) (by kernel_rfl) (by simp) ?_
  refine AllReadyH.cons rfl (fun K hK => ?_) AllReadyH.nil
  refine step_store_blk rfl 35 (.tmp 3) (.tmp 26) rfl ga 0 (nums .u8 d) rfl rfl (nums .u8 (List.replicate 16 0)).toArray 35 HA24.out (by rw [nums_len, HDL.out]; decide) (by rw [nums_len, HDL.out]; kernel_rfl) (nums_one _ _) ?_
  intro w99 h5 hc5
  have H99 : Hid (w99.heap[ga]? = some (.cells (nums .u8 d).toArray 35 (0, 0))) := Lib.hid (by rw [h5, List.take_zero, List.nil_append, nums_len, HDL.out]; (rw [show List.drop (0 + 16) (nums .u8 (List.replicate 16 0)).toArray.toList = [] by rfl, List.append_nil]))
  have HC99 := Lib.hid (HC24.out.then_ hc5 (fun i hi e => by have := HLOW.out; omega))
  clear h5 hc5
  refine hK.out _ _ (HMK.out _ HC99.out) (fun hHeld => ?_)
  clear hK K
  refine tkp (v := ?_) 18 ?_ ?_
  rotate_left
  ·intro w hSw; (try dsimp only at hSw); go_simp; (first | done | with_reducible rfl)
  try simp only [Act.put, List.getElem_toArray, List.getElem_cons_succ, List.getElem_cons_zero, List.setIfInBounds_toArray, List.set_cons_zero, List.set_cons_succ]
  refine wpAnyH_done (by kernel_rfl) ?_ _
  have HZ99 := Lib.hid (HC99.out.blk HZR.out (fun h => h))
  have HA99 := Lib.hid (HRA1.out.ch HC99.out)
  go_wp2_with first
   | (refine wpList_load_mid rfl 35 (.tmp 3) rfl ga 0 rfl (nums .u8 d) (.array 16 5) (range_nums H99.out) Tryd.underlying35 rfl (by rw [nums_len, HDL.out]; kernel_rfl) ?_)
   | (refine wpList_store_blk rfl 35 (.tmp 2) (.tmp 28) rfl gr 0 (nums .u8 d) rfl rfl (nums .u8 (List.replicate 16 0)).toArray 35 HZ99.out (by rw [nums_len, HDL.out]; decide) (by rw [nums_len, HDL.out]; kernel_rfl) (nums_one _ _) ?_; intro w98 h8 hc8; (have H98 : Hid (w98.heap[gr]? = some (.cells (nums .u8 d).toArray 35 (0, 0))) := Lib.hid (by rw [h8, List.take_zero, List.nil_append, nums_len, HDL.out]; (rw [show List.drop (0 + 16) (nums .u8 (List.replicate 16 0)).toArray.toList = [] by rfl, List.append_nil]))); have HC98 := Lib.hid hc8; clear h8 hc8)
  refine bodyPost_ret (results_cell_row rfl _ _ gr 35 (nums .u8 d).toArray (0, 0) (.array 16 5) rfl H98.out Tryd.underlying35 rfl (by rw [List.size_toArray, nums_len, HDL.out]; kernel_rfl)) rfl ⟨by rw [HD.out], HEND.out _ _ HA99.out HC99.out HC98.out⟩
 refine AllReadyH.cons rfl (fun K hK => ?_) AllReadyH.nil
 go_simp
 go_wp2_with fail
 obtain ⟨w25, hw⟩ : ∃ W, W = w1.drew.alloc (.cells (nums .u8 (List.replicate 16 0)).toArray 35) := ⟨_, rfl⟩
 have hc : Ch (fun _ => False) w1.drew w25 := by rw [hw]; exact (Ch.refl _ _).alloc _
 have hnew : w25.heap[w1.heap.size]? = some (Obj.cells (nums .u8 (List.replicate 16 0)).toArray 35 (0, 0)) := by rw [hw]; exact heap_alloc_new _ _
 change K _ (w1.drew.alloc (.cells (nums .u8 (List.replicate 16 0)).toArray 35))
 rw [← hw]
 obtain ⟨ga, hg⟩ : ∃ g, w1.heap.size = g := ⟨_, rfl⟩
 rw [hg] at hnew ⊢
 have HLOW := Lib.hid (show w1.heap.size ≤ ga by have := HC0.out.size; omega)
 clear hw hg
 have HC25 := Lib.hid (HC0.out.trans hc)
 clear hc HC0
 have HA25 := Lib.hid hnew
 clear hnew
 refine hK.out _ _ (HMK.out _ HC25.out) (fun hHeld => ?_)
 clear hK K
 refine wpAnyH_ready (rs := [8]) (by kernel_rfl) (by simp) ?_
 refine AllReadyH.cons rfl (fun K hK => ?_) AllReadyH.nil
 go_simp
 have HX := put_own (ks + 1) w25 (by omega) (by omega)
 with_reducible refine HX.mono ?_
 clear HX
 rintro e w26 ⟨v, rfl, ho, hb⟩
 obtain ⟨Ap, cp, rfl, -⟩ := q_slice (q_of_own ho)
 have hc := Ch.of_below (S := fun _ => False) hb
 have HC26 := Lib.hid (HC25.out.trans hc)
 have HA26 := Lib.hid (hc.blk HA25.out (fun h => h))
 clear hc HC25 HA25
 have HP26 := Lib.hid (rd_own ho)
 clear ho hb
 refine hK.out _ _ (HMK.out _ HC26.out) (fun hHeld => ?_)
 clear hK K
 refine wpAnyH_ready (rs := [9]) (by kernel_rfl) (by simp) ?_
 refine AllReadyH.cons rfl (fun K hK => ?_) AllReadyH.nil
 go_simp
 go_wp2_with fail
 obtain ⟨w27, hw⟩ : ∃ W, W = w26.alloc (.cells #[.slice Ap 8 cp] 23) := ⟨_, rfl⟩
 have hc : Ch (fun _ => False) w26 w27 := by rw [hw]; exact (Ch.refl _ _).alloc _
 have hnew : w27.heap[w26.heap.size]? = some (Obj.cells #[.slice Ap 8 cp] 23 (0, 0)) := by rw [hw]; exact heap_alloc_new _ _
 change K _ (w26.alloc (.cells #[.slice Ap 8 cp] 23))
 rw [← hw]
 obtain ⟨gb, hg⟩ : ∃ g, w26.heap.size = g := ⟨_, rfl⟩
 rw [hg] at hnew ⊢
 clear hw hg
 have HC27 := Lib.hid (HC26.out.trans hc)
 have HA27 := Lib.hid (hc.blk HA26.out (fun h => h))
 have HP27 := Lib.hid (hc.reads HP26.out (fun _ _ h => h))
 clear hc HC26 HA26 HP26
 have HB27 := Lib.hid hnew
 clear hnew
 refine hK.out _ _ (HMK.out _ HC27.out) (fun hHeld => ?_)
 clear hK K
 refine wpAnyH_ready (rs := [10]) (by kernel_rfl) (by simp) ?_
 refine AllReadyH.cons rfl (fun K hK => ?_) AllReadyH.nil
 go_simp
 have HX := msum_any A (some ⟨gb, 0, none⟩) seed.length c 1 1 seed [putBytes (ks + 1)] w27 (HSD.out _ HC27.out) (rows2_one1 HB27.out HP27.out) HSB.out (by intro x hx; simp only [List.mem_cons, List.not_mem_nil, or_false] at hx; subst hx; exact putBytes_bs _) HSL.out (by simp [putBytes_length]) (by decide)
 rw [show ([putBytes (ks + 1)] : List (List Int)).flatten = putBytes (ks + 1) by simp] at HX
 with_reducible refine HX.mono ?_
 clear HX
 rintro e w28 ⟨v, rfl, ho, hb⟩
 obtain ⟨A5, c5, rfl, h32⟩ := q_slice (q_of_own ho)
 have h16 : (16 : Int) ≤ c5 := by omega
 obtain ⟨a5, rfl, -⟩ := (rd_own ho).2.2 (by omega)
 have hc := Ch.of_below (S := fun _ => False) hb
 have HC28 := Lib.hid (HC27.out.trans hc)
 have HA28 := Lib.hid (hc.blk HA27.out (fun h => h))
 clear hc HC27 HA27
 have HR28 : Hid (ReadsInt w28 .u8 (some a5) 16 d) := Lib.hid (by rw [HD.out]; exact reads_take (rd_own ho) (show 16 ≤ 32 by omega))
 clear ho hb h32
 refine hK.out _ _ (HMK.out _ HC28.out) (fun hHeld => ?_)
 clear hK K
 refine tkp (v := ?_) 11 ?_ ?_
 rotate_left
 ·intro w hSw; (try dsimp only at hSw); go_simp; (first | done | with_reducible rfl)
 try simp only [Act.put, List.getElem_toArray, List.getElem_cons_succ, List.getElem_cons_zero, List.setIfInBounds_toArray, List.set_cons_zero, List.set_cons_succ]
 refine wpAnyH_ready (rs := [12]) (by kernel_rfl) (by simp) ?_
 refine AllReadyH.cons rfl (fun K hK => ?_) AllReadyH.nil
 go_simp
 have HX := okey_any (some a5) c5 d w28 HR28.out
 with_reducible refine HX.mono ?_
 clear HX
 rintro e w29 ⟨rfl, hc⟩
 have HC29 := Lib.hid (HC28.out.trans hc)
 have HA29 := Lib.hid (hc.blk HA28.out (fun h => h))
 clear hc HC28 HA28
 refine hK.out _ _ (HMK.out _ HC29.out) (fun hHeld => ?_)
 clear hK K
 refine tkp (v := ?_) 13 ?_ ?_
 rotate_left
 ·intro w hSw; (try dsimp only at hSw); go_simp; (first | done | with_reducible rfl)
 try simp only [Act.put, List.getElem_toArray, List.getElem_cons_succ, List.getElem_cons_zero, List.setIfInBounds_toArray, List.set_cons_zero, List.set_cons_succ]
 refine tkp (v := ?_) 14 ?_ ?_
 rotate_left
 ·intro w hSw; (try dsimp only at hSw); go_simp; (first | done | with_reducible rfl)
 try simp only [Act.put, List.getElem_toArray, List.getElem_cons_succ, List.getElem_cons_zero, List.setIfInBounds_toArray, List.set_cons_zero, List.set_cons_succ]
 refine tkp (v := ?_) 15 ?_ ?_
 rotate_left
 ·intro w hSw; (try dsimp only at hSw); go_simp; (first | done | with_reducible rfl)
 try simp only [Act.put, List.getElem_toArray, List.getElem_cons_succ, List.getElem_cons_zero, List.setIfInBounds_toArray, List.set_cons_zero, List.set_cons_succ]
 refine wpAnyH_ready (rs := [17]) (by kernel_rfl) (by simp) ?_
 refine AllReadyH.cons rfl (fun K hK => ?_) AllReadyH.nil
 refine step_store_blk rfl 35 (.tmp 3) (.tmp 26) rfl ga 0 (nums .u8 d) rfl rfl (nums .u8 (List.replicate 16 0)).toArray 35 HA29.out (by rw [nums_len, HDL.out]; decide) (by rw [nums_len, HDL.out]; kernel_rfl) (nums_one _ _) ?_
 intro w99 h5 hc5
 have H99 : Hid (w99.heap[ga]? = some (.cells (nums .u8 d).toArray 35 (0, 0))) := Lib.hid (by rw [h5, List.take_zero, List.nil_append, nums_len, HDL.out]; (rw [show List.drop (0 + 16) (nums .u8 (List.replicate 16 0)).toArray.toList = [] by rfl, List.append_nil]))
 have HC99 := Lib.hid (HC29.out.then_ hc5 (fun i hi e => by have := HLOW.out; omega))
 clear h5 hc5
 refine hK.out _ _ (HMK.out _ HC99.out) (fun hHeld => ?_)
 clear hK K
 refine tkp (v := ?_) 18 ?_ ?_
 rotate_left
 ·intro w hSw; (try dsimp only at hSw); go_simp; (first | done | with_reducible rfl)
 try simp only [Act.put, List.getElem_toArray, List.getElem_cons_succ, List.getElem_cons_zero, List.setIfInBounds_toArray, List.set_cons_zero, List.set_cons_succ]
 refine wpAnyH_done (by kernel_rfl) ?_ _
 have HZ99 := Lib.hid (HC99.out.blk HZR.out (fun h => h))
 have HA99 := Lib.hid (HRA1.out.ch HC99.out)
 go_wp2_with first
  | (refine wpList_load_mid rfl 35 (.tmp 3) rfl ga 0 rfl (nums .u8 d) (.array 16 5) (range_nums H99.out) Tryd.underlying35 rfl (by rw [nums_len, HDL.out]; kernel_rfl) ?_)
  | (refine wpList_store_blk rfl 35 (.tmp 2) (.tmp 28) rfl gr 0 (nums .u8 d) rfl rfl (nums .u8 (List.replicate 16 0)).toArray 35 HZ99.out (by rw [nums_len, HDL.out]; decide) (by rw [nums_len, HDL.out]; kernel_rfl) (nums_one _ _) ?_; intro w98 h8 hc8; (have H98 : Hid (w98.heap[gr]? = some (.cells (nums .u8 d).toArray 35 (0, 0))) := Lib.hid (by rw [h8, List.take_zero, List.nil_append, nums_len, HDL.out]; (rw [show List.drop (0 + 16) (nums .u8 (List.replicate 16 0)).toArray.toList = [] by rfl, List.append_nil]))); have HC98 := Lib.hid hc8; clear h8 hc8)
 refine bodyPost_ret (results_cell_row rfl _ _ gr 35 (nums .u8 d).toArray (0, 0) (.array 16 5) rfl H98.out Tryd.underlying35 rfl (by rw [List.size_toArray, nums_len, HDL.out]; kernel_rfl)) rfl ⟨by rw [HD.out], HEND.out _ _ HA99.out HC99.out HC98.out⟩
end Go.Proofs.YtejhjlfakfaegaaDoor
set_option linter.unusedSimpArgs false
set_option linter.unusedVariables false
namespace Go.Proofs.YtejhjlfakfaegaaDoor
open Go.RowKit Go.Proofs.YtejhjlfakfaegaaDoorW.PrintWords

theorem strm_bs (ks f b : List Int) : Bs (strm ks f b) := by
 intro x hx
 unfold strm at hx
 simp only [List.mem_map] at hx
 obtain ⟨i, _, rfl⟩ := hx
 exact x8_b _ _
theorem call_named {P : Program} {f : FuncId} {args : Array Value} {w : World} {Q : Ending → World → Prop} (h : ∀ W, W = w → Calls P f args W Q) : Calls P f args w Q := h w rfl
theorem rows2_three {W : World} {g n1 n2 n3 c1 c2 c3 : Nat} {A1 A2 A3 : Option Addr} {T : TypeId} {l1 l2 l3 : List Int} (h : W.heap[g]? = some (.cells #[.slice A1 n1 c1, .slice A2 n2 c2, .slice A3 n3 c3] T (0, 0))) (h1 : ReadsInt W .u8 A1 n1 l1) (h2 : ReadsInt W .u8 A2 n2 l2) (h3 : ReadsInt W .u8 A3 n3 l3) :
  Rows2 W (some ⟨g, 0, none⟩) 3 [l1, l2, l3] := by
 refine ⟨rfl, by omega, fun _ => ⟨_, rfl, fun j hj => ?_⟩⟩
 obtain rfl := h1.1
 obtain rfl := h2.1
 obtain rfl := h3.1
 rcases j with _ | _ | _ | j
 ·rw [add_plain, blk_cell h]
  exact ⟨A1, c1, rfl, h1⟩
 ·rw [add_plain, blk_cell h]
  exact ⟨A2, c2, rfl, h2⟩
 ·rw [add_plain, blk_cell h]
  exact ⟨A3, c3, rfl, h3⟩
 ·omega
set_option maxHeartbeats 1000000 in
theorem sdigest_any (rv : Value) (A : Option Addr) (n c : Nat) (b : List Int) (w : World) (hr : ReadsInt w .u8 A n b) (hb : Bs b) (hn : n < 100000) :
  Calls Tryd.prog 16 #[rv, .slice A n c] w fun e w' => ∃ A' c', e = .returned (.slice A' 16 c') ∧ ReadsInt w' .u8 A' 16 ((sha b).take 16) ∧ Ch (fun _ => False) w w' := by
 have HR := Lib.hid hr
 have HB := Lib.hid hb
 have hbl : b.length < 100000 := by rw [hr.1]; exact hn
 clear hr
 go_enter Tryd.func16, Tryd.ntmps16
 go_wp2_with fail
 have HO := of_any (some ⟨w.heap.size, 0, none⟩) 1 1 [b] (w.alloc (.cells #[.slice A n c] 23)) (rows2_one1 (heap_alloc_new w _) (((Ch.refl (fun _ => False) _).alloc _).reads HR.out (fun _ _ h => h))) (by simp; omega) (by simpa using HB.out)
 rw [show ([b] : List (List Int)).flatten = b by simp] at HO
 with_reducible refine HO.mono ?_
 clear HO
 rintro e w2 ⟨v, rfl, ho, hb2⟩
 obtain ⟨A5, c5, rfl, h32⟩ := q_slice (q_of_own ho)
 have h16 : (16 : Int) ≤ c5 := by omega
 obtain ⟨a5, rfl, -⟩ := (rd_own ho).2.2 (by omega)
 have HC := Lib.hid (((Ch.refl (fun _ => False) w).alloc (.cells #[.slice A n c] 23)).trans (Ch.of_below hb2))
 have HR5 := Lib.hid (reads_take (rd_own ho) (show 16 ≤ 32 by omega))
 clear ho hb2 h32
 go_wp2
 go_ret
 exact ⟨_, _, rfl, HR5.out, HC.out⟩
set_option maxRecDepth 100000 in
set_option maxHeartbeats 1000000 in
theorem sderive_any (rv : Value) (k : List Int) (s : ByteArray) (w : World) (hk : k.length = 16) (hkb : Bs k) (hs : s.size < 100000) :
  Calls Tryd.prog 15 #[rv, .agg (nums .u8 k).toArray, .string s] w fun e w' => e = .returned (.agg (nums .u8 (drv k (bytesOf s))).toArray) ∧ Ch (fun _ => False) w w' := by
 have HK := Lib.hid hk
 have HKB := Lib.hid hkb
 clear hk hkb
 obtain ⟨d, hd⟩ : ∃ d, d = drv k (bytesOf s) := ⟨_, rfl⟩
 have HDL : Hid (d.length = 16) := Lib.hid (by rw [hd]; exact drv_len _ _)
 have HD := Lib.hid hd
 clear hd
 go_enter Tryd.func15, Tryd.ntmps15
 go_wp2_with first
  | (refine wpList_load_mid rfl 35 (.tmp 4) rfl w.heap.size 0 rfl (nums .u8 k) (.array 16 5) (range_nums (heap_alloc2_old w _ _)) Tryd.underlying35 rfl (by rw [nums_len, HK.out]; kernel_rfl) ?_)
 refine call_named fun w1 hw1 => ?_
 have hcc : Ch (fun _ => False) w w1 := by rw [hw1]; exact ((Ch.refl (fun _ => False) w).alloc _).alloc _
 have hz : w1.heap[w.heap.size + 1]? = some (.cells (nums .u8 (List.replicate 16 0)).toArray 35 (0, 0)) := by rw [hw1]; exact heap_alloc2_new w _ _
 clear hw1
 have HX := derive_any k s w1 HK.out HKB.out hs
 rw [← HD.out] at HX
 with_reducible refine HX.mono ?_
 clear HX
 rintro e w2 ⟨rfl, hc⟩
 have HC2 := Lib.hid (hcc.trans hc)
 have HZ2 := Lib.hid (hc.blk hz (fun h => h))
 clear hcc hz hc
 go_wp2_with first
  | (refine wpList_store_blk rfl 35 (.tmp 6) (.tmp 9) rfl (w.heap.size + 1) 0 (nums .u8 d) rfl rfl (nums .u8 (List.replicate 16 0)).toArray 35 HZ2.out (by rw [nums_len, HDL.out]; decide) (by rw [nums_len, HDL.out]; kernel_rfl) (nums_one _ _) ?_; intro w98 h8 hc8; (have H98 : Hid (w98.heap[w.heap.size + 1]? = some (.cells (nums .u8 d).toArray 35 (0, 0))) := Lib.hid (by rw [h8, List.take_zero, List.nil_append, nums_len, HDL.out]; (rw [show List.drop (0 + 16) (nums .u8 (List.replicate 16 0)).toArray.toList = [] by rfl, List.append_nil]))); have HC98 := Lib.hid hc8; clear h8 hc8)
 refine bodyPost_ret (results_cell_row rfl _ _ (w.heap.size + 1) 35 (nums .u8 d).toArray (0, 0) (.array 16 5) rfl H98.out Tryd.underlying35 rfl (by rw [List.size_toArray, nums_len, HDL.out]; kernel_rfl)) rfl ⟨by rw [HD.out], HC2.out.then_ HC98.out (fun i hi e => by omega)⟩
set_option maxRecDepth 100000 in
set_option maxHeartbeats 1000000 in
theorem stext_any (rv : Value) (p s : ByteArray) (w : World) (hp : p.size < 100000) (hs : s.size < 100000) :
  Calls Tryd.prog 14 #[rv, .string p, .string s] w fun e w' => e = .returned (.agg (nums .u8 (txt (bytesOf p) (bytesOf s))).toArray) ∧ Ch (fun _ => False) w w' := by
 obtain ⟨d, hd⟩ : ∃ d, d = txt (bytesOf p) (bytesOf s) := ⟨_, rfl⟩
 have HDL : Hid (d.length = 16) := Lib.hid (by rw [hd, txt, List.length_take, (tx_len _ _ _).1]; rfl)
 have HD := Lib.hid hd
 clear hd
 go_enter Tryd.func14, Tryd.ntmps14
 go_wp2_with fail
 refine call_named fun w1 hw1 => ?_
 have hcc : Ch (fun _ => False) w w1 := by rw [hw1]; exact (Ch.refl (fun _ => False) w).alloc _
 have hz : w1.heap[w.heap.size]? = some (.cells (nums .u8 (List.replicate 16 0)).toArray 35 (0, 0)) := by rw [hw1]; exact heap_alloc_new w _
 clear hw1
 have HX := text_any p s w1 hp hs
 rw [← HD.out] at HX
 with_reducible refine HX.mono ?_
 clear HX
 rintro e w2 ⟨rfl, hc⟩
 have HC2 := Lib.hid (hcc.trans hc)
 have HZ2 := Lib.hid (hc.blk hz (fun h => h))
 clear hcc hz hc
 go_wp2_with first
  | (refine wpList_store_blk rfl 35 (.tmp 6) (.tmp 9) rfl w.heap.size 0 (nums .u8 d) rfl rfl (nums .u8 (List.replicate 16 0)).toArray 35 HZ2.out (by rw [nums_len, HDL.out]; decide) (by rw [nums_len, HDL.out]; kernel_rfl) (nums_one _ _) ?_; intro w98 h8 hc8; (have H98 : Hid (w98.heap[w.heap.size]? = some (.cells (nums .u8 d).toArray 35 (0, 0))) := Lib.hid (by rw [h8, List.take_zero, List.nil_append, nums_len, HDL.out]; (rw [show List.drop (0 + 16) (nums .u8 (List.replicate 16 0)).toArray.toList = [] by rfl, List.append_nil]))); have HC98 := Lib.hid hc8; clear h8 hc8)
 refine bodyPost_ret (results_cell_row rfl _ _ w.heap.size 35 (nums .u8 d).toArray (0, 0) (.array 16 5) rfl H98.out Tryd.underlying35 rfl (by rw [List.size_toArray, nums_len, HDL.out]; kernel_rfl)) rfl ⟨by rw [HD.out], HC2.out.then_ HC98.out (fun i hi e => by omega)⟩

/-! ### Seal -/
/-- the n-th box -/
def sealIn (n : Int) (k : List Int) (u : Int) (b : List Int) : List Int := strm (kGo (drv k (101 :: itoaB u)) 160) (putBytes n ++ z8) b
def sealB (n : Int) (k : List Int) (u : Int) (b : List Int) : List Int :=
 putBytes n ++ sealIn n k u b ++ (hmac (drv k (109 :: itoaB u)) (putBytes n ++ sealIn n k u b)).take 16
theorem own_low {w : World} {base n c : Nat} {e : TypeId} {xs : List Value} {a : Addr} (h : w.ownsRow base e 1 (.slice (some a) n c) n xs) (hn : 0 < n) : base ≤ a.block := by
 rcases h.2 with ⟨he, -⟩ | ⟨g, cap, cur, he, hb, -⟩
 ·cases he
 ·injection he with e1 e2 e3
  injection e1 with e1
  subst e1
  exact hb
set_option maxRecDepth 100000 in
set_option maxHeartbeats 4000000 in
theorem sseal_any (g : Nat) (A : Option Addr) (c : Nat) (seed : List Int) (ks bs : Int) (k : List Int) (u : Int) (Ab : Option Addr) (n cb : Nat) (b : List Int) (w : World) (h : RealAt w g A c seed ks bs) (hk : k.length = 16) (hkb : Bs k)
  (h0 : -9223372036854775808 ≤ u) (h1 : u ≤ 9223372036854775807) (hr : ReadsInt w .u8 Ab n b) (hbb : Bs b) (hn : n < 10000) (hap : ∀ a, Ab = some a → 0 < n → ¬ a.block = g) (ht : Tab w) (b0 : 0 ≤ bs) (b1 : bs < 1000000) :
  Calls Tryd.prog 10 #[.pointer (some ⟨g, 0, none⟩), .agg (nums .u8 k).toArray, .int .i64 u, .slice Ab n cb] w fun e w' =>
   ∃ a' c', e = .returned (.slice (some a') (n + 24) c') ∧ ReadsInt w' .u8 (some a') (n + 24) (sealB (bs + 1) k u b) ∧ RealAt w' g A c seed ks (bs + 1) ∧ Ch (fun i => i = g) w w' ∧ n + 24 ≤ c' ∧ w.heap.size ≤ a'.block := by
 have hb := blk_lt h.here
 have H := Lib.hid h
 have HK := Lib.hid hk
 have HKB := Lib.hid hkb
 have HT := Lib.hid ht
 have HBB := Lib.hid hbb
 have HR := Lib.hid hr
 have HAP := Lib.hid hap
 have c0 : w.cell? ⟨g, 2, none⟩ = some (.int .u64 bs) := blk_cell h.here 2
 have f0 : w.frozen? ⟨g, 2, none⟩ = false := blk_frozen h.here _
 have hne : ¬ w.heap.size = g := by omega
 clear h hk hkb ht hbb hr hap
 go_enter Tryd.func10, Tryd.ntmps10
 go_wp2_with fail
 refine call_named fun w1 hw1 => ?_
 obtain ⟨gk, hgk⟩ : ∃ gk, w.heap.size = gk := ⟨_, rfl⟩
 have hW1 : Ch (fun i => i = g) w w1 := by rw [hw1]; exact (Ch.setCell (S := fun i => i = g) (p := ⟨g, 2, none⟩) (Ch.refl _ _) (.inl rfl) _).alloc _
 have hK1 : w1.heap[gk]? = some (.cells (nums .u8 k).toArray 35 (0, 0)) := by
  rw [hw1, ← hgk]
  have := heap_alloc_new (w.setCell ⟨g, 2, none⟩ (.int .u64 (bs + 1))) (.cells (nums .u8 k).toArray 35)
  rwa [World.size_setCell] at this
 have hA1 : RealAt w1 g A c seed ks (bs + 1) := by
  have hs : (w.setCell ⟨g, 2, none⟩ (.int .u64 (bs + 1))).heap[g]? = some (.cells #[.slice A seed.length c, .int .u64 ks, .int .u64 (bs + 1)] 43 (0, 0)) := blk_set H.out.here 2 (.int .u64 (bs + 1))
  rw [hw1]
  exact ⟨((Ch.refl (fun _ => False) _).alloc _).blk hs (fun h => h), ((Ch.setCell (S := fun i => i = g) (p := ⟨g, 2, none⟩) (Ch.refl _ w) (.inl rfl) _).alloc _).reads' H.out.reads H.out.apart, H.out.low, H.out.apart, H.out.b, H.out.len⟩
 rw [hgk]
 have HW1 := Lib.hid hW1
 have HK1 := Lib.hid hK1
 have HRA1 := Lib.hid hA1
 have HGK := Lib.hid hgk
 have HSZ1 : Hid (w.heap.size ≤ w1.heap.size) := Lib.hid hW1.size
 clear hw1 hW1 hK1 hA1 hgk c0 f0
 have HTW : Hid (∀ W, Ch (fun _ => False) w1 W → Tab W) := Lib.hid fun W hC => tab_ch (HW1.out.then_ hC (fun _ _ h => h.elim)) H.out.low HT.out
 have HRB : Hid (∀ W, Ch (fun _ => False) w1 W → ReadsInt W .u8 Ab n b) := Lib.hid fun W hC => (HW1.out.then_ hC (fun _ _ h => h.elim)).reads' HR.out HAP.out
 have HEND : Hid (∀ W, Ch (fun _ => False) w1 W → RealAt W g A c seed ks (bs + 1) ∧ Ch (fun i => i = g) w W) := Lib.hid fun W hC => ⟨HRA1.out.ch hC, HW1.out.then_ hC (fun _ _ h => h.elim)⟩
 have HPE : Hid (∀ W, Ch (fun _ => False) w1 W → Calls Tryd.prog 17 #[.agg (nums .u8 k).toArray, .int .i64 u, .string ⟨#[101]⟩] W fun e w' => e = .returned (.agg (nums .u8 (drv k ([101] ++ itoaB u))).toArray) ∧ Ch (fun _ => False) W w') := Lib.hid fun W hC => by
  rw [← b101]
  exact part_any k u ⟨#[101]⟩ W HK.out HKB.out h0 h1 (by decide) (HTW.out _ hC)
 have HPM : Hid (∀ W, Ch (fun _ => False) w1 W → Calls Tryd.prog 17 #[.agg (nums .u8 k).toArray, .int .i64 u, .string ⟨#[109]⟩] W fun e w' => e = .returned (.agg (nums .u8 (drv k ([109] ++ itoaB u))).toArray) ∧ Ch (fun _ => False) W w') := Lib.hid fun W hC => by
  rw [← b109]
  exact part_any k u ⟨#[109]⟩ W HK.out HKB.out h0 h1 (by decide) (HTW.out _ hC)
 have HSB : Hid (sealB (bs + 1) k u b = putBytes (bs + 1) ++ strm (kGo (drv k ([101] ++ itoaB u)) 160) (putBytes (bs + 1) ++ z8) b ++ (hmac (drv k ([109] ++ itoaB u)) (putBytes (bs + 1) ++ strm (kGo (drv k ([101] ++ itoaB u)) 160) (putBytes (bs + 1) ++ z8) b)).take 16) := Lib.hid rfl
 obtain ⟨km, hkm⟩ : ∃ km, km = drv k ([109] ++ itoaB u) := ⟨_, rfl⟩
 obtain ⟨ke, hke⟩ : ∃ ke, ke = drv k ([101] ++ itoaB u) := ⟨_, rfl⟩
 have HKM : Hid (km.length = 16 ∧ Bs km ∧ ke.length = 16 ∧ Bs ke) := Lib.hid ⟨by rw [hkm]; exact drv_len _ _, by rw [hkm]; exact (hmac_b _ _).take _, by rw [hke]; exact drv_len _ _, by rw [hke]; exact (hmac_b _ _).take _⟩
 rw [← hkm] at HPM HSB
 rw [← hke] at HPE HSB
 have HX := put_own (bs + 1) w1 (by omega) (by omega)
 have HPN : Hid ((putBytes (bs + 1)).length = 8 ∧ Bs (putBytes (bs + 1))) := Lib.hid ⟨putBytes_length _, putBytes_bs _⟩
 obtain ⟨num, hnum⟩ : ∃ num, num = putBytes (bs + 1) := ⟨_, rfl⟩
 rw [← hnum] at HX HPN HSB
 obtain ⟨inn, hinn⟩ : ∃ inn, inn = strm (kGo ke 160) (num ++ z8) b := ⟨_, rfl⟩
 rw [← hinn] at HSB
 have HIN : Hid (inn.length = n ∧ Bs inn) := Lib.hid ⟨by rw [hinn, strm_len]; exact HR.out.1, by rw [hinn]; exact strm_bs _ _ _⟩
 have HIE := Lib.hid hinn
 clear hkm hke hnum hinn
 with_reducible refine HX.mono ?_
 clear HX
 rintro e w2 ⟨v, rfl, ho, hb2⟩
 obtain ⟨Ap, cp, rfl, h8⟩ := q_slice (q_of_own ho)
 have hc := Ch.of_below (S := fun _ => False) hb2
 have HC2 : Hid (Ch (fun _ => False) w1 w2) := Lib.hid hc
 have HK2 := Lib.hid (hc.blk HK1.out (fun h => h))
 have HP2 := Lib.hid (rd_own ho)
 clear ho hb2 hc HK1
 go_wp2_with first
  | (refine wpList_load_mid rfl 35 (.tmp 5) rfl gk 0 rfl (nums .u8 k) (.array 16 5) (range_nums HK2.out) Tryd.underlying35 rfl (by rw [nums_len, HK.out]; kernel_rfl) ?_)
 have HX := HPE.out w2 HC2.out
 with_reducible refine HX.mono ?_
 clear HX
 rintro e w3 ⟨rfl, hc⟩
 have HC3 := Lib.hid (HC2.out.trans hc)
 have HK3 := Lib.hid (hc.blk HK2.out (fun h => h))
 have HP3 := Lib.hid (hc.reads HP2.out (fun _ _ h => h))
 clear hc HK2 HP2 HC2
 go_wp2_with fail
 have HX := new5_at ke w3 HKM.out.2.2.1 HKM.out.2.2.2
 with_reducible refine HX.mono ?_
 clear HX
 rintro e w4 ⟨g4, bg4, rfl, hci, hg1, hg2, hc⟩
 have HC4 := Lib.hid (HC3.out.trans hc)
 have HK4 := Lib.hid (hc.blk HK3.out (fun h => h))
 have HP4 := Lib.hid (hc.reads HP3.out (fun _ _ h => h))
 have HCI4 := Lib.hid hci
 clear hc HK3 HP3 HC3 hci hg1 hg2
 go_wp2_with fail
 have HX := from_any Ap cp num w4 HP4.out
 with_reducible refine HX.mono ?_
 clear HX
 rintro e w5 ⟨rfl, hc⟩
 have HC5 := Lib.hid (HC4.out.trans hc)
 have HK5 := Lib.hid (hc.blk HK4.out (fun h => h))
 have HP5 := Lib.hid (hc.reads HP4.out (fun _ _ h => h))
 have HCI5 := Lib.hid (HCI4.out.keep hc)
 clear hc HK4 HP4 HC4 HCI4
 go_wp2_with fail
 have HX := stream5_any g4 bg4 (kGo ke 160) (num ++ z8) b Ab n cb w5 HCI5.out (by rw [List.length_append, HPN.out.1]; rfl) (HPN.out.2.append (by unfold Bs; decide)) (HRB.out _ HC5.out) HBB.out (by omega)
 rw [← HIE.out] at HX
 with_reducible refine HX.mono ?_
 clear HX
 rintro e w6 ⟨v, rfl, ho, hc⟩
 obtain ⟨Ai, ci, rfl⟩ := own_slice ho
 have HC6 := Lib.hid (HC5.out.trans hc)
 have HK6 := Lib.hid (hc.blk HK5.out (fun h => h))
 have HP6 := Lib.hid (hc.reads HP5.out (fun _ _ h => h))
 have HI6 := Lib.hid (rd_own ho)
 clear hc HK5 HP5 HC5 HCI5 ho
 go_wp2_with first
  | (refine wpList_load_mid rfl 35 (.tmp 5) rfl gk 0 rfl (nums .u8 k) (.array 16 5) (range_nums HK6.out) Tryd.underlying35 rfl (by rw [nums_len, HK.out]; kernel_rfl) ?_)
 have HX := HPM.out w6 HC6.out
 with_reducible refine HX.mono ?_
 clear HX
 rintro e w7 ⟨rfl, hc⟩
 have HC7 := Lib.hid (HC6.out.trans hc)
 have HP7 := Lib.hid (hc.reads HP6.out (fun _ _ h => h))
 have HI7 := Lib.hid (hc.reads HI6.out (fun _ _ h => h))
 clear hc HK6 HP6 HC6 HI6
 go_wp2_with first
  | (refine wpList_store_blk rfl 35 (.tmp 11) (.tmp 34) rfl w7.heap.size 0 (nums .u8 km) rfl rfl (nums .u8 (List.replicate 16 0)).toArray 35 (heap_alloc_new w7 _) (by rw [nums_len, HKM.out.1]; decide) (by rw [nums_len, HKM.out.1]; kernel_rfl) (nums_one _ _) ?_; intro w98 h8 hc8; (have H98 : Hid (w98.heap[w7.heap.size]? = some (.cells (nums .u8 km).toArray 35 (0, 0))) := Lib.hid (by rw [h8, List.take_zero, List.nil_append, nums_len, HKM.out.1]; (rw [show List.drop (0 + 16) (nums .u8 (List.replicate 16 0)).toArray.toList = [] by rfl, List.append_nil]))); have HC98 := Lib.hid hc8; clear h8 hc8)
 obtain ⟨gb, hgb⟩ : ∃ gb, w7.heap.size = gb := ⟨_, rfl⟩
 have hcs : Ch (fun _ => False) w7 w98 := ((Ch.refl (fun _ => False) w7).alloc _).then_ HC98.out (fun i hi e => by omega)
 rw [hgb] at H98 ⊢
 have HC8 := Lib.hid (HC7.out.trans hcs)
 have HP8 := Lib.hid (hcs.reads HP7.out (fun _ _ h => h))
 have HI8 := Lib.hid (hcs.reads HI7.out (fun _ _ h => h))
 clear hgb hcs HC98 HC7 HP7 HI7
 have hcc := (Ch.refl (fun _ => False) w98).alloc (.cells #[.slice Ap 8 cp, .slice Ai n ci] 23)
 have HX := msum_any (some ⟨gb, 0, none⟩) (some ⟨w98.heap.size, 0, none⟩) 16 16 2 2 km [num, inn] (w98.alloc (.cells #[.slice Ap 8 cp, .slice Ai n ci] 23))
  (reads_blk (hcc.blk H98.out (fun h => h)) HKM.out.1 (by decide)) (rows2_two (heap_alloc_new w98 _) (hcc.reads HP8.out (fun _ _ h => h)) (hcc.reads HI8.out (fun _ _ h => h))) HKM.out.2.1 (by intro x hx; simp only [List.mem_cons, List.not_mem_nil, or_false] at hx; rcases hx with rfl | rfl; exact HPN.out.2; exact HIN.out.2) (by decide) (by simp only [List.flatten_cons, List.flatten_nil, List.append_nil, List.length_append]; rw [HPN.out.1, HIN.out.1]; omega) (by decide)
 rw [show ([num, inn] : List (List Int)).flatten = num ++ inn by simp] at HX
 obtain ⟨hm, hhm⟩ : ∃ hm, hm = hmac km (num ++ inn) := ⟨_, rfl⟩
 have HHL : Hid (hm.length = 32 ∧ Bs hm) := Lib.hid ⟨by rw [hhm]; exact hmac_len _ _, by rw [hhm]; exact hmac_b _ _⟩
 rw [← hhm] at HX HSB
 with_reducible refine HX.mono ?_
 clear HX hhm
 rintro e w9 ⟨v, rfl, ho, hb9⟩
 obtain ⟨A5, c5, rfl, h32⟩ := q_slice (q_of_own ho)
 have h16 : (16 : Int) ≤ c5 := by omega
 obtain ⟨a5, rfl, -⟩ := (rd_own ho).2.2 (by omega)
 have hc := hcc.trans (Ch.of_below hb9)
 have HC9 := Lib.hid (HC8.out.trans hc)
 have HP9 := Lib.hid (hc.reads HP8.out (fun _ _ h => h))
 have HI9 := Lib.hid (hc.reads HI8.out (fun _ _ h => h))
 have HR9 := Lib.hid (reads_take (rd_own ho) (show 16 ≤ 32 by omega))
 clear hc hcc ho hb9 HC8 HP8 HI8 H98 h32
 go_wp2_with fail
 have hcc := (Ch.refl (fun _ => False) w9).alloc (.cells #[.slice Ap 8 cp, .slice Ai n ci, .slice (some a5) 16 c5] 23)
 have HX := joined_any (some ⟨w9.heap.size, 0, none⟩) 3 3 [num, inn, hm.take 16] (w9.alloc (.cells #[.slice Ap 8 cp, .slice Ai n ci, .slice (some a5) 16 c5] 23))
  (rows2_three (heap_alloc_new w9 _) (hcc.reads HP9.out (fun _ _ h => h)) (hcc.reads HI9.out (fun _ _ h => h)) (hcc.reads HR9.out (fun _ _ h => h))) (by simp only [List.flatten_cons, List.flatten_nil, List.append_nil, List.length_append, List.length_take]; rw [HPN.out.1, HIN.out.1, HHL.out.1]; omega)
 rw [show ([num, inn, hm.take 16] : List (List Int)).flatten = num ++ inn ++ hm.take 16 by simp, ← HSB.out] at HX
 have HLN : Hid ((sealB (bs + 1) k u b).length = n + 24) := Lib.hid (by rw [HSB.out]; simp only [List.length_append, List.length_take]; rw [HPN.out.1, HIN.out.1, HHL.out.1]; omega)
 rw [HLN.out] at HX
 with_reducible refine HX.mono ?_
 clear HX
 rintro e w10 ⟨v, rfl, ho, hb10⟩
 obtain ⟨A6, c6, rfl, h24⟩ := q_slice (q_of_own ho)
 obtain ⟨a6, rfl, -⟩ := (rd_own ho).2.2 (by omega)
 have hlow := own_low ho (by omega)
 have hs9 := HC9.out.size
 rw [World.size_alloc] at hlow
 have HC10 := Lib.hid (HC9.out.trans (hcc.trans (Ch.of_below hb10)))
 have HR10 := Lib.hid (rd_own ho)
 have HLOW : Hid (w.heap.size ≤ a6.block) := Lib.hid (by have := HSZ1.out; omega)
 clear ho hb10 hcc hlow hs9
 go_wp2
 go_ret
 exact ⟨a6, c6, rfl, HR10.out, (HEND.out _ HC10.out).1, (HEND.out _ HC10.out).2, by omega, HLOW.out⟩
end Go.Proofs.YtejhjlfakfaegaaDoor
set_option linter.unusedSimpArgs false
set_option linter.unusedVariables false
namespace Go.Proofs.YtejhjlfakfaegaaDoor
open Go.RowKit Go.Proofs.YtejhjlfakfaegaaDoorW.PrintWords

theorem blk_set_fz {w : World} {g : Nat} {cs : Array Value} {T : TypeId} {fz : Nat × Nat} (h : w.heap[g]? = some (.cells cs T fz)) (i : Nat) (v : Value) : (w.setCell ⟨g, i, none⟩ v).heap[g]? = some (.cells (cs.setIfInBounds i v) T fz) := by
 show (w.heap.modify _ _)[g]? = _
 rw [Array.getElem?_modify, if_pos rfl, h]
 rfl
theorem setCells_fz {g : Nat} {e : TypeId} {fz : Nat × Nat} : ∀ (vs : List Value) (o : Nat) (w : World) (cur : Array Value), w.heap[g]? = some (.cells cur e fz) → o + vs.length ≤ cur.size →
  ∃ cur', (w.setCells g o vs).heap[g]? = some (.cells cur' e fz) ∧ cur'.size = cur.size ∧ cur'.toList = cur.toList.take o ++ vs ++ cur.toList.drop (o + vs.length)
 | [], o, w, cur, h, _ => ⟨cur, h, rfl, by simp⟩
 | v :: r, o, w, cur, h, hl => by
  have h2 := blk_set_fz h o v
  simp only [List.length_cons] at hl
  obtain ⟨cur', h3, h4, h5⟩ := setCells_fz r (o + 1) (w.setCell ⟨g, o, none⟩ v) _ h2 (by simp; omega)
  refine ⟨cur', h3, by rw [h4]; simp, ?_⟩
  rw [h5, Array.toList_setIfInBounds, List.length_cons, List.set_eq_take_append_cons_drop, if_pos (by rw [Array.length_toList]; omega)]
  have hto : (cur.toList.take o).length = o := by rw [List.length_take, Array.length_toList]; omega
  rw [List.take_append, hto, List.take_of_length_le (by rw [hto]; omega), show o + 1 - o = 1 by omega, List.take_succ_cons, List.take_zero, List.drop_append, hto, List.drop_of_length_le (l := cur.toList.take o) (by rw [hto]; omega), show o + 1 + r.length - o = r.length + 1 by omega, List.drop_succ_cons, List.drop_drop]
  simp [Nat.add_comm, Nat.add_left_comm]
theorem wpList_append_conv {P : Program} {w : World} {ops : Array Oper} {rest : List Oper} {o : Oper} {a : Act} {Q : Exit → Act → World → Prop} (hgd : o.guard = none) (s x : Operand) (t e : TypeId) (bytes : Nat)
  (ho : o.op = .call { callee := .builtin .append, args := #[s, x], argTypes := #[t, t] })
  (ht : P.underlying t = some (.slice e)) (hinfo : (P.info? e).map (fun i => (i.zero, i.size, i.bytes)) = some (some (.int .u8 0), 1, bytes)) (hb0 : 0 < bytes)
  (g n cap : Nat) (cur : Array Value) (fz : Nat × Nat) (xs ys : List Int) (ad : Addr) (m c : Nat) (hs : a.eval s = .slice (some ⟨g, 0, none⟩) n cap) (hx : a.eval x = .slice (some ad) m c)
  (hg : w.heap[g]? = some (.cells cur e fz)) (hsz : cap ≤ cur.size) (hfz : ∀ j, j < cap → ¬ (fz.1 ≤ j ∧ j < fz.2)) (hn : n ≤ cur.size) (hcur : cur.toList.take n = nums .u8 xs) (hr : ReadsInt w .u8 (some ad) m ys) (hm : 0 < m) (hl : (n + m) * bytes ≤ 140737488355328)
  (h : ∀ A c' w', ReadsInt w' .u8 A (n + m) (xs ++ ys) → Ch (fun i => i = g) w w' → wpList P ops Q rest (a.put o.dst (.slice A (n + m) c')) w') : wpList P ops Q (o :: rest) a w := by
 obtain ⟨i0, hi, hzz⟩ := Option.map_eq_some_iff.1 hinfo
 simp only [Prod.mk.injEq] at hzz
 obtain ⟨hz0, hz1, hz2⟩ := hzz
 have hym : ys.length = m := hr.1
 have hxn : xs.length = n := by
  have := congrArg List.length hcur
  rw [List.length_take, Array.length_toList] at this
  simp [nums] at this
  omega
 have hlen : n + m ≤ 140737488355328 := Nat.le_trans (Nat.le_mul_of_pos_right _ hb0) hl
 obtain ⟨ad', hA, hc⟩ := hr.2.2 hm
 injection hA with hA
 subst hA
 have hcells : ∀ j u, (nums .u8 ys)[j]? = some u → w.cell? (ad.add j) = some u := by
  intro j u hu
  have hj : j < ys.length := by
   have := (List.getElem?_eq_some_iff.1 hu).1
   simpa [nums] using this
  have := hc j (by omega)
  simp [nums, List.getElem?_eq_getElem hj] at hu
  subst hu
  rw [this]
  simp [List.getD_eq_getElem?_getD, List.getElem?_eq_getElem hj]
 have h1 : ∀ u ∈ nums .u8 ys, u.oneCell' = true := nums_one _ _
 have hrun : ∃ A c' w', (Builtin.append_ #[t, t] o.type #[.slice (some ⟨g, 0, none⟩) n cap, .slice (some ad) m c]).run P w = .ok (.slice A (n + m) c') w' ∧ ReadsInt w' .u8 A (n + m) (xs ++ ys) ∧ Ch (fun i => i = g) w w' := by
  by_cases hroom : n + m ≤ cap
  ·have hr := run_append_room_cells (P := P) (w := w) t o.type e i0 ht hi g 0 n cap ad m c (nums .u8 ys) (by rw [nums_len, hym, hz1, Nat.mul_one]) hcells h1 hroom
    (fun j hj => by rw [nums_len, hym] at hj; rw [cell_of_row w g _ cur e fz hg]; simp [hz1]; omega) (fun j hj => by
     rw [nums_len, hym] at hj
     have := hfz (0 + n * i0.size + j) (by rw [hz1]; omega)
     simp only [World.frozen?, hg]
     simpa using this)
   obtain ⟨cur', h3, h4, h5⟩ := setCells_fz (nums .u8 ys) (0 + n * i0.size) w cur hg (by rw [nums_len, hym, hz1]; omega)
   obtain ⟨s1, s2, s3, s4⟩ := setCells_same g (nums .u8 ys) (0 + n * i0.size) w
   refine ⟨_, _, _, hr, ?_, s1, s2, s3, by rw [s4]; exact Nat.le_refl _, fun k _ hk => setCells_far _ _ k hk⟩
   refine ⟨by rw [List.length_append]; omega, by omega, fun _ => ⟨_, rfl, fun j hj => ?_⟩⟩
   rw [add_plain, cell_of_row _ _ _ _ _ _ h3, ← Array.getElem?_toList, h5, hz1, Nat.mul_one, Nat.zero_add, hcur, nums_len, hym]
   have hj' : j < (nums .u8 xs ++ nums .u8 ys).length := by rw [List.length_append, nums_len, nums_len]; omega
   rw [List.getElem?_append_left hj']
   simp [nums, ← List.map_append, List.getD_eq_getElem?_getD]
   rw [List.getElem?_eq_getElem (show j < (xs ++ ys).length by rw [List.length_append]; omega)]
   rfl
  ·obtain ⟨v', w', hr, ho', hgr⟩ := run_append_arg_grows (P := P) (w := w) t o.type e i0 (.int .u8 0) 1 bytes ht hi hz0 hz1 hz2 rfl (by omega) ⟨g, 0, none⟩ n cap (nums .u8 xs) (by rw [nums_len]; omega) (fun j u hu => by
     rw [add_plain, cell_of_row w g _ cur e fz hg, ← Array.getElem?_toList]
     rw [← hcur, List.getElem?_take] at hu
     split at hu
     ·exact hu
     ·cases hu) ad m c (nums .u8 ys) (by rw [nums_len]; omega) hcells (by omega) (by simp only [maxLen]; omega) hl
   obtain ⟨A, c', rfl⟩ := own_slice ho'
   refine ⟨A, c', w', hr, ?_, ?_⟩
   ·have := ho'
    rw [nums, nums, ← List.map_append] at this
    exact rd_own this
   ·exact (Ch.refl _ w).grown hgr (fun k hk => by cases hk)
 obtain ⟨A, c', w', hr', h2, h3⟩ := hrun
 refine wpList_plain hgd fun K hK => ?_
 unfold Oper.wp execOp
 simp only [ho, resolve, invoke, builtin, Sem.run_bind, Sem.run_pure, Result.andThen_ok, List.map_toArray, List.map_cons, List.map_nil, hs, hx, hr']
 exact hK _ _ (h A c' w' h2 h3)
set_option maxHeartbeats 1000000 in
theorem rderive_any (As Ak : Option Addr) (cs ck : Nat) (k : List Int) (s : ByteArray) (w : World) (hs : ReadsInt w .u32 As 64 kst) (hk : ReadsInt w .u8 Ak 16 k) (hkb : Bs k) (hsz : s.size < 1000) :
  Calls Tryd.prog 24 #[.slice As 64 cs, .slice Ak 16 ck, .string s] w fun e w' => ∃ a c, e = .returned (.slice (some a) 16 c) ∧ ReadsInt w' .u8 (some a) 16 (drv k (bytesOf s)) ∧ Below w.heap.size w w' ∧ 16 ≤ c := by
 have HS := Lib.hid hs
 have HK := Lib.hid hk
 have HKB := Lib.hid hkb
 clear hs hk hkb
 have kb := fun W => print_bytes (P := Tryd.prog) 9 23 5 Tryd.underlying9 Tryd.underlying23 Tryd.underlying5 s W
 have HG : Hid (((Lib.bytesWorld w 5 s).alloc (.cells #[.int .u8 0, .int .u8 1] 5)).heap[w.heap.size]? = some (.cells (Lib.bytesCells w 5 s) 5 ((Lib.bytesCells w 5 s).size, (Lib.bytesCells w 5 s).size + 1))) := Lib.hid (((Ch.refl (fun _ => False) _).alloc _).blk (Lib.bytesWorld_at_new w 5 s) (fun h => h))
 have hcs : (Lib.bytesCells w 5 s).size = s.size + (grownCap w s.size 0 5 - s.size) := by
  unfold Lib.bytesCells
  rw [Array.size_append, Array.size_map, Array.size_replicate]
  rfl
 have HCAP : Hid (grownCap w s.size 0 5 ≤ (Lib.bytesCells w 5 s).size ∧ s.size ≤ (Lib.bytesCells w 5 s).size) := Lib.hid (by omega)
 have HCUR : Hid ((Lib.bytesCells w 5 s).toList.take s.size = nums .u8 (bytesOf s)) := Lib.hid (by
  unfold Lib.bytesCells
  rw [Array.toList_append, List.take_append_of_le_length (by simp [data_length]), List.take_of_length_le (by simp)]
  simp [nums, bytesOf])
 have HR2 : Hid (ReadsInt ((Lib.bytesWorld w 5 s).alloc (.cells #[.int .u8 0, .int .u8 1] 5)) .u8 (some ⟨(Lib.bytesWorld w 5 s).heap.size, 0, none⟩) 2 [0, 1]) := Lib.hid (lit_reads _ [0, 1] (by decide))
 have HC2 : Hid (Ch (fun _ => False) w ((Lib.bytesWorld w 5 s).alloc (.cells #[.int .u8 0, .int .u8 1] 5))) := Lib.hid ((bytes_ch 5 s (Ch.refl _ _)).alloc _)
 clear hcs
 go_enter Tryd.func24, Tryd.ntmps24
 go_wp2_with first
  | (at_builtin; go_must (refine wpList_append_conv rfl (.tmp 10) (.tmp 11) 23 5 1 rfl Tryd.underlying23 info_u8 (by decide) w.heap.size s.size (grownCap w s.size 0 5) (Lib.bytesCells w 5 s) _ (bytesOf s) [0, 1] ⟨(Lib.bytesWorld w 5 s).heap.size, 0, none⟩ 2 2 rfl rfl HG.out HCAP.out.1 (by intro j hj; have := HCAP.out.1; simp only; omega) HCAP.out.2 HCUR.out HR2.out (by decide) (by omega) ?_; intro A3 c3 w3 hr3 hc3; have HR3 := Lib.hid hr3; have HC3 : Hid (Ch (fun _ => False) w w3) := Lib.hid (HC2.out.then_ hc3 (fun i hi e => by omega)); clear hr3 hc3))
 have HX := rsum_any As Ak A3 cs ck c3 16 (s.size + 2) k (bytesOf s ++ [0, 1]) w3 (HC3.out.reads HS.out (fun _ _ h => h)) (HC3.out.reads HK.out (fun _ _ h => h)) HR3.out (by decide) (by omega) HKB.out ((bytesOf_bs s).append (by unfold Bs; decide))
 with_reducible refine HX.mono ?_
 clear HX
 rintro e w4 ⟨A4, c4, rfl, hr, hb4, h32⟩
 have h16 : (16 : Int) ≤ c4 := by omega
 obtain ⟨a4, rfl, -⟩ := hr.2.2 (by omega)
 have HC4 := Lib.hid (HC3.out.trans (Ch.of_below hb4))
 have HR4 := Lib.hid (reads_take hr (show 16 ≤ 32 by omega))
 clear hr hb4 kb
 go_wp2
 go_ret
 exact ⟨a4, c4, rfl, HR4.out, HC4.out.below, by omega⟩
end Go.Proofs.YtejhjlfakfaegaaDoor
set_option linter.unusedSimpArgs false
set_option linter.unusedVariables false
namespace Go.Proofs.YtejhjlfakfaegaaDoor
open Go.RowKit Go.Proofs.YtejhjlfakfaegaaDoorW.PrintWords

set_option maxHeartbeats 1000000 in
theorem same_any (A B : Option Addr) (n m c d : Nat) (l l' : List Int) (w : World) (hr : ReadsInt w .u8 A n l) (hr' : ReadsInt w .u8 B m l') :
  Calls Tryd.prog 9 #[.slice A n c, .slice B m d] w fun e w' => e = .returned (.bool (decide (l = l'))) ∧ ∃ q, w' = w.drewN q := by
 have HA := Lib.hid hr.2.2
 have HB := Lib.hid hr'.2.2
 have HL := Lib.hid hr.1
 have HL' := Lib.hid hr'.1
 have hn := hr.2.1
 clear hr hr'
 by_cases hnm : n = m
 ·subst hnm
  have t0 : ((n : Int) != (n : Int)) = false := by simp
  go_enter Tryd.func9, Tryd.ntmps9
  go_wp2
  go_loopw [5] (fun i wr => ∃ k q : Nat, k ≤ n ∧ i = .int .i64 k ∧ wr = w.drewN q ∧ Hid (sameTo l l' k)) (fun i _ => n - (intOf i).toNat)
  case atStart => exact ⟨0, 0, by omega, rfl, rfl, Lib.hid (fun j hj => by omega)⟩
  case round =>
   obtain ⟨k, q, hk, rfl, rfl, HS⟩ := hrel
   by_cases hlt : k < n
   ·obtain ⟨ad, hA, hcs⟩ := HA.out (by omega)
    obtain ⟨bd, hB, hds⟩ := HB.out (by omega)
    have h1 := hcs k hlt
    have h2 := hds k hlt
    subst hA hB
    change w.cell? (ad.add k) = some (.int .u8 (nt l k)) at h1
    change w.cell? (bd.add k) = some (.int .u8 (nt l' k)) at h2
    clear hcs hds
    have q0 : 0 ≤ (k : Int) := by omega
    have q1 : (k : Int) < (n : Int) := by omega
    by_cases he : nt l k = nt l' k
    ·have HS2 : Hid (sameTo l l' (k + 1)) := Lib.hid fun j hj => by
      by_cases e : j = k
      ·rw [e]; exact he
      ·exact HS.out j (by omega)
     have t1 : (nt l k != nt l' k) = false := by rw [he]; simp
     clear he HS
     go_wp2
     go_quiet (fail)
     go_wp2
     go_roundw
     case rel => exact ⟨k + 1, _, by omega, by go_num, rfl, HS2⟩
     case measure => simp [intOf]; omega
    ·have hf : decide (l = l') = false := decide_eq_false fun e => he (by rw [e])
     have HF := Lib.hid hf
     have t1 : (nt l k != nt l' k) = true := by rw [bne_iff_ne]; exact he
     clear he hf
     go_wp2
     go_quiet (fail)
     go_wp2
     go_ret
     exact ⟨by rw [HF.out]; rfl, _, World.drewN_drewN _ _ _⟩
   ·have hf : decide (l = l') = true := decide_eq_true (same_of l l' (by rw [HL.out, HL'.out]) (fun j hj => HS.out j (by have := HL.out; omega)))
    have HF := Lib.hid hf
    clear hf
    go_wp2
    go_ret
    exact ⟨by rw [HF.out]; rfl, _, rfl⟩
 ·have hf : decide (l = l') = false := decide_eq_false fun e => hnm (by have := HL.out; have := HL'.out; rw [e] at *; omega)
  have HF := Lib.hid hf
  have t0 : ((n : Int) != (m : Int)) = true := by rw [bne_iff_ne]; omega
  clear hf
  go_enter Tryd.func9, Tryd.ntmps9
  go_wp2
  go_ret
  exact ⟨by rw [HF.out]; rfl, 0, rfl⟩
end Go.Proofs.YtejhjlfakfaegaaDoor
set_option linter.unusedSimpArgs false
set_option linter.unusedVariables false
namespace Go.Proofs.YtejhjlfakfaegaaDoor
open Go.RowKit Go.Proofs.YtejhjlfakfaegaaDoorW.PrintWords

theorem dig_size (x : UInt8) (u : Int) (h0 : -9223372036854775808 ≤ u) (h1 : u ≤ 9223372036854775807) : ((⟨#[x]⟩ : ByteArray) ++ (⟨(Lib.itoa u).toArray⟩ : ByteArray)).size < 1000 := by
 rw [ByteArray.size_append]
 have h := Lib.itoa_length_le u h0 h1
 have e : (⟨(Lib.itoa u).toArray⟩ : ByteArray).size = (Lib.itoa u).length := by simp [ByteArray.size]
 have e2 : (⟨#[x]⟩ : ByteArray).size = 1 := rfl
 omega
end Go.Proofs.YtejhjlfakfaegaaDoor
set_option linter.unusedSimpArgs false
set_option linter.unusedVariables false
namespace Go.Proofs.YtejhjlfakfaegaaDoor
open Go.RowKit Go.Proofs.YtejhjlfakfaegaaDoorW.PrintWords

theorem x8_self (a : Int) (ha : B8 a) : x8 a a = 0 := (x8_zero a a ha ha).2 rfl
theorem x8_x8 (b c : Int) (hb : B8 b) (hc : B8 c) : x8 (x8 b c) c = b := by
 have z0 : B8 0 := by unfold B8; omega
 rw [x8_assoc b c c hb hc hc, x8_self c hc, x8_comm b 0 hb z0, x8_0 b hb]
theorem blk5_b (ks f : List Int) : Bs (blk5 ks f) := blkTo_bs ks f 10
theorem strm_strm (ks f b : List Int) (hb : Bs b) : strm ks f (strm ks f b) = b := by
 refine nt_extn (by rw [strm_len, strm_len]) fun j hj => ?_
 rw [strm_len, strm_len] at hj
 rw [strm_at _ _ _ _ (by rw [strm_len]; exact hj), strm_at _ _ _ _ hj]
 exact x8_x8 _ _ (hb.at j) ((blk5_b _ _).at _)
theorem sealB_len (n : Int) (k : List Int) (u : Int) (b : List Int) : (sealB n k u b).length = b.length + 24 := by
 rw [sealB, List.length_append, List.length_append, putBytes_length, sealIn, strm_len, List.length_take, hmac_len]
 omega
theorem sealB_b (n : Int) (k : List Int) (u : Int) (b : List Int) : Bs (sealB n k u b) :=
 ((putBytes_bs n).append (strm_bs _ _ _)).append ((hmac_b _ _).take _)
theorem open_seal (n : Int) (k : List Int) (u : Int) (b : List Int) (hb : Bs b) : openB k u (sealB n k u b) = some b := by
 have hl := sealB_len n k u b
 have hi : (sealIn n k u b).length = b.length := by rw [sealIn, strm_len]
 have hp := putBytes_length n
 have hA : (putBytes n ++ sealIn n k u b).length = b.length + 8 := by rw [List.length_append, hp, hi]; omega
 unfold openB
 rw [if_neg (by rw [hl]; omega), hl, show b.length + 24 - 16 = b.length + 8 by omega]
 have h1 : (sealB n k u b).take (b.length + 8) = putBytes n ++ sealIn n k u b := by rw [sealB]; exact List.take_left' hA
 have h2 : (sealB n k u b).drop (b.length + 8) = (hmac (drv k (109 :: itoaB u)) (putBytes n ++ sealIn n k u b)).take 16 := by rw [sealB]; exact List.drop_left' hA
 have h3 : (sealB n k u b).take 8 = putBytes n := by rw [sealB, List.append_assoc]; exact List.take_left' hp
 rw [h1, h2, h3, if_pos rfl, List.drop_left' hp, sealIn, strm_strm _ _ _ hb]
theorem seal_at7 (n : Int) (k : List Int) (u : Int) (b : List Int) : nt (sealB n k u b) 7 = putAt n 7 := by
 rw [sealB, List.append_assoc]
 simp [nt, putBytes, List.range_succ]
def seedL : List Int := [115, 101, 101, 100]
def abcL : List Int := [97, 98, 99]
theorem fresh_ne : freshK seedL 1 ≠ freshK seedL 2 := by decide +kernel
theorem put1_7 : putAt 1 7 = 1 := by decide
end Go.Proofs.YtejhjlfakfaegaaDoor
set_option linter.unusedSimpArgs false
set_option linter.unusedVariables false
namespace Go.Proofs.YtejhjlfakfaegaaDoor
open Go.RowKit Go.Proofs.YtejhjlfakfaegaaDoorW.PrintWords

set_option maxRecDepth 100000 in
set_option maxHeartbeats 4000000 in
theorem alive6_any (w : World) (ht : Tab w) :
  Calls Tryd.prog 5 #[] w fun e w' => e = .returned (.bool true) ∧ Below w.heap.size w w' := by
 have HT := Lib.hid ht
 have HL0 := Lib.hid (tab_lt ht)
 clear ht
 have hf1 : ∀ (W : World) (n c : Nat), Sem.run Tryd.prog (convert 23 23 (.slice (some ⟨W.heap.size, 0, none⟩) n c)) (W.alloc (.cells #[.int .u8 115, .int .u8 101, .int .u8 101, .int .u8 100] 5)) = .ok (.slice (some ⟨W.heap.size, 0, none⟩) n c) (frz W seedL) := fun W n c => frz_run W seedL n c
 have hf2 : ∀ (W : World) (n c : Nat), Sem.run Tryd.prog (convert 23 23 (.slice (some ⟨W.heap.size, 0, none⟩) n c)) (W.alloc (.cells #[.int .u8 97, .int .u8 98, .int .u8 99] 5)) = .ok (.slice (some ⟨W.heap.size, 0, none⟩) n c) (frz W abcL) := fun W n c => frz_run W abcL n c
 obtain ⟨k1, hk1⟩ : ∃ k1, k1 = freshK seedL 1 := ⟨_, rfl⟩
 obtain ⟨k2, hk2⟩ : ∃ k2, k2 = freshK seedL 2 := ⟨_, rfl⟩
 have HKF : Hid (k1.length = 16 ∧ Bs k1 ∧ k2.length = 16 ∧ k1 ≠ k2) := Lib.hid ⟨by rw [hk1]; exact freshK_len _ _, by rw [hk1]; exact freshK_b _ _, by rw [hk2]; exact freshK_len _ _, by rw [hk1, hk2]; exact fresh_ne⟩
 obtain ⟨bx, hbx⟩ : ∃ bx, bx = sealB 1 k1 2 abcL := ⟨_, rfl⟩
 have HBX : Hid (openB k1 2 bx = some abcL ∧ nt bx 7 = 1 ∧ bx.length = 27 ∧ Bs bx) := Lib.hid ⟨by rw [hbx]; exact open_seal _ _ _ _ (by unfold Bs; decide), by rw [hbx, seal_at7]; exact put1_7, by rw [hbx, sealB_len]; rfl, by rw [hbx]; exact sealB_b _ _ _ _⟩
 have HN := snew_any (some ⟨w.heap.size, 0, none⟩) 4 4 seedL (frz w seedL) (frz_reads w seedL (by decide)) (by unfold Bs; decide) (by decide) (by rw [frz_size]; have := HL0.out; omega)
 have HFA : Hid (∀ (g : Nat) (A : Option Addr) (c : Nat) (bs : Int) (W : World), RealAt W g A c seedL 0 bs → Calls Tryd.prog 12 #[.pointer (some ⟨g, 0, none⟩)] W fun e w' => e = .returned (.agg (nums .u8 k1).toArray) ∧ RealAt w' g A c seedL 1 bs ∧ Ch (fun i => i = g) W w') := Lib.hid fun g A c bs W h => by rw [hk1]; exact fresh_any g A c seedL 0 bs W h (by decide) (by decide)
 have HFB : Hid (∀ (g : Nat) (A : Option Addr) (c : Nat) (bs : Int) (W : World), RealAt W g A c seedL 1 bs → Calls Tryd.prog 12 #[.pointer (some ⟨g, 0, none⟩)] W fun e w' => e = .returned (.agg (nums .u8 k2).toArray) ∧ RealAt w' g A c seedL 2 bs ∧ Ch (fun i => i = g) W w') := Lib.hid fun g A c bs W h => by rw [hk2]; exact fresh_any g A c seedL 1 bs W h (by decide) (by decide)
 have HSE : Hid (∀ (g : Nat) (A : Option Addr) (c : Nat) (ks : Int) (Ab : Option Addr) (W : World), RealAt W g A c seedL ks 0 → ReadsInt W .u8 Ab 3 abcL → (∀ a, Ab = some a → 0 < 3 → ¬ a.block = g) → Tab W → Calls Tryd.prog 10 #[.pointer (some ⟨g, 0, none⟩), .agg (nums .u8 k1).toArray, .int .i64 2, .slice Ab 3 3] W fun e w' => ∃ a' c', e = .returned (.slice (some a') 27 c') ∧ ReadsInt w' .u8 (some a') 27 bx ∧ RealAt w' g A c seedL ks 1 ∧ Ch (fun i => i = g) W w' ∧ 27 ≤ c' ∧ W.heap.size ≤ a'.block) := Lib.hid fun g A c ks Ab W h hr hap ht => by rw [hbx]; exact sseal_any g A c seedL ks 0 k1 2 Ab 3 3 abcL W h HKF.out.1 HKF.out.2.1 (by decide) (by decide) hr (by unfold Bs; decide) (by decide) hap ht (by decide) (by decide)
 clear hk1 hk2 hbx
 have hne : ∀ W, (Op.equalIn 10000 35 (.agg (nums .u8 k1).toArray) (.agg (nums .u8 k2).toArray)).run Tryd.prog W = .ok false W := fun W => by
  rw [key_eq _ _ HKF.out.1 HKF.out.2.2.1, decide_eq_false HKF.out.2.2.2]
 go_enter Tryd.func5, Tryd.ntmps5
 go_wp2_with fail
 with_reducible refine HN.mono ?_
 clear HN
 rintro e w1 ⟨g, A, c, rfl, hR, hg, hc⟩
 rw [frz_size] at hg
 have HG : Hid (w.heap.size < g) := Lib.hid (by omega)
 have HC1 := Lib.hid ((frz_ch w seedL).trans hc)
 have HR1 := Lib.hid hR
 clear hR hc hg
 go_wp2_with fail
 have HX := HFA.out g A c 0 w1 HR1.out
 with_reducible refine HX.mono ?_
 clear HX
 rintro e w2 ⟨rfl, hR, hc⟩
 have HC2 := Lib.hid (HC1.out.then_ hc (fun i hi e => by have := HG.out; omega))
 have HR2 := Lib.hid hR
 have HG2 : Hid (g < w2.heap.size) := Lib.hid (blk_lt hR.here)
 clear hR hc HC1 HR1
 go_wp2_with first
  | (refine wpList_store_blk rfl 35 (.tmp 2) (.tmp 12) rfl w2.heap.size 0 (nums .u8 k1) rfl rfl (nums .u8 (List.replicate 16 0)).toArray 35 (heap_alloc_new w2 _) (by rw [nums_len, HKF.out.1]; decide) (by rw [nums_len, HKF.out.1]; kernel_rfl) (nums_one _ _) ?_; intro w3 h8 hc8; (have H3 : Hid (w3.heap[w2.heap.size]? = some (.cells (nums .u8 k1).toArray 35 (0, 0))) := Lib.hid (by rw [h8, List.take_zero, List.nil_append, nums_len, HKF.out.1]; (rw [show List.drop (0 + 16) (nums .u8 (List.replicate 16 0)).toArray.toList = [] by rfl, List.append_nil]))); have HCS : Hid (Ch (fun _ => False) w2 w3) := Lib.hid (((Ch.refl (fun _ => False) w2).alloc _).then_ hc8 (fun i hi e => by omega)); clear h8 hc8)
  | (refine wpList_load_mid rfl 35 (.tmp 2) rfl w2.heap.size 0 rfl (nums .u8 k1) (.array 16 5) (range_nums H3.out) Tryd.underlying35 rfl (by rw [nums_len, HKF.out.1]; kernel_rfl) ?_)
 obtain ⟨gk, hgk⟩ : ∃ gk, w2.heap.size = gk := ⟨_, rfl⟩
 have HC3 := Lib.hid (HC2.out.trans HCS.out)
 have HR3 := Lib.hid (HR2.out.ch HCS.out)
 rw [hgk] at H3 HG2 ⊢
 have HGK : Hid (gk < w3.heap.size) := Lib.hid (blk_lt H3.out)
 clear hgk HCS HC2 HR2
 have hfz := frz_ch w3 abcL
 have HX := HSE.out g A c 1 (some ⟨w3.heap.size, 0, none⟩) (frz w3 abcL) (HR3.out.ch hfz) (frz_reads w3 abcL (by decide)) (by intro a ha _; injection ha with ha; subst ha; have := HG2.out; have := HGK.out; show ¬ w3.heap.size = g; omega) (tab_ch (HC3.out.trans hfz) (fun h => h) HT.out)
 with_reducible refine HX.mono ?_
 clear HX
 rintro e w4 ⟨ab, cb, rfl, hbr, hR, hc, hcb, hlow⟩
 rw [frz_size] at hlow
 have hcs : Ch (fun i => i = g) w3 w4 := (Ch.imp hfz (fun _ h => h.elim)).trans hc
 have HC4 := Lib.hid (HC3.out.then_ hcs (fun i hi e => by have := HG.out; omega))
 have HR4 := Lib.hid hR
 have HB4 := Lib.hid hbr
 have HK4 := Lib.hid (hcs.blk H3.out (by have := HG2.out; omega))
 have HAB : Hid (¬ ab.block = g ∧ ¬ gk = g) := Lib.hid ⟨by have := HG2.out; have := HGK.out; omega, by have := HG2.out; omega⟩
 clear hbr hR hc hcs hlow hfz HC3 HR3 H3
 go_wp2_with first
  | (refine wpList_load_mid rfl 35 (.tmp 2) rfl gk 0 rfl (nums .u8 k1) (.array 16 5) (range_nums HK4.out) Tryd.underlying35 rfl (by rw [nums_len, HKF.out.1]; kernel_rfl) ?_)
 have HX := sopen_any (.pointer (some ⟨g, 0, none⟩)) k1 2 (some ab) 27 cb bx w4 HKF.out.1 HKF.out.2.1 (by decide) (by decide) HB4.out HBX.out.2.2.2 hcb (by decide) (tab_ch HC4.out (fun h => h) HT.out)
 with_reducible refine HX.mono ?_
 clear HX
 rintro e w5 ⟨Ao, no, co, rfl, hro, hc⟩
 rw [HBX.out.1] at hro ⊢
 have hno : no = 3 := hro.1.symm
 subst hno
 change ReadsInt w5 .u8 Ao 3 abcL at hro
 have HO5 := Lib.hid hro
 have HC5 := Lib.hid (HC4.out.trans hc)
 have HR5 := Lib.hid (HR4.out.ch hc)
 have HK5 := Lib.hid (hc.blk HK4.out (fun h => h))
 have HB5 : Hid (w5.cell? (ab.add 7) = some (.int .u8 1)) := Lib.hid (by
  obtain ⟨ab', ha, hcc⟩ := (hc.reads HB4.out (fun _ _ h => h)).2.2 (by decide)
  injection ha with ha
  subst ha
  have := hcc 7 (by decide)
  change _ = some (Value.int .u8 (nt bx 7)) at this
  rw [this, HBX.out.2.1])
 clear hro hc HC4 HR4 HK4 HB4
 go_upto_region 7 with fail
 have HMK : Hid (∀ W W', Ch (fun i => i = g) W W' → W.cell? (ab.add 7) = some (.int .u8 1) → W.heap[gk]? = some (.cells (nums .u8 k1).toArray 35 (0, 0)) → W'.cell? (ab.add 7) = some (.int .u8 1) ∧ W'.heap[gk]? = some (.cells (nums .u8 k1).toArray 35 (0, 0))) := Lib.hid fun W W' hC h1 h2 => ⟨hC.cell h1 HAB.out.1, hC.blk h2 HAB.out.2⟩
 have huk := Tryd.underlying35
 have hik : (Tryd.prog.info? 35).map (·.size) = some (nums .u8 k1).length := by rw [nums_len, HKF.out.1]; kernel_rfl
 refine wp_region_held_drew (S := fun W => W.cell? ⟨ab.block, ab.off + 7, none⟩ = some (Value.int .u8 1) ∧ W.rangeAt gk 0 (nums .u8 k1)) (by kernel_rfl) ?_ (fun hHeld => ?_)
 ·exact ⟨HB5.out, range_nums HK5.out⟩
 refine tkp (v := ?_) 0 ?_ ?_
 rotate_left
 ·intro w hSw; (try dsimp only at hSw); go_simp; (first | done | with_reducible rfl)
 try simp only [Act.put, List.getElem_toArray, List.getElem_cons_succ, List.getElem_cons_zero, List.setIfInBounds_toArray, List.set_cons_zero, List.set_cons_succ]
 refine tkp (v := ?_) 1 ?_ ?_
 rotate_left
 ·intro w hSw; (try dsimp only at hSw); go_simp; (first | done | with_reducible rfl)
 try simp only [Act.put, List.getElem_toArray, List.getElem_cons_succ, List.getElem_cons_zero, List.setIfInBounds_toArray, List.set_cons_zero, List.set_cons_succ]
 refine tkp (v := ?_) 2 ?_ ?_
 rotate_left
 ·intro w hSw; (try dsimp only at hSw); go_simp; (first | done | with_reducible rfl)
 try simp only [Act.put, List.getElem_toArray, List.getElem_cons_succ, List.getElem_cons_zero, List.setIfInBounds_toArray, List.set_cons_zero, List.set_cons_succ]
 refine tkp (v := ?_) 3 ?_ ?_
 rotate_left
 ·intro w hSw; (try dsimp only at hSw); go_simp; (first | done | with_reducible rfl)
 try simp only [Act.put, List.getElem_toArray, List.getElem_cons_succ, List.getElem_cons_zero, List.setIfInBounds_toArray, List.set_cons_zero, List.set_cons_succ]
 refine tkp (v := ?_) 4 ?_ ?_
 rotate_left
 ·intro w hSw; (try dsimp only at hSw); go_simp; (first | done | with_reducible rfl)
 try simp only [Act.put, List.getElem_toArray, List.getElem_cons_succ, List.getElem_cons_zero, List.setIfInBounds_toArray, List.set_cons_zero, List.set_cons_succ]
 refine tkp (v := ?_) 5 ?_ ?_
 rotate_left
 ·intro w hSw; (try dsimp only at hSw); go_simp; (first | done | with_reducible rfl)
 try simp only [Act.put, List.getElem_toArray, List.getElem_cons_succ, List.getElem_cons_zero, List.setIfInBounds_toArray, List.set_cons_zero, List.set_cons_succ]
 refine tkp (v := ?_) 6 ?_ ?_
 rotate_left
 ·intro w hSw; (try dsimp only at hSw); go_simp; (first | done | with_reducible rfl)
 try simp only [Act.put, List.getElem_toArray, List.getElem_cons_succ, List.getElem_cons_zero, List.setIfInBounds_toArray, List.set_cons_zero, List.set_cons_succ]
 refine tkp (v := ?_) 7 ?_ ?_
 rotate_left
 ·intro w hSw; (try dsimp only at hSw); go_simp; (first | done | with_reducible rfl)
 try simp only [Act.put, List.getElem_toArray, List.getElem_cons_succ, List.getElem_cons_zero, List.setIfInBounds_toArray, List.set_cons_zero, List.set_cons_succ]
 refine tkp (v := ?_) 8 ?_ ?_
 rotate_left
 ·intro w hSw; (try dsimp only at hSw); go_simp; (first | done | with_reducible rfl)
 try simp only [Act.put, List.getElem_toArray, List.getElem_cons_succ, List.getElem_cons_zero, List.setIfInBounds_toArray, List.set_cons_zero, List.set_cons_succ]
 refine tkp (v := ?_) 9 ?_ ?_
 rotate_left
 ·intro w hSw; (try dsimp only at hSw); go_simp; (first | done | with_reducible rfl)
 try simp only [Act.put, List.getElem_toArray, List.getElem_cons_succ, List.getElem_cons_zero, List.setIfInBounds_toArray, List.set_cons_zero, List.set_cons_succ]
 refine tkp (v := ?_) 10 ?_ ?_
 rotate_left
 ·intro w hSw; (try dsimp only at hSw); go_simp; (first | done | with_reducible rfl)
 try simp only [Act.put, List.getElem_toArray, List.getElem_cons_succ, List.getElem_cons_zero, List.setIfInBounds_toArray, List.set_cons_zero, List.set_cons_succ]
 refine tkp (v := ?_) 11 ?_ ?_
 rotate_left
 ·intro w hSw; (try dsimp only at hSw); go_simp; (first | done | with_reducible rfl)
 try simp only [Act.put, List.getElem_toArray, List.getElem_cons_succ, List.getElem_cons_zero, List.setIfInBounds_toArray, List.set_cons_zero, List.set_cons_succ]
 refine tkp (v := ?_) 12 ?_ ?_
 rotate_left
 ·intro w hSw; (try dsimp only at hSw); go_simp; (first | done | with_reducible rfl)
 try simp only [Act.put, List.getElem_toArray, List.getElem_cons_succ, List.getElem_cons_zero, List.setIfInBounds_toArray, List.set_cons_zero, List.set_cons_succ]
 refine tkp (v := ?_) 13 ?_ ?_
 rotate_left
 ·intro w hSw; (try dsimp only at hSw); go_simp; (first | done | with_reducible rfl)
 try simp only [Act.put, List.getElem_toArray, List.getElem_cons_succ, List.getElem_cons_zero, List.setIfInBounds_toArray, List.set_cons_zero, List.set_cons_succ]
 refine wpAnyH_ready (rs := [14]) (by kernel_rfl) (by simp) ?_
 refine AllReadyH.cons rfl (fun K hK => ?_) AllReadyH.nil
 go_simp
 obtain ⟨w6, hw⟩ : ∃ W, W = (w5.alloc (.cells (nums .u8 abcL).toArray 5)).drew := ⟨_, rfl⟩
 have hc : Ch (fun _ => False) w5 w6 := by rw [hw]; exact ((Ch.refl _ _).alloc _).drew
 have hnew : w6.heap[w5.heap.size]? = some (.cells (nums .u8 abcL).toArray 5 (0, 0)) := by rw [hw]; exact heap_alloc_new w5 _
 change K _ ((w5.alloc (.cells (nums .u8 abcL).toArray 5)).drew)
 rw [← hw]
 obtain ⟨g6, hg⟩ : ∃ g6, w5.heap.size = g6 := ⟨_, rfl⟩
 rw [hg] at hnew ⊢
 have HC6 := Lib.hid (HC5.out.trans hc)
 have HR6 := Lib.hid (HR5.out.ch hc)
 have HO6 := Lib.hid (hc.reads HO5.out (fun _ _ h => h))
 have HS6 := Lib.hid (HMK.out _ _ (Ch.imp hc (fun _ h => h.elim)) HB5.out HK5.out)
 have HN6 := Lib.hid hnew
 have HLO : Hid (w.heap.size ≤ g6) := Lib.hid (by have := HC5.out.size; omega)
 have HAO : Hid (∀ a, Ao = some a → 0 < 3 → ¬ a.block = g6) := Lib.hid fun a ha _ => by
  obtain ⟨a', ha', hcc⟩ := HO5.out.2.2 (by decide)
  rw [ha] at ha'
  injection ha' with ha'
  subst ha'
  have := World.block_lt_of_cell? w5 _ (hcc 0 (by decide))
  simp [Addr.add] at this
  omega
 have hcv : Sem.run Tryd.prog (convert 23 23 (.slice (some ⟨g6, 0, none⟩) 3 3)) w6 = .ok (.slice (some ⟨g6, 0, none⟩) 3 3) (w6.freeze ⟨g6, 3, none⟩ 1) :=
  run_convert_own w6 23 5 Tryd.underlying23 Tryd.underlying5 g6 3 3 (nums .u8 abcL).toArray 5 (0, 0) hnew
 have HFZ : Hid (Ch (fun i => i = g6) w6 (w6.freeze ⟨g6, 3, none⟩ 1) ∧ ReadsInt (w6.freeze ⟨g6, 3, none⟩ 1) .u8 (some ⟨g6, 0, none⟩) 3 abcL) := Lib.hid ⟨(Ch.refl (fun i => i = g6) w6).freeze (p := ⟨g6, 3, none⟩) (.inl rfl) 1, by
  obtain ⟨fz', hf⟩ := frz_here w6 g6 3 _ _ _ hnew
  refine ⟨rfl, by decide, fun _ => ⟨_, rfl, fun j hj => ?_⟩⟩
  rw [add_plain, cell_of_row _ _ _ _ _ _ hf]
  simp [nums, List.getElem?_eq_getElem (show j < abcL.length from hj), List.getD_eq_getElem?_getD]⟩
 have HAS : Hid (∀ a, A = some a → 0 < seedL.length → ¬ a.block = g6) := Lib.hid fun a ha hp => by
  obtain ⟨a', ha', hcc⟩ := HR5.out.reads.2.2 hp
  rw [ha] at ha'
  injection ha' with ha'
  subst ha'
  have := World.block_lt_of_cell? w5 _ (hcc 0 hp)
  simp [Addr.add] at this
  omega
 have HGG : Hid (¬ g = g6 ∧ ¬ gk = g6 ∧ ¬ ab.block = g6) := Lib.hid (by
  have h1 := blk_lt HR5.out.here
  have h2 := blk_lt HK5.out
  have h3 := World.block_lt_of_cell? w5 _ HB5.out
  simp [Addr.add] at h3
  exact ⟨by omega, by omega, by omega⟩)
 clear hc hw hg hnew HC5 HR5 HO5 HB5 HK5
 refine hK.out _ _ ⟨HS6.out.1, range_nums HS6.out.2⟩ (fun hHeld => ?_)
 clear hK K
 refine wpAnyH_ready (rs := [15]) (by kernel_rfl) (by simp) ?_
 refine AllReadyH.cons rfl (fun K hK => ?_) AllReadyH.nil
 go_simp
 obtain ⟨w7, hw⟩ : ∃ W, W = w6.freeze ⟨g6, 3, none⟩ 1 := ⟨_, rfl⟩
 rw [← hw] at HFZ ⊢
 clear hw hcv
 have HC7 : Hid (Ch (fun _ => False) w w7) := Lib.hid (HC6.out.then_ HFZ.out.1 (fun i hi e => by have := HLO.out; omega))
 have HR7 : Hid (RealAt w7 g A c seedL 1 1) := Lib.hid ⟨HFZ.out.1.blk HR6.out.here HGG.out.1, HFZ.out.1.reads' HR6.out.reads (fun a ha hp => HAS.out a ha hp), HR6.out.low, HR6.out.apart, HR6.out.b, HR6.out.len⟩
 have HO7 := Lib.hid (HFZ.out.1.reads' HO6.out HAO.out)
 have HS7 : Hid (w7.cell? (ab.add 7) = some (.int .u8 1) ∧ w7.heap[gk]? = some (.cells (nums .u8 k1).toArray 35 (0, 0))) := Lib.hid ⟨HFZ.out.1.cell HS6.out.1 HGG.out.2.2, HFZ.out.1.blk HS6.out.2 HGG.out.2.1⟩
 have HL7 := Lib.hid HFZ.out.2
 clear HFZ HC6 HR6 HO6 HS6 HN6
 refine hK.out _ _ ⟨HS7.out.1, range_nums HS7.out.2⟩ (fun hHeld => ?_)
 clear hK K
 refine wpAnyH_ready (rs := [16]) (by kernel_rfl) (by simp) ?_
 refine AllReadyH.cons rfl (fun K hK => ?_) AllReadyH.nil
 go_simp
 have HX := same_yes Ao (some ⟨g6, 0, none⟩) 3 co 3 abcL w7 HO7.out HL7.out
 with_reducible refine HX.mono ?_
 clear HX
 rintro e w8 ⟨rfl, q8, hw8⟩
 have hc : Ch (fun _ => False) w7 w8 := by rw [hw8]; exact (Ch.refl _ _).drewN q8
 have HC8 := Lib.hid (HC7.out.trans hc)
 have HR8 := Lib.hid (HR7.out.ch hc)
 have HS8 := Lib.hid (HMK.out _ _ (Ch.imp hc (fun _ h => h.elim)) HS7.out.1 HS7.out.2)
 clear hc hw8 HC7 HR7 HS7 HO7 HL7
 refine hK.out _ _ ⟨HS8.out.1, range_nums HS8.out.2⟩ (fun hHeld => ?_)
 clear hK K
 refine tkp (v := ?_) 17 ?_ ?_
 rotate_left
 ·intro w hSw; (try dsimp only at hSw); go_simp; (first | done | with_reducible rfl)
 try simp only [Act.put, List.getElem_toArray, List.getElem_cons_succ, List.getElem_cons_zero, List.setIfInBounds_toArray, List.set_cons_zero, List.set_cons_succ]
 refine tkp (v := ?_) 18 ?_ ?_
 rotate_left
 ·intro w hSw; (try dsimp only at hSw); go_simp; (first | done | with_reducible rfl)
 try simp only [Act.put, List.getElem_toArray, List.getElem_cons_succ, List.getElem_cons_zero, List.setIfInBounds_toArray, List.set_cons_zero, List.set_cons_succ]
 refine wpAnyH_take (i := 19) (v := .agg (nums .u8 k1).toArray) rfl (by kernel_rfl) (by kernel_rfl) (by kernel_rfl) (fun _ _ _ h => h) ?_ (by assumption) ?_
 ·refine yieldsIf_load_mid (by rfl) 35 (.tmp 2) rfl gk 0 rfl (nums .u8 k1) _ (fun w hSw => ?_) huk rfl hik
  (try dsimp only at hSw)
  go_split_ands
  assumption
 try simp only [Act.put, List.getElem_toArray, List.getElem_cons_succ, List.getElem_cons_zero, List.setIfInBounds_toArray, List.set_cons_zero, List.set_cons_succ]
 refine tkp (v := ?_) 20 ?_ ?_
 rotate_left
 ·intro w hSw; (try dsimp only at hSw); go_simp; (first | done | with_reducible rfl)
 try simp only [Act.put, List.getElem_toArray, List.getElem_cons_succ, List.getElem_cons_zero, List.setIfInBounds_toArray, List.set_cons_zero, List.set_cons_succ]
 refine wpAnyH_ready (rs := [21]) (by kernel_rfl) (by simp) ?_
 refine AllReadyH.cons rfl (fun K hK => ?_) AllReadyH.nil
 go_simp
 have HX := HFB.out g A c 1 w8 HR8.out
 with_reducible refine HX.mono ?_
 clear HX
 rintro e w9 ⟨rfl, hR, hc⟩
 have HC9 := Lib.hid (HC8.out.then_ hc (fun i hi e => by have := HG.out; omega))
 have HS9 := Lib.hid (HMK.out _ _ hc HS8.out.1 HS8.out.2)
 clear hc hR HC8 HR8 HS8
 refine hK.out _ _ ⟨HS9.out.1, range_nums HS9.out.2⟩ (fun hHeld => ?_)
 clear hK K
 refine tkp (v := ?_) 22 ?_ ?_
 rotate_left
 ·intro w hSw; (try dsimp only at hSw); go_simp; (first | done | with_reducible rfl)
 try simp only [Act.put, List.getElem_toArray, List.getElem_cons_succ, List.getElem_cons_zero, List.setIfInBounds_toArray, List.set_cons_zero, List.set_cons_succ]
 refine tkp (v := ?_) 23 ?_ ?_
 rotate_left
 ·intro w hSw; (try dsimp only at hSw); go_simp; (first | done | with_reducible rfl)
 try simp only [Act.put, List.getElem_toArray, List.getElem_cons_succ, List.getElem_cons_zero, List.setIfInBounds_toArray, List.set_cons_zero, List.set_cons_succ]
 refine tkp (v := ?_) 24 ?_ ?_
 rotate_left
 ·intro w hSw; (try dsimp only at hSw); go_simp; (first | done | with_reducible rfl)
 try simp only [Act.put, List.getElem_toArray, List.getElem_cons_succ, List.getElem_cons_zero, List.setIfInBounds_toArray, List.set_cons_zero, List.set_cons_succ]
 refine tkp (v := ?_) 25 ?_ ?_
 rotate_left
 ·intro w hSw; (try dsimp only at hSw); go_simp; (first | done | with_reducible rfl)
 try simp only [Act.put, List.getElem_toArray, List.getElem_cons_succ, List.getElem_cons_zero, List.setIfInBounds_toArray, List.set_cons_zero, List.set_cons_succ]
 refine wpAnyH_ready (rs := [26]) (by kernel_rfl) (by simp) ?_
 refine AllReadyH.cons rfl (fun K hK => ?_) AllReadyH.nil
 go_simp
 have HX := sdigest_any (.pointer (some ⟨g, 0, none⟩)) none 0 0 [] w9 ⟨rfl, by decide, fun h => by omega⟩ (by unfold Bs; decide) (by decide)
 with_reducible refine HX.mono ?_
 clear HX
 rintro e w10 ⟨A10, c10, rfl, -, hc⟩
 have HC10 := Lib.hid (HC9.out.trans hc)
 have HS10 := Lib.hid (HMK.out _ _ (Ch.imp hc (fun _ h => h.elim)) HS9.out.1 HS9.out.2)
 clear hc HC9 HS9
 refine hK.out _ _ ⟨HS10.out.1, range_nums HS10.out.2⟩ (fun hHeld => ?_)
 clear hK K
 refine tkp (v := ?_) 27 ?_ ?_
 rotate_left
 ·intro w hSw; (try dsimp only at hSw); go_simp; (first | done | with_reducible rfl)
 try simp only [Act.put, List.getElem_toArray, List.getElem_cons_succ, List.getElem_cons_zero, List.setIfInBounds_toArray, List.set_cons_zero, List.set_cons_succ]
 refine tkp (v := ?_) 28 ?_ ?_
 rotate_left
 ·intro w hSw; (try dsimp only at hSw); go_simp; (first | done | with_reducible rfl)
 try simp only [Act.put, List.getElem_toArray, List.getElem_cons_succ, List.getElem_cons_zero, List.setIfInBounds_toArray, List.set_cons_zero, List.set_cons_succ]
 refine tkp (v := ?_) 29 ?_ ?_
 rotate_left
 ·intro w hSw; (try dsimp only at hSw); go_simp; (first | done | with_reducible rfl)
 try simp only [Act.put, List.getElem_toArray, List.getElem_cons_succ, List.getElem_cons_zero, List.setIfInBounds_toArray, List.set_cons_zero, List.set_cons_succ]
 refine tkp (v := ?_) 30 ?_ ?_
 rotate_left
 ·intro w hSw; (try dsimp only at hSw); go_simp; (first | done | with_reducible rfl)
 try simp only [Act.put, List.getElem_toArray, List.getElem_cons_succ, List.getElem_cons_zero, List.setIfInBounds_toArray, List.set_cons_zero, List.set_cons_succ]
 refine wpAnyH_done (by kernel_rfl) ?_ _
 go_wp2
 go_ret
 exact ⟨rfl, HC10.out.below⟩
end Go.Proofs.YtejhjlfakfaegaaDoor
