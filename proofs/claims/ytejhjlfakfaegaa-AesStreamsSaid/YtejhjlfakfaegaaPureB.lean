/- The reference's Block, in plain words: the same block. No program is walked here. -/
import Derived.Test.YtejhjlfakfaegaaPureK
import Derived.Test.YtejhjlfakfaegaaAesD
import Derived.Test.YtejhjlfakfaegaaPAesStreamsx12
set_option linter.unusedSimpArgs false
set_option linter.unusedVariables false
namespace Go.Proofs.Ytejhjlfakfaegaa
open Go.RowKit Go.Proofs.YtejhjlfakfaegaaW.PrintWords Go.Proofs.Ytejhjlfakfaegaa.PAesStreams

theorem all16_take (f : Nat → Int) (i : Nat) (h : i < 16) : (all16 f).take (i + 1) = (all16 f).take i ++ [f i] := by
  rw [List.take_succ_eq_append_getElem (by rw [all16_len]; exact h)]
  congr 1
  have := all16_at f i h
  rw [nt_get (by rw [all16_len]; exact h)] at this
  rw [this]
theorem all16_all (f : Nat → Int) : (all16 f).take 16 = all16 f := List.take_of_length_le (by rw [all16_len]; exact Nat.le_refl _)
theorem all16_tl (f : Nat → Int) (i : Nat) (h : i ≤ 16) : ((all16 f).take i).length = i := by rw [List.length_take, all16_len]; omega
theorem w64_nat (a b : Nat) (h : b < 1000000) (e : (a : Int) = (b : Int)) : wrap64 (a : Int) = (b : Int) := by rw [w64_id (by omega) (by omega)]; exact e
/-- the columns turned, as the document has it -/
def mixF (t : List Int) (i : Nat) : Int := x8 (x8 (x8 (mul2 (nt t i)) (mul3 (nt t (i / 4 * 4 + (i % 4 + 1) % 4)))) (nt t (i / 4 * 4 + (i % 4 + 2) % 4))) (nt t (i / 4 * 4 + (i % 4 + 3) % 4))
theorem bl0 (b ks : List Int) (hb : b.length = 16) (hk : ks.length = 176) : ∀ (d K : Nat), d ≤ 16 →
    compeerref05_Block.l0 (K + d + 1) sbl b ks ((xk b ks 0).take (16 - d)) ((16 - d : Nat) : Int) = compeerref05_Block.l1 K sbl ks (xk b ks 0) 1
  | 0, K, _ => by
    rw [show K + 0 + 1 = K + 1 from rfl, compeerref05_Block.l0]
    refine (if_neg (by omega)).trans ?_
    rw [show 16 - 0 = 16 from rfl, xk, all16_all]
  | d + 1, K, h => by
    rw [show K + (d + 1) + 1 = (K + d + 1) + 1 by omega, compeerref05_Block.l0]
    refine (if_pos (by omega)).trans ?_
    refine (if_pos (by omega)).trans ?_
    refine (if_pos (by omega)).trans ?_
    refine (if_pos (by omega)).trans ?_
    refine (if_pos (by rw [xk, all16_tl _ _ (by omega)]; omega)).trans ?_
    rw [rd_nt, rd_nt, show wrap64 (((16 - (d + 1) : Nat) : Int) + 1) = ((16 - d : Nat) : Int) by rw [w64_id (by omega) (by omega)]; omega]
    rw [← bl0 b ks hb hk d K (by omega), show 16 - d = (16 - (d + 1)) + 1 by omega, xk, all16_take _ _ (by omega), Nat.zero_add]
    rfl
theorem bl3 (s ks : List Int) (n : Int) (hs : s.length = 16) (hsb : Bs s) (c : Nat) (hc : c < 4) : ∀ (d K : Nat), d ≤ 4 →
    compeerref05_Block.l3 (K + d + 1) sbl ks s n ((ss s).take (4 * c + (4 - d))) c ((4 - d : Nat) : Int) = compeerref05_Block.l2 K sbl ks s n ((ss s).take (4 * c + 4)) ((c + 1 : Nat) : Int)
  | 0, K, _ => by
    rw [show K + 0 + 1 = K + 1 from rfl, compeerref05_Block.l3]
    refine (if_neg (by omega)).trans ?_
    rw [w64_id (by omega) (by omega)]
    rfl
  | d + 1, K, h => by
    have e1 : wrap64 ((c : Int) + ((4 - (d + 1) : Nat) : Int)) = ((c + (4 - (d + 1)) : Nat) : Int) := by rw [w64_id (by omega) (by omega)]; omega
    have e2 : Int.tmod ((c + (4 - (d + 1)) : Nat) : Int) 4 = (((c + (4 - (d + 1))) % 4 : Nat) : Int) := by rw [Int.tmod_eq_emod_of_nonneg (by omega)]; omega
    have e3 : wrap64 ((((c + (4 - (d + 1))) % 4 : Nat) : Int) * 4) = (((c + (4 - (d + 1))) % 4 * 4 : Nat) : Int) := by rw [w64_id (by omega) (by omega)]; omega
    have e4 : wrap64 ((((c + (4 - (d + 1))) % 4 * 4 : Nat) : Int) + ((4 - (d + 1) : Nat) : Int)) = (((c + (4 - (d + 1))) % 4 * 4 + (4 - (d + 1)) : Nat) : Int) := by rw [w64_id (by omega) (by omega)]; omega
    have e : wrap64 (wrap64 (Int.tmod (wrap64 ((c : Int) + ((4 - (d + 1) : Nat) : Int))) 4 * 4) + ((4 - (d + 1) : Nat) : Int)) = (((c + (4 - (d + 1))) % 4 * 4 + (4 - (d + 1)) : Nat) : Int) := by rw [e1, e2, e3, e4]
    have hb := hsb.at ((c + (4 - (d + 1))) % 4 * 4 + (4 - (d + 1)))
    have hl := sbl_len'
    rw [show K + (d + 1) + 1 = (K + d + 1) + 1 by omega, compeerref05_Block.l3]
    refine (if_pos (by omega)).trans ?_
    refine (if_pos (by rw [e]; omega)).trans ?_
    refine (if_pos (by rw [e]; omega)).trans ?_
    refine (if_pos (by rw [e, rd_nt]; exact hb.1)).trans ?_
    refine (if_pos (by rw [e, rd_nt, hl]; exact hb.2)).trans ?_
    refine (if_pos (by rw [ss, all16_tl _ _ (by omega)]; omega)).trans ?_
    rw [e, rd_nt, rd_sbl, show wrap64 (((4 - (d + 1) : Nat) : Int) + 1) = ((4 - d : Nat) : Int) by rw [w64_id (by omega) (by omega)]; omega]
    rw [← bl3 s ks n hs hsb c hc d K (by omega), show 4 * c + (4 - d) = (4 * c + (4 - (d + 1))) + 1 by omega, ss, all16_take _ _ (by omega)]
    rw [show (4 * c + (4 - (d + 1)) + 4 * ((4 * c + (4 - (d + 1))) % 4)) % 16 = (c + (4 - (d + 1))) % 4 * 4 + (4 - (d + 1)) by omega]
theorem bl2 (s ks : List Int) (n : Int) (hs : s.length = 16) (hsb : Bs s) (K : Nat) (e : Nat) (he : e ≤ 4) :
    compeerref05_Block.l2 (K + 6 * e + 1) sbl ks s n ((ss s).take (4 * (4 - e))) ((4 - e : Nat) : Int) = if n < 10 then compeerref05_Block.l4 K sbl ks n (ss s) [] 0 else compeerref05_Block.j6 K sbl ks n (ss s) := by
  induction e with
  | zero =>
    rw [show K + 6 * 0 + 1 = K + 1 from rfl, compeerref05_Block.l2]
    refine (if_neg (by omega)).trans ?_
    rw [show 4 * (4 - 0) = 16 from rfl, ss, all16_all]
  | succ e ih =>
    rw [show K + 6 * (e + 1) + 1 = (K + 6 * e + 6) + 1 by omega, compeerref05_Block.l2]
    refine (if_pos (by omega)).trans ?_
    have := bl3 s ks n hs hsb (4 - (e + 1)) (by omega) 4 (K + 6 * e + 1) (by omega)
    rw [show 4 * (4 - (e + 1)) + (4 - 4) = 4 * (4 - (e + 1)) by omega, show 4 * (4 - (e + 1)) + 4 = 4 * (4 - e) by omega, show 4 - (e + 1) + 1 = 4 - e by omega] at this
    exact this.trans (ih (by omega))
theorem idx5 (c r q : Nat) (hc : c < 4) (hr : r < 4) (hq : q < 4) : wrap64 (wrap64 ((c : Int) * 4) + Int.tmod (wrap64 ((r : Int) + (q : Int))) 4) = ((c * 4 + (r + q) % 4 : Nat) : Int) := by
  rw [w64_id (x := (c : Int) * 4) (by omega) (by omega), w64_id (x := (r : Int) + (q : Int)) (by omega) (by omega), Int.tmod_eq_emod_of_nonneg (by omega), w64_id (by omega) (by omega)]
  omega
theorem idx50 (c r : Nat) (hc : c < 4) (hr : r < 4) : wrap64 (wrap64 ((c : Int) * 4) + (r : Int)) = ((c * 4 + r : Nat) : Int) := by
  rw [w64_id (x := (c : Int) * 4) (by omega) (by omega), w64_id (by omega) (by omega)]
  omega
theorem mixF_at (t : List Int) (c r : Nat) (hr : r < 4) : mixF t (c * 4 + r) = Go.bits .xor .u8 (Go.bits .xor .u8 (Go.bits .xor .u8 (mul2 (nt t (c * 4 + r))) (mul3 (nt t (c * 4 + (r + 1) % 4)))) (nt t (c * 4 + (r + 2) % 4))) (nt t (c * 4 + (r + 3) % 4)) := by
  unfold mixF x8
  rw [show (c * 4 + r) / 4 * 4 = c * 4 by omega, show (c * 4 + r) % 4 = r by omega]
theorem l5step (t ks U : List Int) (n : Int) (ht : t.length = 16) (htb : Bs t) (c r K : Nat) (hc : c < 4) (hr : r < 4) (hK : 40 ≤ K) (hU : U.length < 100) :
    compeerref05_Block.l5 (K + 1) sbl ks n t U c r = compeerref05_Block.l5 K sbl ks n t (U ++ [mixF t (c * 4 + r)]) c ((r + 1 : Nat) : Int) := by
  have m1 : (r + 1) % 4 < 4 := Nat.mod_lt _ (by decide)
  have m2 : (r + 2) % 4 < 4 := Nat.mod_lt _ (by decide)
  have m3 : (r + 3) % 4 < 4 := Nat.mod_lt _ (by decide)
  have hb0 := htb.at (c * 4 + r)
  have hb1 := htb.at (c * 4 + (r + 1) % 4)
  have HV := Lib.hid (mixF_at t c r hr)
  have P2 := Lib.hid (pf2 _ hb0 (k := K) hK)
  have P3 := Lib.hid (pf3 _ hb1 (k := K) hK)
  have hw : wrap64 ((r : Int) + 1) = ((r + 1 : Nat) : Int) := by rw [w64_id (by omega) (by omega)]; omega
  have HW := Lib.hid hw
  clear hw hb0 hb1
  have I0 := Lib.hid (idx50 c r hc hr)
  have I1 := Lib.hid (idx5 c r 1 hc hr (by decide))
  have I2 := Lib.hid (idx5 c r 2 hc hr (by decide))
  have I3 := Lib.hid (idx5 c r 3 hc hr (by decide))
  change Hid (wrap64 (wrap64 ((c : Int) * 4) + Int.tmod (wrap64 ((r : Int) + 1)) 4) = _) at I1
  change Hid (wrap64 (wrap64 ((c : Int) * 4) + Int.tmod (wrap64 ((r : Int) + 2)) 4) = _) at I2
  change Hid (wrap64 (wrap64 ((c : Int) * 4) + Int.tmod (wrap64 ((r : Int) + 3)) 4) = _) at I3
  rw [compeerref05_Block.l5, I0.out, I1.out, I2.out, I3.out, rd_nt, rd_nt, rd_nt, rd_nt, P2.out, P3.out, HW.out]
  generalize (r + 1) % 4 = q1 at *
  generalize (r + 2) % 4 = q2 at *
  generalize (r + 3) % 4 = q3 at *
  refine (if_pos (by omega)).trans ?_
  refine (if_pos (by omega)).trans ?_
  refine (if_pos (by omega)).trans ?_
  refine (if_pos (by omega)).trans ?_
  refine (if_pos (by omega)).trans ?_
  refine (if_pos (by omega)).trans ?_
  refine (if_pos (by omega)).trans ?_
  refine (if_pos (by omega)).trans ?_
  refine (if_pos (by omega)).trans ?_
  rw [Option.bind_some, Option.bind_some]
  refine (if_pos (by omega)).trans ?_
  rw [HV.out]
theorem bl5 (t ks : List Int) (n : Int) (ht : t.length = 16) (htb : Bs t) (c : Nat) (hc : c < 4) (K : Nat) (hK : 40 ≤ K) (d : Nat) (hd : d ≤ 4) :
    compeerref05_Block.l5 (K + d + 1) sbl ks n t ((all16 (mixF t)).take (4 * c + (4 - d))) c ((4 - d : Nat) : Int) = compeerref05_Block.l4 K sbl ks n t ((all16 (mixF t)).take (4 * c + 4)) ((c + 1 : Nat) : Int) := by
  induction d with
  | zero =>
    rw [show K + 0 + 1 = K + 1 from rfl, compeerref05_Block.l5]
    refine (if_neg (by omega)).trans ?_
    rw [w64_id (by omega) (by omega)]
    rfl
  | succ d ih =>
    have h := l5step t ks ((all16 (mixF t)).take (4 * c + (4 - (d + 1)))) n ht htb c (4 - (d + 1)) (K + d + 1) hc (by omega) (by omega) (by rw [all16_tl _ _ (by omega)]; omega)
    rw [show c * 4 + (4 - (d + 1)) = 4 * c + (4 - (d + 1)) by omega, ← all16_take _ _ (by omega), show 4 * c + (4 - (d + 1)) + 1 = 4 * c + (4 - d) by omega, show 4 - (d + 1) + 1 = 4 - d by omega] at h
    exact h.trans (ih (by omega))
theorem bl4 (t ks : List Int) (n : Int) (ht : t.length = 16) (htb : Bs t) (K : Nat) (hK : 40 ≤ K) (e : Nat) (he : e ≤ 4) :
    compeerref05_Block.l4 (K + 6 * e + 1) sbl ks n t ((all16 (mixF t)).take (4 * (4 - e))) ((4 - e : Nat) : Int) = compeerref05_Block.j6 K sbl ks n (all16 (mixF t)) := by
  induction e with
  | zero =>
    rw [show K + 6 * 0 + 1 = K + 1 from rfl, compeerref05_Block.l4]
    refine (if_neg (by omega)).trans ?_
    rw [show 4 * (4 - 0) = 16 from rfl, all16_all]
  | succ e ih =>
    rw [show K + 6 * (e + 1) + 1 = (K + 6 * e + 6) + 1 by omega, compeerref05_Block.l4]
    refine (if_pos (by omega)).trans ?_
    have := bl5 t ks n ht htb (4 - (e + 1)) (by omega) (K + 6 * e + 1) (by omega) 4 (by omega)
    rw [show 4 * (4 - (e + 1)) + (4 - 4) = 4 * (4 - (e + 1)) by omega, show 4 * (4 - (e + 1)) + 4 = 4 * (4 - e) by omega, show 4 - (e + 1) + 1 = 4 - e by omega] at this
    exact this.trans (ih (by omega))
theorem bl6 (u ks : List Int) (n : Nat) (hu : u.length = 16) (hk : ks.length = 176) (hn : n ≤ 10) : ∀ (d K : Nat), d ≤ 16 →
    compeerref05_Block.l6 (K + d + 1) sbl ks n (mapTo (fun i => x8 (nt u i) (nt ks (16 * n + i))) u (16 - d)) ((16 - d : Nat) : Int) = compeerref05_Block.l1 K sbl ks (xk u ks (16 * n)) ((n + 1 : Nat) : Int)
  | 0, K, _ => by
    rw [show K + 0 + 1 = K + 1 from rfl, compeerref05_Block.l6]
    refine (if_neg (by omega)).trans ?_
    rw [show 16 - 0 = 16 from rfl, mapTo_16, w64_id (by omega) (by omega)]
    rfl
  | d + 1, K, h => by
    have e : wrap64 (wrap64 (16 * (n : Int)) + ((16 - (d + 1) : Nat) : Int)) = ((16 * n + (16 - (d + 1)) : Nat) : Int) := by rw [w64_id (x := 16 * (n : Int)) (by omega) (by omega), w64_id (by omega) (by omega)]; omega
    rw [show K + (d + 1) + 1 = (K + d + 1) + 1 by omega, compeerref05_Block.l6]
    refine (if_pos (by omega)).trans ?_
    refine (if_pos (by omega)).trans ?_
    refine (if_pos (by rw [mapTo_len]; omega)).trans ?_
    refine (if_pos (by rw [e]; omega)).trans ?_
    refine (if_pos (by rw [e]; omega)).trans ?_
    rw [e, rd_nt, rd_nt, mapTo_at _ _ _ _ (by omega), if_neg (by omega), show (((16 - (d + 1) : Nat) : Int)).toNat = 16 - (d + 1) by omega, show wrap64 (((16 - (d + 1) : Nat) : Int) + 1) = ((16 - d : Nat) : Int) by rw [w64_id (by omega) (by omega)]; omega]
    rw [← bl6 u ks n hu hk hn d K (by omega), show 16 - d = (16 - (d + 1)) + 1 by omega, ← mapTo_set _ _ _ (by omega)]
    rfl
end Go.Proofs.Ytejhjlfakfaegaa
