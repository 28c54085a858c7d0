/- The reference's Put and Fresh. The reference's Seal. The walk of SealApart. -/
import Derived.Test.YtejhjlfakfaegaaDoorMf
import Derived.BigGuard
set_option linter.unusedSimpArgs false
set_option linter.unusedVariables false
namespace Go.Proofs.YtejhjlfakfaegaaDoor
open Go.RowKit Go.Proofs.YtejhjlfakfaegaaDoorW.PrintWords

/-- the last k bytes of a number -/
def tlB (n : Int) (k : Nat) : List Int := (putBytes n).drop (8 - k)
theorem tlB_len (n : Int) (k : Nat) (h : k ≤ 8) : (tlB n k).length = k := by rw [tlB, List.length_drop, putBytes_length]; omega
theorem tlB_0 (n : Int) : tlB n 0 = [] := List.eq_nil_of_length_eq_zero (tlB_len n 0 (by omega))
theorem tlB_succ (n : Int) (k : Nat) (h : k < 8) : tlB n (k + 1) = [n / 256 ^ k % 256] ++ tlB n k := by
 have e : (2 : Int) ^ (56 - 8 * (7 - k)) = 256 ^ k := by
  rcases k with _|_|_|_|_|_|_|_|k <;> first | rfl | omega
 unfold tlB
 rw [List.drop_eq_getElem_cons (by rw [putBytes_length]; omega), show 8 - (k + 1) + 1 = 8 - k by omega, List.singleton_append]
 congr 1
 simp only [putBytes, List.getElem_map, List.getElem_range]
 rw [putAt, show 8 - (k + 1) = 7 - k by omega, e]
theorem div_pow (n : Int) (k : Nat) : n / 256 ^ k / 256 = n / 256 ^ (k + 1) := by
 rw [Int.pow_succ, Int.ediv_ediv_of_nonneg (by exact Int.pow_nonneg (by decide))]
set_option maxHeartbeats 1000000 in
theorem rput_any (n : Int) (w : World) (h0 : 0 ≤ n) (h : n < 18446744073709551616) :
  Calls Tryd.prog 31 #[.int .u64 n] w fun e w' => ∃ v, e = .returned v ∧ w'.ownsRow w.heap.size 5 1 v 8 (nums .u8 (putBytes n)) ∧ Below w.heap.size w w' := by
 go_enter Tryd.func31, Tryd.ntmps31
 go_wp2
 go_loopw [0, 3, 4] (fun a o i wr => ∃ k : Nat, k ≤ 8 ∧ i = .int .i64 (k : Int) ∧ (∃ m : Int, a = .int .u64 m ∧ 0 ≤ m ∧ m < 18446744073709551616 ∧ Hid (m = n / 256 ^ k)) ∧ wr.ownsRow w.heap.size 5 1 o (tlB n k).length (nums .u8 (tlB n k)) ∧ Below w.heap.size w wr) (fun _ _ i _ => (8 - intOf i).toNat)
 case atStart => exact ⟨0, by omega, rfl, ⟨n, rfl, h0, h, Lib.hid (by simp)⟩, by rw [tlB_0]; exact own_lit w w.heap.size 5 .u8 [] (Nat.le_refl _) (by decide), (Below.refl _ _).alloc (Nat.le_refl _) _⟩
 case round =>
  obtain ⟨k, hk, rfl, ⟨m, rfl, m0, m1, HM⟩, ho, hb⟩ := hrel
  by_cases hlt : k < 8
  ·have HTS := Lib.hid (tlB_succ n k hlt)
   have HDP := Lib.hid (div_pow n k)
   have HTL := Lib.hid (tlB_len n k (by omega))
   obtain ⟨Ao, co, rfl⟩ := own_slice ho
   have HO := Lib.hid (rd_own ho)
   have HB := Lib.hid hb
   have HOL := Lib.hid (own_lit wr w.heap.size 5 .u8 [m % 256] hb.size (by simp))
   clear ho hb
   have q0 : 0 ≤ m % 256 := by omega
   have q1 : m % 256 < 256 := by omega
   go_wp2_with first
    | (at_builtin; go_must (refine print_append_row (w0 := w) w.heap.size rfl (.tmp 13) (.tmp 14) 23 5 .u8 1 rfl Tryd.underlying23 info_u8 (by decide) (.slice (some ⟨wr.heap.size, 0, none⟩) 1 1) [m % 256] (tlB n k) Ao _ co rfl rfl HOL.out (((Ch.refl (fun _ => False) wr).alloc _).reads HO.out (fun _ _ h => h)) (((Ch.of_below (S := fun _ => False) HB.out).alloc _).below) (by have := HB.out.size; simp; omega) (by rw [HTL.out]; simp; omega) ?_; intro v1 w1 ho1 hb1 _ _; rw [HM.out, ← HTS.out] at ho1; have HO1 := Lib.hid ho1; have HB1 := Lib.hid hb1; clear ho1 hb1))
   go_roundw
   case rel => exact ⟨k + 1, by omega, by go_num, ⟨m / 256, rfl, by omega, by omega, Lib.hid (by rw [HM.out, HDP.out])⟩, HO1.out, HB1.out⟩
   case measure => simp [intOf]; omega
  ·obtain rfl : k = 8 := by omega
   go_wp2
   go_ret
   exact ⟨_, rfl, ho, hb⟩
set_option maxHeartbeats 1000000 in
theorem rfresh_any (A : Option Addr) (n c : Nat) (seed : List Int) (q : Int) (w : World) (hr : ReadsInt w .u8 A n seed) (hb : Bs seed) (hn : n < 1000) (h0 : 0 ≤ q) (h1 : q < 1000000) :
  Calls Tryd.prog 13 #[.slice A n c, .int .u64 q] w fun e w' => ∃ a c', e = .returned (.slice (some a) 16 c') ∧ ReadsInt w' .u8 (some a) 16 (freshK seed q) ∧ Below w.heap.size w w' := by
 have HR := Lib.hid hr
 have HB := Lib.hid hb
 clear hr hb
 go_enter Tryd.func13, Tryd.ntmps13
 go_wp2_with fail
 have HX := ks_any w
 with_reducible refine HX.mono ?_
 clear HX
 rintro e w1 ⟨v, rfl, ho, hb⟩
 obtain ⟨As, cs, rfl, -⟩ := q_slice (q_of_own ho)
 have HC1 : Hid (Ch (fun _ => False) w w1) := Lib.hid (Ch.of_below hb)
 have HS1 := Lib.hid (rd_own ho)
 clear ho hb
 go_wp2_with fail
 have HX := rput_any q w1 h0 (by omega)
 with_reducible refine HX.mono ?_
 clear HX
 rintro e w2 ⟨v, rfl, ho, hb⟩
 obtain ⟨Ap, cp, rfl, -⟩ := q_slice (q_of_own ho)
 have hc := Ch.of_below (S := fun _ => False) hb
 have HC2 := Lib.hid (HC1.out.trans hc)
 have HS2 := Lib.hid (hc.reads HS1.out (fun _ _ h => h))
 have HP2 := Lib.hid (rd_own ho)
 clear ho hb hc HC1 HS1
 go_wp2_with fail
 have HX := rsum_any As A Ap cs c cp n 8 seed (putBytes q) w2 HS2.out (HC2.out.reads HR.out (fun _ _ h => h)) HP2.out (by omega) (by decide) HB.out (putBytes_bs q)
 with_reducible refine HX.mono ?_
 clear HX
 rintro e w3 ⟨A5, c5, rfl, hr, hb, h32⟩
 have h16 : (16 : Int) ≤ c5 := by omega
 obtain ⟨a5, rfl, -⟩ := hr.2.2 (by omega)
 have HC3 := Lib.hid (HC2.out.trans (Ch.of_below hb))
 have HR3 : Hid (ReadsInt w3 .u8 (some a5) 16 (freshK seed q)) := Lib.hid (reads_take hr (show 16 ≤ 32 by omega))
 clear hr hb h32
 go_wp2
 go_ret
 exact ⟨a5, c5, rfl, HR3.out, HC3.out.below⟩
end Go.Proofs.YtejhjlfakfaegaaDoor
set_option linter.unusedSimpArgs false
set_option linter.unusedVariables false
namespace Go.Proofs.YtejhjlfakfaegaaDoor
open Go.RowKit Go.Proofs.YtejhjlfakfaegaaDoorW.PrintWords

set_option maxRecDepth 100000 in
set_option maxHeartbeats 4000000 in
theorem rseal_any (N : Int) (Ak : Option Addr) (ck : Nat) (k : List Int) (u : Int) (Ab : Option Addr) (n cb : Nat) (b : List Int) (w : World) (hN0 : 0 ≤ N) (hN1 : N < 1000000) (hk : ReadsInt w .u8 Ak 16 k) (hkb : Bs k) (h0 : -9223372036854775808 ≤ u) (h1 : u ≤ 9223372036854775807) (hr : ReadsInt w .u8 Ab n b) (hbb : Bs b) (hn : n < 10000) (hnc : n ≤ cb) :
  Calls Tryd.prog 11 #[.int .u64 N, .slice Ak 16 ck, .int .i64 u, .slice Ab n cb] w fun e w' => ∃ a c', e = .returned (.slice (some a) (n + 24) c') ∧ ReadsInt w' .u8 (some a) (n + 24) (sealB N k u b) ∧ Below w.heap.size w w' := by
 have HRK : Hid (∀ W, Ch (fun _ => False) w W → ReadsInt W .u8 Ak 16 k) := Lib.hid fun W hC => hC.reads hk (fun _ _ h => h)
 have HRB : Hid (∀ W, Ch (fun _ => False) w W → ReadsInt W .u8 Ab n b) := Lib.hid fun W hC => hC.reads hr (fun _ _ h => h)
 have HKB := Lib.hid hkb
 have HBB := Lib.hid hbb
 have HBL := Lib.hid hr.1
 have HIL : Hid ((Lib.itoa u).length ≤ 21) := Lib.hid (Lib.itoa_length_le u h0 h1)
 have HDV : Hid (∀ (x : UInt8) (As : Option Addr) (cs : Nat) (W : World), ReadsInt W .u32 As 64 kst → Ch (fun _ => False) w W → Calls Tryd.prog 24 #[.slice As 64 cs, .slice Ak 16 ck, .string ((⟨#[x]⟩ : ByteArray) ++ (⟨(Lib.itoa u).toArray⟩ : ByteArray))] W fun e w' => ∃ a c, e = .returned (.slice (some a) 16 c) ∧ ReadsInt w' .u8 (some a) 16 (drv k ([(x.toNat : Int)] ++ itoaB u)) ∧ Below W.heap.size W w' ∧ 16 ≤ c) := Lib.hid fun x As cs W hs hC => by
  have := rderive_any As Ak cs ck k ((⟨#[x]⟩ : ByteArray) ++ (⟨(Lib.itoa u).toArray⟩ : ByteArray)) W hs (HRK.out W hC) HKB.out (by exact dig_size x u h0 h1)
  rw [bytesOf_itoa] at this
  exact this
 have hcat : ¬ 9223372036854775807 < 1 + (Lib.itoa u).length := by have := HIL.out; omega
 have HSB : Hid (sealB N k u b = putBytes N ++ strm (kGo (drv k ([101] ++ itoaB u)) 160) (putBytes N ++ z8) b ++ (hmac (drv k ([109] ++ itoaB u)) (putBytes N ++ strm (kGo (drv k ([101] ++ itoaB u)) 160) (putBytes N ++ z8) b)).take 16) := Lib.hid rfl
 obtain ⟨km, hkm⟩ : ∃ km, km = drv k ([109] ++ itoaB u) := ⟨_, rfl⟩
 obtain ⟨ke, hke⟩ : ∃ ke, ke = drv k ([101] ++ itoaB u) := ⟨_, rfl⟩
 obtain ⟨num, hnum⟩ : ∃ num, num = putBytes N := ⟨_, rfl⟩
 have HKM : Hid (km.length = 16 ∧ Bs km ∧ ke.length = 16 ∧ Bs ke) := Lib.hid ⟨by rw [hkm]; exact drv_len _ _, by rw [hkm]; exact (hmac_b _ _).take _, by rw [hke]; exact drv_len _ _, by rw [hke]; exact (hmac_b _ _).take _⟩
 have HPN : Hid (num.length = 8 ∧ Bs num) := Lib.hid (by rw [hnum]; exact ⟨putBytes_length _, putBytes_bs _⟩)
 rw [← hkm, ← hke, ← hnum] at HSB
 obtain ⟨inn, hinn⟩ : ∃ inn, inn = strm (kGo ke 160) (num ++ z8) b := ⟨_, rfl⟩
 rw [← hinn] at HSB
 have HIN : Hid (inn.length = n ∧ Bs inn) := Lib.hid ⟨by rw [hinn, strm_len]; exact HBL.out, by rw [hinn]; exact strm_bs _ _ _⟩
 have HIE := Lib.hid hinn
 obtain ⟨hm, hhm⟩ : ∃ hm, hm = hmac km (num ++ inn) := ⟨_, rfl⟩
 have HHL : Hid (hm.length = 32 ∧ Bs hm) := Lib.hid ⟨by rw [hhm]; exact hmac_len _ _, by rw [hhm]; exact hmac_b _ _⟩
 rw [← hhm] at HSB
 have HME := Lib.hid hhm
 have HNU := Lib.hid hnum
 have HKME := Lib.hid hkm
 have HKEE := Lib.hid hke
 clear hk hkb hr hbb hkm hke hnum hinn hhm
 go_enter Tryd.func11, Tryd.ntmps11
 go_wp2_with fail
 have HX := ks_any w
 with_reducible refine HX.mono ?_
 clear HX
 rintro e w1 ⟨v, rfl, ho, hb⟩
 obtain ⟨As, cs, rfl, -⟩ := q_slice (q_of_own ho)
 have HC1 : Hid (Ch (fun _ => False) w w1) := Lib.hid (Ch.of_below hb)
 have HS1 := Lib.hid (rd_own ho)
 clear ho hb
 go_wp2_with fail
 have HX := rput_any N w1 hN0 (by omega)
 rw [← HNU.out] at HX
 with_reducible refine HX.mono ?_
 clear HX
 rintro e w2 ⟨v, rfl, ho, hb⟩
 obtain ⟨Ap, cp, rfl, -⟩ := q_slice (q_of_own ho)
 have hc := Ch.of_below (S := fun _ => False) hb
 have HC2 := Lib.hid (HC1.out.trans hc)
 have HS2 := Lib.hid (hc.reads HS1.out (fun _ _ h => h))
 have HP2 := Lib.hid (rd_own ho)
 clear ho hb hc HC1 HS1
 go_wp2_with fail
 have HX := digits_any u w2 h0 h1
 with_reducible refine HX.mono ?_
 clear HX
 rintro e w3 ⟨rfl, rfl⟩
 go_wp2_with fail
 have HX := HDV.out 101 As cs w2 HS2.out HC2.out
 with_reducible refine HX.mono ?_
 clear HX
 rintro e w3 ⟨ae, ce, rfl, hr, hb, hce⟩
 rw [show ((101 : UInt8).toNat : Int) = 101 from rfl, ← HKEE.out] at hr
 have hc := Ch.of_below (S := fun _ => False) hb
 have HC3 := Lib.hid (HC2.out.trans hc)
 have HS3 := Lib.hid (hc.reads HS2.out (fun _ _ h => h))
 have HP3 := Lib.hid (hc.reads HP2.out (fun _ _ h => h))
 have HE3 := Lib.hid hr
 clear hr hb hc HC2 HS2 HP2
 go_wp2_with fail
 have HX := digits_any u w3 h0 h1
 with_reducible refine HX.mono ?_
 clear HX
 rintro e w4 ⟨rfl, rfl⟩
 go_wp2_with fail
 have HX := HDV.out 109 As cs w3 HS3.out HC3.out
 with_reducible refine HX.mono ?_
 clear HX
 rintro e w4 ⟨am, cm, rfl, hr, hb, hcm⟩
 rw [show ((109 : UInt8).toNat : Int) = 109 from rfl, ← HKME.out] at hr
 have hc := Ch.of_below (S := fun _ => False) hb
 have HC4 := Lib.hid (HC3.out.trans hc)
 have HS4 := Lib.hid (hc.reads HS3.out (fun _ _ h => h))
 have HP4 := Lib.hid (hc.reads HP3.out (fun _ _ h => h))
 have HE4 := Lib.hid (hc.reads HE3.out (fun _ _ h => h))
 have HM4 := Lib.hid hr
 have HO4 : Hid ((w4.alloc (.cells #[] 5)).ownsRow w4.heap.size 5 1 (.slice (some ⟨w4.heap.size, 0, none⟩) 0 0) ([] : List Int).length (nums .u8 [])) := Lib.hid (own_lit w4 w4.heap.size 5 .u8 [] (Nat.le_refl _) (by decide))
 have HCA : Hid (Ch (fun _ => False) w4 (w4.alloc (.cells #[] 5))) := Lib.hid ((Ch.refl _ _).alloc _)
 clear hr hb hc HC3 HS3 HP3 HE3
 go_wp2_with first
  | (at_builtin; (refine print_append_row (w0 := w4) w4.heap.size rfl (.tmp 30) (.tmp 31) 23 5 .u8 1 rfl Tryd.underlying23 info_u8 (by decide) (.slice (some ⟨w4.heap.size, 0, none⟩) 0 0) [] num Ap 8 cp rfl rfl HO4.out (HCA.out.reads HP4.out (fun _ _ h => h)) HCA.out.below HCA.out.size (by decide) ?_; intro v5 w5 ho5 hb5 _ _; rw [List.nil_append, HPN.out.1] at ho5; obtain ⟨A5, c5, rfl⟩ := own_slice ho5; have HO5 := Lib.hid ho5; have HB5 := Lib.hid hb5; clear ho5 hb5))
  | (at_builtin; (refine print_append_row (w0 := w4) w4.heap.size rfl (.tmp 32) (.tmp 33) 23 5 .u8 1 rfl Tryd.underlying23 info_u8 (by decide) (.slice A5 8 c5) num z8 (some ⟨w5.heap.size, 0, none⟩) 8 8 rfl rfl (by rw [HPN.out.1]; exact HO5.out.alloc _) (lit_reads w5 z8 (by decide)) ((Ch.of_below (S := fun _ => False) HB5.out).alloc _).below (by have := HB5.out.size; simp; omega) (by rw [HPN.out.1]; decide) ?_; intro v6 w6 ho6 hb6 _ _; rw [List.length_append, HPN.out.1, show 8 + z8.length = 16 from rfl] at ho6; obtain ⟨A6, c6, rfl, h6⟩ := q_slice (q_of_own ho6); have HR6 := Lib.hid (rd_own ho6); have HB6 := Lib.hid hb6; have H6 : Hid (16 ≤ c6) := Lib.hid h6; have HO6 : Hid ((w6.alloc (.cells #[] 5)).ownsRow w6.heap.size 5 1 (.slice (some ⟨w6.heap.size, 0, none⟩) 0 0) ([] : List Int).length (nums .u8 [])) := Lib.hid (own_lit w6 w6.heap.size 5 .u8 [] (Nat.le_refl _) (by decide)); have HCB : Hid (Ch (fun _ => False) w6 (w6.alloc (.cells #[] 5))) := Lib.hid ((Ch.refl _ _).alloc _); clear ho6 hb6 h6))
  | (at_builtin; (refine print_append_row (w0 := w6) w6.heap.size rfl (.tmp 35) (.tmp 36) 23 5 .u8 1 rfl Tryd.underlying23 info_u8 (by decide) (.slice (some ⟨w6.heap.size, 0, none⟩) 0 0) [] num Ap 8 cp rfl rfl HO6.out (((Ch.of_below (S := fun _ => False) HB6.out).trans HCB.out).reads HP4.out (fun _ _ h => h)) HCB.out.below HCB.out.size (by decide) ?_; intro v7 w7 ho7 hb7 _ _; rw [List.nil_append, HPN.out.1] at ho7; obtain ⟨A7, c7, rfl⟩ := own_slice ho7; have HO7 := Lib.hid ho7; have HB7 := Lib.hid hb7; clear ho7 hb7))
 have hc := (Ch.of_below (S := fun _ => False) HB6.out).trans (Ch.of_below HB7.out)
 have HC7 := Lib.hid (HC4.out.trans hc)
 have HS7 := Lib.hid (hc.reads HS4.out (fun _ _ h => h))
 have HE7 := Lib.hid (hc.reads HE4.out (fun _ _ h => h))
 have HM7 := Lib.hid (hc.reads HM4.out (fun _ _ h => h))
 have HF7 := Lib.hid ((Ch.of_below (S := fun _ => False) HB7.out).reads HR6.out (fun _ _ h => h))
 have HC6 := Lib.hid (HC4.out.trans (Ch.of_below (S := fun _ => False) HB6.out))
 have HS6 := Lib.hid ((Ch.of_below (S := fun _ => False) HB6.out).reads HS4.out (fun _ _ h => h))
 have HM6 := Lib.hid ((Ch.of_below (S := fun _ => False) HB6.out).reads HM4.out (fun _ _ h => h))
 have HLW : Hid (w.heap.size ≤ w6.heap.size) := Lib.hid (by have := HC4.out.size; have := HB6.out.size; omega)
 clear hc HC4 HS4 HE4 HM4 HP4 HR6 HO4 HCA HO5 HB5 HB6 HO6 HCB
 have HX := boxes5_any w7
 with_reducible refine HX.mono ?_
 clear HX
 rintro e w8 ⟨v8, rfl, ho, hb⟩
 obtain ⟨A8, c8, rfl, h8⟩ := q_slice (q_of_own ho)
 have hc := Ch.of_below (S := fun _ => False) hb
 have HC8 := Lib.hid (HC7.out.trans hc)
 have HS8 := Lib.hid (hc.reads HS7.out (fun _ _ h => h))
 have HE8 := Lib.hid (hc.reads HE7.out (fun _ _ h => h))
 have HM8 := Lib.hid (hc.reads HM7.out (fun _ _ h => h))
 have HF8 := Lib.hid (hc.reads HF7.out (fun _ _ h => h))
 have HO8 := Lib.hid (own_kept HO7.out hb)
 have HB8 := Lib.hid ((Ch.of_below (S := fun _ => False) HB7.out).trans hc)
 have HX8 := Lib.hid (rd_own ho)
 clear ho hb hc HC7 HS7 HE7 HM7 HF7 HO7 HB7
 go_wp2_with fail
 have HX := rstream_any ke (num ++ z8) b A8 (some ae) A6 Ab c8 ce c6 cb n w8 HX8.out HE8.out HF8.out (HRB.out _ HC8.out) h8 hce H6.out hnc HKM.out.2.2.2 (HPN.out.2.append (by unfold Bs; decide)) (by omega)
 rw [← HIE.out] at HX
 with_reducible refine HX.mono ?_
 clear HX
 rintro e w9 ⟨v9, rfl, ho, hb⟩
 obtain ⟨A9, c9, rfl⟩ := own_slice ho
 have hc := Ch.of_below (S := fun _ => False) hb
 have HC9 := Lib.hid (HC8.out.trans hc)
 have HS9 := Lib.hid (hc.reads HS8.out (fun _ _ h => h))
 have HM9 := Lib.hid (hc.reads HM8.out (fun _ _ h => h))
 have HO9 := Lib.hid (own_kept HO8.out hb)
 have HB9 := Lib.hid (HB8.out.trans hc)
 have HI9 := Lib.hid (rd_own ho)
 clear ho hb hc HC8 HS8 HE8 HM8 HF8 HO8 HB8 HX8 H6
 go_wp2_with first
  | (at_builtin; (refine print_append_row (w0 := w6) w6.heap.size rfl (.tmp 37) (.tmp 42) 23 5 .u8 1 rfl Tryd.underlying23 info_u8 (by decide) (.slice A7 8 c7) num inn A9 n c9 rfl rfl (by rw [HPN.out.1]; exact HO9.out) HI9.out HB9.out.below HB9.out.size (by rw [HPN.out.1]; omega) ?_; intro v10 w10 ho10 hb10 _ _; rw [List.length_append, HPN.out.1, HIN.out.1] at ho10; obtain ⟨A10, c10, rfl⟩ := own_slice ho10; have HO10 := Lib.hid ho10; have HB10 := Lib.hid hb10; clear ho10 hb10))
 have hc := Ch.of_below (S := fun _ => False) HB10.out
 have HX := rsum_any As (some am) A10 cs cm c10 16 (8 + n) km (num ++ inn) w10 (hc.reads HS6.out (fun _ _ h => h)) (hc.reads HM6.out (fun _ _ h => h)) (rd_own HO10.out) (by decide) (by omega) HKM.out.2.1 (HPN.out.2.append HIN.out.2)
 rw [← HME.out] at HX
 with_reducible refine HX.mono ?_
 clear HX hc
 rintro e w11 ⟨A11, c11, rfl, hr, hb, h32⟩
 have h16 : (16 : Int) ≤ c11 := by omega
 obtain ⟨a11, rfl, -⟩ := hr.2.2 (by omega)
 have HR11 := Lib.hid (reads_take hr (show 16 ≤ 32 by omega))
 have HO11 := Lib.hid (own_kept HO10.out hb)
 have HB11 := Lib.hid ((Ch.of_below (S := fun _ => False) HB10.out).trans (Ch.of_below hb))
 have HXL : Hid ((num ++ inn).length = 8 + n) := Lib.hid (by rw [List.length_append, HPN.out.1, HIN.out.1])
 have HXT : Hid ((hm.take 16).length = 16) := Lib.hid (by rw [List.length_take, HHL.out.1]; rfl)
 have HXN : Hid (8 + n + 16 = n + 24) := Lib.hid (by omega)
 clear hr hb h32 HO10 HB10
 go_wp2_with first
  | (at_builtin; (refine print_append_row (w0 := w6) w6.heap.size rfl (.tmp 44) (.tmp 49) 23 5 .u8 1 rfl Tryd.underlying23 info_u8 (by decide) (.slice A10 (8 + n) c10) (num ++ inn) (hm.take 16) (some a11) 16 c11 rfl rfl (by rw [HXL.out]; exact HO11.out) HR11.out HB11.out.below HB11.out.size (by rw [HXL.out]; omega) ?_; intro v12 w12 ho12 hb12 _ _; rw [List.length_append, HXL.out, HXT.out, HXN.out, ← HSB.out] at ho12; obtain ⟨A12, c12, rfl⟩ := own_slice ho12; obtain ⟨a12, rfl, -⟩ := (rd_own ho12).2.2 (by omega); have HR12 := Lib.hid (rd_own ho12); have HB12 := Lib.hid hb12; clear ho12 hb12))
 go_ret
 exact ⟨a12, c12, rfl, HR12.out, (HC6.out.trans (Ch.of_below HB12.out)).below⟩
end Go.Proofs.YtejhjlfakfaegaaDoor
set_option linter.unusedSimpArgs false
set_option linter.unusedVariables false
namespace Go.Proofs.YtejhjlfakfaegaaDoor
open Go.RowKit Go.Proofs.YtejhjlfakfaegaaDoorW.PrintWords

/-- bytes that are read do not lie in a tape -/
theorem real_apart {w : World} {g : Nat} {A : Option Addr} {c : Nat} {seed : List Int} {ks bs : Int} (h : RealAt w g A c seed ks bs) {A' : Option Addr} {n : Nat} {l : List Int} (hr : ReadsInt w .u8 A' n l) : ∀ a, A' = some a → 0 < n → ¬ a.block = g := by
 intro a ha hn e
 obtain ⟨a', ha', hc⟩ := hr.2.2 hn
 rw [ha] at ha'
 injection ha' with ha'
 subst ha'
 have h0 := hc 0 hn
 have hg := h.here
 rw [← e] at hg
 rw [show a.add 0 = a by simp [Addr.add]] at h0
 unfold World.cell? at h0
 rw [hg] at h0
 dsimp only at h0
 split at h0
 ·cases h0
 ·rcases ho : a.off with _ | _ | _ | o <;> rw [ho] at h0 <;> simp at h0
theorem RealAt.other {w w' : World} {g g' : Nat} {A A' : Option Addr} {c c' : Nat} {seed seed' : List Int} {ks bs ks' bs' : Int} (h : RealAt w g A c seed ks bs) (h' : RealAt w g' A' c' seed' ks' bs') (hc : Ch (fun i => i = g') w w') (hne : ¬ g = g') : RealAt w' g A c seed ks bs :=
 ⟨hc.blk h.here hne, hc.reads' h.reads (real_apart h' h.reads), h.low, h.apart, h.b, h.len⟩
theorem and7 (q : Int) : ∃ m : Nat, m ≤ 7 ∧ bits .and .i64 q 7 = (m : Int) := by
 refine ⟨((BitVec.ofInt 64 q) &&& (BitVec.ofInt 64 7)).toNat, ?_, ?_⟩
 ·rw [BitVec.toNat_and]
  exact Nat.and_le_right
 ·show IntKind.i64.wrap (((BitVec.ofInt 64 q) &&& (BitVec.ofInt 64 7)).toNat : Int) = _
  have : ((BitVec.ofInt 64 q) &&& (BitVec.ofInt 64 7)).toNat ≤ 7 := by rw [BitVec.toNat_and]; exact Nat.and_le_right
  rw [IntKind.wrap_i64]
  omega
theorem seal_ne (i : Nat) (hi : i ≤ 7) (k : List Int) (u : Int) (b : List Int) : sealB ((i : Int) + 1) k u b ≠ (if i = 0 then [] else sealB (i : Int) k u b) := by
 intro h
 by_cases h0 : i = 0
 ·rw [if_pos h0] at h
  have := congrArg List.length h
  rw [sealB_len] at this
  simp at this
 ·rw [if_neg h0] at h
  have := congrArg (fun l => nt l 7) h
  simp only [seal_at7, putAt] at this
  omega
set_option maxRecDepth 100000 in
set_option maxHeartbeats 8000000 in
theorem sealApart_any (As : Option Addr) (ns cs : Nat) (seed : List Int) (k : List Int) (Ab : Option Addr) (nb cb : Nat) (b : List Int) (q : Int) (w : World) (hs : ReadsInt w .u8 As ns seed) (hsb : Bs seed) (hk : k.length = 16) (hkb : Bs k) (hr : ReadsInt w .u8 Ab nb b) (hbb : Bs b) (hnc : nb ≤ cb) (h0 : -9223372036854775808 ≤ q) (h1 : q ≤ 9223372036854775807) (ht : Tab w) :
  Calls Tryd.prog 4 #[.slice As ns cs, .agg (nums .u8 k).toArray, .slice Ab nb cb, .int .i64 q] w fun e w' => e = .returned (.bool true) ∧ Below w.heap.size w w' := by
 have HSR : Hid (∀ W, Ch (fun _ => False) w W → ReadsInt W .u8 As ns seed) := Lib.hid fun W hC => hC.reads hs (fun _ _ h => h)
 have HBR : Hid (∀ W, Ch (fun _ => False) w W → ReadsInt W .u8 Ab nb b) := Lib.hid fun W hC => hC.reads hr (fun _ _ h => h)
 have HSL := Lib.hid hs.1
 have HBL := Lib.hid hr.1
 have HSB := Lib.hid hsb
 have HK := Lib.hid hk
 have HKB := Lib.hid hkb
 have HBB := Lib.hid hbb
 have HTW : Hid (∀ W, Ch (fun _ => False) w W → Tab W) := Lib.hid fun W hC => tab_ch hC (fun h => h) ht
 have HL0 := Lib.hid (tab_lt ht)
 have hm1 := hs.2.1
 have hm2 := hr.2.1
 obtain ⟨m, hm7, hand⟩ := and7 q
 clear hs hr hsb hk hkb hbb ht
 go_enter Tryd.func4, Tryd.ntmps4
 go_wp2_with fail
 refine call_named fun w1 hw1 => ?_
 have hC1 : Ch (fun _ => False) w w1 := by rw [hw1]; exact (Ch.refl _ _).alloc _
 have hK1 : w1.heap[w.heap.size]? = some (.cells (nums .u8 k).toArray 22 (0, 0)) := by rw [hw1]; exact heap_alloc_new _ _
 obtain ⟨gk, hgk⟩ : ∃ gk, w.heap.size = gk := ⟨_, rfl⟩
 rw [hgk] at hK1 ⊢
 have HGK := Lib.hid hgk
 have HC1 := Lib.hid hC1
 have HK1 := Lib.hid hK1
 clear hw1 hC1 hK1 hgk
 have HX := alive6_any w1 (HTW.out _ HC1.out)
 with_reducible refine HX.mono ?_
 clear HX
 rintro e w2 ⟨rfl, hb⟩
 have hc := Ch.of_below (S := fun _ => False) hb
 have HC2 := Lib.hid (HC1.out.trans hc)
 have HK2 := Lib.hid (hc.blk HK1.out (fun h => h))
 clear hb hc HC1 HK1
 by_cases hbig : 100 < ns
 ·have hbd : decide (100 < (ns : Int)) = true := by simp; omega
  go_wp2
  all_goals
   go_ret
   exact ⟨rfl, HC2.out.below⟩
 by_cases hbig2 : 100 < nb
 ·have hbd : decide (100 < (ns : Int)) = false := by simp; omega
  have hbd2 : decide (100 < (nb : Int)) = true := by simp; omega
  go_wp2
  all_goals
   go_ret
   exact ⟨rfl, HC2.out.below⟩
 have hbd : decide (100 < (ns : Int)) = false := by simp; omega
 have hbd2 : decide (100 < (nb : Int)) = false := by simp; omega
 go_wp2_with fail
 have HX := snew_any As ns cs seed w2 (HSR.out _ HC2.out) HSB.out (by omega) (by have := HC2.out.size; have := HL0.out; omega)
 with_reducible refine HX.mono ?_
 clear HX
 rintro e w3 ⟨g1, A1, c1, rfl, hR, hg, hc⟩
 have HG1 : Hid (gk < g1 ∧ w.heap.size ≤ g1) := Lib.hid (by have := blk_lt HK2.out; have := HC2.out.size; omega)
 have HC3 := Lib.hid (HC2.out.trans hc)
 have HK3 := Lib.hid (HK2.out |> fun h => hc.blk h (fun h => h))
 clear hc HC2 HK2
 have HX3 := Lib.hid hR
 clear hR hg
 have HOE : Hid ((w3.alloc (.cells #[] 5)).ownsRow w3.heap.size 5 1 (.slice (some ⟨w3.heap.size, 0, none⟩) 0 0) ([] : List Int).length (nums .u8 [])) := Lib.hid (own_lit w3 w3.heap.size 5 .u8 [] (Nat.le_refl _) (by decide))
 have HCE : Hid (Ch (fun _ => False) w3 (w3.alloc (.cells #[] 5))) := Lib.hid ((Ch.refl _ _).alloc _)
 have HSN : Hid (([] ++ seed : List Int).length = ns) := Lib.hid (by rw [List.nil_append]; exact HSL.out)
 go_wp2_with first
  | (at_builtin; (refine print_append_row (w0 := w3) w3.heap.size rfl (.tmp 31) (.tmp 32) 23 5 .u8 1 rfl Tryd.underlying23 info_u8 (by decide) (.slice (some ⟨w3.heap.size, 0, none⟩) 0 0) [] seed As ns cs rfl rfl HOE.out (HSR.out _ (HC3.out.trans HCE.out)) HCE.out.below HCE.out.size (by simp; omega) ?_; intro v4 w4 ho4 hb4 _ _; rw [HSN.out, List.nil_append] at ho4; obtain ⟨A4, c4, rfl⟩ := own_slice ho4; have HO4 := Lib.hid ho4; have hc := Ch.of_below (S := fun _ => False) hb4; clear ho4 hb4))
 have HC4 := Lib.hid (HC3.out.trans hc)
 have HK4 := Lib.hid (HK3.out |> fun h => hc.blk h (fun h => h))
 have HX4 := Lib.hid (HX3.out.ch hc)
 clear hc HC3 HK3 HX3
 have HX := snew_any A4 ns c4 seed w4 (rd_own HO4.out) HSB.out (by omega) (by have := HC4.out.size; have := HL0.out; omega)
 with_reducible refine HX.mono ?_
 clear HX
 rintro e w5 ⟨g2, A2, c2, rfl, hR, hg, hc⟩
 have HG : Hid (gk < g1 ∧ g1 < g2 ∧ w.heap.size ≤ g1 ∧ w.heap.size ≤ g2) := Lib.hid (by have := blk_lt HX4.out.here; have := HG1.out; omega)
 have HC5 := Lib.hid (HC4.out.trans hc)
 have HK5 := Lib.hid (HK4.out |> fun h => hc.blk h (fun h => h))
 have HX5 := Lib.hid (HX4.out.ch hc)
 clear hc HC4 HK4 HX4
 have HY5 := Lib.hid hR
 clear hR hg HO4 HOE HCE HSN HG1
 go_wp2_with fail
 have HLE : Hid (ReadsInt (w5.alloc (.cells #[] 5)) .u8 (some ⟨w5.heap.size, 0, none⟩) 0 []) := Lib.hid ⟨rfl, by decide, fun h => by omega⟩
 have hc : Ch (fun _ => False) w5 (w5.alloc (.cells #[] 5)) := (Ch.refl _ _).alloc _
 have HC6 := Lib.hid (HC5.out.trans hc)
 have HK6 := Lib.hid (HK5.out |> fun h => hc.blk h (fun h => h))
 have HX6 := Lib.hid (HX5.out.ch hc)
 have HY6 := Lib.hid (HY5.out.ch hc)
 clear hc HC5 HK5 HX5 HY5
 go_loopw [11, 38] (fun l i wr => ∃ (j : Nat) (Al : Option Addr) (nl cl : Nat), j ≤ m ∧ i = .int .i64 (j : Int) ∧ l = .slice Al nl cl ∧ ReadsInt wr .u8 Al nl (if j = 0 then [] else sealB (j : Int) k 5 b) ∧ RealAt wr g1 A1 c1 seed (j : Int) (j : Int) ∧ RealAt wr g2 A2 c2 seed (j : Int) 0 ∧ wr.heap[gk]? = some (.cells (nums .u8 k).toArray 22 (0, 0)) ∧ Ch (fun _ => False) w wr) (fun _ i _ => m - (intOf i).toNat)
 case atStart => exact ⟨0, _, _, _, by omega, rfl, rfl, HLE.out, HX6.out, HY6.out, HK6.out, HC6.out⟩
 case round =>
  obtain ⟨j, Al, nl, cl, hj, rfl, rfl, hl, hX, hY, hK, hC⟩ := hrel
  clear HLE HC6 HK6 HX6 HY6
  obtain ⟨w10, rfl⟩ : ∃ W, W = wr := ⟨_, rfl⟩
  have HL10 := Lib.hid hl
  have HX10 := Lib.hid hX
  have HY10 := Lib.hid hY
  have HK10 := Lib.hid hK
  have HC10 := Lib.hid hC
  clear hl hX hY hK hC
  by_cases hlt : j < m
  ·have HNE := Lib.hid (seal_ne j (by omega) k 5 b)
   obtain ⟨ll, hll⟩ : ∃ ll, ll = (if j = 0 then [] else sealB (j : Int) k 5 b) := ⟨_, rfl⟩
   rw [← hll] at HNE HL10
   have HFK : Hid ((freshK seed ((j : Int) + 1)).length = 16) := Lib.hid (freshK_len _ _)
   obtain ⟨fk, hfk⟩ : ∃ fk, fk = freshK seed ((j : Int) + 1) := ⟨_, rfl⟩
   rw [← hfk] at HFK
   have HFKE := Lib.hid hfk
   have hse := sseal_any g1 A1 c1 seed (j : Int) (j : Int) k 5 Ab nb cb b w10 HX10.out HK.out HKB.out (by decide) (by decide) (HBR.out _ HC10.out) HBB.out (by omega) (real_apart HX10.out (HBR.out _ HC10.out)) (HTW.out _ HC10.out) (by omega) (by omega)
   have HOS : Hid (openB k 5 (sealB ((j : Int) + 1) k 5 b) = some b) := Lib.hid (open_seal _ _ _ _ HBB.out)
   have HSBS : Hid (Bs (sealB ((j : Int) + 1) k 5 b)) := Lib.hid (sealB_b _ _ _ _)
   have HRS : Hid (∀ W, Ch (fun _ => False) w W → W.heap[gk]? = some (.cells (nums .u8 k).toArray 22 (0, 0)) → Calls Tryd.prog 11 #[.int .u64 ((j : Int) + 1), .slice (some ⟨gk, 0, none⟩) 16 16, .int .i64 5, .slice Ab nb cb] W fun e w' => ∃ a c', e = .returned (.slice (some a) (nb + 24) c') ∧ ReadsInt w' .u8 (some a) (nb + 24) (sealB ((j : Int) + 1) k 5 b) ∧ Below W.heap.size W w') := Lib.hid fun W hC hK => rseal_any ((j : Int) + 1) (some ⟨gk, 0, none⟩) 16 k 5 Ab nb cb b W (by omega) (by omega) (reads_blk hK HK.out (by decide)) HKB.out (by decide) (by decide) (HBR.out _ hC) HBB.out (by omega) hnc
   obtain ⟨bx, hbx⟩ : ∃ bx, bx = sealB ((j : Int) + 1) k 5 b := ⟨_, rfl⟩
   rw [← hbx] at HNE hse HOS HSBS HRS
   have HBXE := Lib.hid hbx
   clear hll hfk hbx
   have HSE := Lib.hid hse
   clear hse
   go_wp2_with first
    | (refine wpList_load_mid rfl 22 (.tmp 5) rfl gk 0 rfl (nums .u8 k) (.array 16 5) (range_nums HK10.out) Tryd.underlying22 rfl (by rw [nums_len, HK.out]; kernel_rfl) ?_)
   have HX := HSE.out
   with_reducible refine HX.mono ?_
   clear HX
   rintro e w11 ⟨ab, cbx, rfl, hR, hA, hc, hcb, -⟩
   have HL11 := Lib.hid (hc.reads' HL10.out (real_apart HX10.out HL10.out))
   have HY11 := Lib.hid (HY10.out.other HX10.out hc (by have := HG.out; omega))
   have HK11 := Lib.hid (HK10.out |> fun h => hc.blk h (by have := HG.out; omega))
   have HC11 := Lib.hid (HC10.out.then_ hc (fun i hi e => by have := HG.out; omega))
   clear hc HL10 HX10 HY10 HK10 HC10
   have HB11 := Lib.hid hR
   have HX11 := Lib.hid hA
   clear hR hA HSE
   go_wp2_with fail
   have HX := same_any (some ab) Al (nb + 24) nl cbx cl bx ll w11 HB11.out HL11.out
   with_reducible refine HX.mono ?_
   clear HX
   rintro e w12 ⟨rfl, q1, hw⟩
   rw [decide_eq_false HNE.out]
   have hc := (show Ch (fun _ => False) w11 w12 by rw [hw]; exact (Ch.refl _ _).drewN q1)
   have HL12 := Lib.hid (hc.reads HL11.out (fun _ _ h => h))
   have HY12 := Lib.hid (HY11.out.ch hc)
   have HK12 := Lib.hid (HK11.out |> fun h => hc.blk h (fun h => h))
   have HC12 := Lib.hid (HC11.out.trans hc)
   have HB12 := Lib.hid (hc.reads HB11.out (fun _ _ h => h))
   have HX12 := Lib.hid (HX11.out.ch hc)
   clear hc HL11 HY11 HK11 HC11 HB11 HX11
   clear hw HNE
   clear HL12
   go_wp2_with fail
   have HX := HRS.out w12 HC12.out HK12.out
   with_reducible refine HX.mono ?_
   clear HX
   rintro e w13 ⟨a13, c13, rfl, hr, hb⟩
   have hc := Ch.of_below (S := fun _ => False) hb
   have HY13 := Lib.hid (HY12.out.ch hc)
   have HK13 := Lib.hid (HK12.out |> fun h => hc.blk h (fun h => h))
   have HC13 := Lib.hid (HC12.out.trans hc)
   have HB13 := Lib.hid (hc.reads HB12.out (fun _ _ h => h))
   have HX13 := Lib.hid (HX12.out.ch hc)
   clear hc HY12 HK12 HC12 HB12 HX12
   have HZ13 := Lib.hid hr
   clear hr hb HRS
   go_wp2_with fail
   have HX := same_yes (some ab) (some a13) (nb + 24) cbx c13 bx w13 HB13.out HZ13.out
   with_reducible refine HX.mono ?_
   clear HX
   rintro e w14 ⟨rfl, q2, hw⟩
   have hc := (show Ch (fun _ => False) w13 w14 by rw [hw]; exact (Ch.refl _ _).drewN q2)
   have HY14 := Lib.hid (HY13.out.ch hc)
   have HK14 := Lib.hid (HK13.out |> fun h => hc.blk h (fun h => h))
   have HC14 := Lib.hid (HC13.out.trans hc)
   have HB14 := Lib.hid (hc.reads HB13.out (fun _ _ h => h))
   have HX14 := Lib.hid (HX13.out.ch hc)
   have HZ14 := Lib.hid (hc.reads HZ13.out (fun _ _ h => h))
   clear hc HY13 HK13 HC13 HB13 HX13 HZ13
   clear hw
   clear HZ14
   go_wp2_with first
    | (refine wpList_load_mid rfl 22 (.tmp 5) rfl gk 0 rfl (nums .u8 k) (.array 16 5) (range_nums HK14.out) Tryd.underlying22 rfl (by rw [nums_len, HK.out]; kernel_rfl) ?_)
   have HX := sopen_any (.pointer (some ⟨g1, 0, none⟩)) k 5 (some ab) (nb + 24) cbx bx w14 HK.out HKB.out (by decide) (by decide) HB14.out HSBS.out hcb (by omega) (HTW.out _ HC14.out)
   with_reducible refine HX.mono ?_
   clear HX
   rintro e w15 ⟨Ai, ni, ci, rfl, hro, hc⟩
   rw [HOS.out] at hro ⊢
   change ReadsInt _ .u8 Ai ni b at hro
   obtain rfl : nb = ni := by rw [← HBL.out]; exact hro.1
   rw [show (some b).isSome = true from rfl]
   have HY15 := Lib.hid (HY14.out.ch hc)
   have HK15 := Lib.hid (HK14.out |> fun h => hc.blk h (fun h => h))
   have HC15 := Lib.hid (HC14.out.trans hc)
   have HB15 := Lib.hid (hc.reads HB14.out (fun _ _ h => h))
   have HX15 := Lib.hid (HX14.out.ch hc)
   clear hc HY14 HK14 HC14 HB14 HX14
   have HI15 := Lib.hid hro
   clear hro
   go_wp2_with first
    | (refine wpList_load_mid rfl 22 (.tmp 5) rfl gk 0 rfl (nums .u8 k) (.array 16 5) (range_nums HK15.out) Tryd.underlying22 rfl (by rw [nums_len, HK.out]; kernel_rfl) ?_)
   have HX := sopen_any (.pointer (some ⟨g2, 0, none⟩)) k 5 (some ab) (nb + 24) cbx bx w15 HK.out HKB.out (by decide) (by decide) HB15.out HSBS.out hcb (by omega) (HTW.out _ HC15.out)
   with_reducible refine HX.mono ?_
   clear HX
   rintro e w16 ⟨Aj, nj, cj, rfl, hro, hc⟩
   rw [HOS.out] at hro ⊢
   change ReadsInt _ .u8 Aj nj b at hro
   obtain rfl : nb = nj := by rw [← HBL.out]; exact hro.1
   rw [show (some b).isSome = true from rfl]
   have HY16 := Lib.hid (HY15.out.ch hc)
   have HK16 := Lib.hid (HK15.out |> fun h => hc.blk h (fun h => h))
   have HC16 := Lib.hid (HC15.out.trans hc)
   have HB16 := Lib.hid (hc.reads HB15.out (fun _ _ h => h))
   have HX16 := Lib.hid (HX15.out.ch hc)
   have HI16 := Lib.hid (hc.reads HI15.out (fun _ _ h => h))
   clear hc HY15 HK15 HC15 HB15 HX15 HI15
   have HJ16 := Lib.hid hro
   clear hro
   go_wp2_with fail
   have HFR : Hid (∀ (g : Nat) (A : Option Addr) (c : Nat) (bs : Int) (W : World), RealAt W g A c seed (j : Int) bs → Calls Tryd.prog 12 #[.pointer (some ⟨g, 0, none⟩)] W fun e w' => e = .returned (.agg (nums .u8 fk).toArray) ∧ RealAt w' g A c seed ((j : Int) + 1) bs ∧ Ch (fun i => i = g) W w') := Lib.hid fun g A c bs W h => by rw [HFKE.out]; exact fresh_any g A c seed (j : Int) bs W h (by omega) (by omega)
   have HX := HFR.out g1 A1 c1 ((j : Int) + 1) w16 HX16.out
   with_reducible refine HX.mono ?_
   clear HX
   rintro e w17 ⟨rfl, hR, hc⟩
   have HY17 := Lib.hid (HY16.out.other HX16.out hc (by have := HG.out; omega))
   have HK17 := Lib.hid (HK16.out |> fun h => hc.blk h (by have := HG.out; omega))
   have HC17 := Lib.hid (HC16.out.then_ hc (fun i hi e => by have := HG.out; omega))
   have HB17 := Lib.hid (hc.reads' HB16.out (real_apart HX16.out HB16.out))
   have HI17 := Lib.hid (hc.reads' HI16.out (real_apart HX16.out HI16.out))
   have HJ17 := Lib.hid (hc.reads' HJ16.out (real_apart HX16.out HJ16.out))
   clear hc HY16 HK16 HC16 HB16 HX16 HI16 HJ16
   have HX17 := Lib.hid hR
   clear hR
   go_wp2_with first
    | (refine wpList_store_blk rfl 35 (.tmp 18) (.tmp 82) rfl w17.heap.size 0 (nums .u8 fk) rfl rfl (nums .u8 (List.replicate 16 0)).toArray 35 (heap_alloc_new w17 _) (by rw [nums_len, HFK.out]; decide) (by rw [nums_len, HFK.out]; kernel_rfl) (nums_one _ _) ?_; intro w18 h8 hc8; (have HQ18 : Hid (w18.heap[w17.heap.size]? = some (.cells (nums .u8 fk).toArray 35 (0, 0))) := Lib.hid (by rw [h8, List.take_zero, List.nil_append, nums_len, HFK.out]; (rw [show List.drop (0 + 16) (nums .u8 (List.replicate 16 0)).toArray.toList = [] by rfl, List.append_nil]))); have HCS : Hid (Ch (fun _ => False) w17 w18) := Lib.hid (((Ch.refl (fun _ => False) w17).alloc _).then_ hc8 (fun i hi e => by omega)); clear h8 hc8)
   obtain ⟨gf, hgf⟩ : ∃ gf, w17.heap.size = gf := ⟨_, rfl⟩
   have hc := HCS.out
   rw [hgf] at HQ18 ⊢
   have HGF : Hid (g2 < gf ∧ gk < gf) := Lib.hid (by have := blk_lt HY17.out.here; have := HG.out; omega)
   have HY18 := Lib.hid (HY17.out.ch hc)
   have HK18 := Lib.hid (HK17.out |> fun h => hc.blk h (fun h => h))
   have HC18 := Lib.hid (HC17.out.trans hc)
   have HB18 := Lib.hid (hc.reads HB17.out (fun _ _ h => h))
   have HI18 := Lib.hid (hc.reads HI17.out (fun _ _ h => h))
   have HJ18 := Lib.hid (hc.reads HJ17.out (fun _ _ h => h))
   have HX18 := Lib.hid (HX17.out.ch hc)
   clear hc HY17 HK17 HC17 HB17 HI17 HJ17 HX17
   clear HCS hgf
   have hkq : ∀ W, (Op.equalIn 10000 35 (.agg (nums .u8 fk).toArray) (.agg (nums .u8 fk).toArray)).run Tryd.prog W = .ok true W := fun W => by rw [key_eq _ _ HFK.out HFK.out, decide_eq_true rfl]
   have huf := Tryd.underlying35
   have hif : (Tryd.prog.info? 35).map (·.size) = some (nums .u8 fk).length := by rw [nums_len, HFK.out]; kernel_rfl
   have ew1 : IntKind.u64.wrap (j : Int) = (j : Int) := by rw [IntKind.wrap_u64]; omega
   have ew2 : IntKind.u64.wrap ((j : Int) + 1) = (j : Int) + 1 := by rw [IntKind.wrap_u64]; omega
   refine wp_region_held_drew (S := fun W => Ch (fun _ => False) w W ∧ W.rangeAt gf 0 (nums .u8 fk)) (by kernel_rfl) ?_ (fun hHeld => ?_)
   ·exact ⟨HC18.out.drew, range_nums HQ18.out⟩
   obtain ⟨w19, hw⟩ : ∃ W, W = w18.drew := ⟨_, rfl⟩
   rw [← hw] at hHeld ⊢
   have hc : Ch (fun _ => False) w18 w19 := by rw [hw]; exact (Ch.refl _ _).drew
   have HQ19 := Lib.hid (HQ18.out |> fun h => hc.blk h (fun h => h))
   have HY19 := Lib.hid (HY18.out.ch hc)
   have HK19 := Lib.hid (HK18.out |> fun h => hc.blk h (fun h => h))
   have HC19 := Lib.hid (HC18.out.trans hc)
   have HB19 := Lib.hid (hc.reads HB18.out (fun _ _ h => h))
   have HI19 := Lib.hid (hc.reads HI18.out (fun _ _ h => h))
   have HJ19 := Lib.hid (hc.reads HJ18.out (fun _ _ h => h))
   have HX19 := Lib.hid (HX18.out.ch hc)
   clear hc HY18 HK18 HC18 HB18 HI18 HJ18 HX18
   clear HQ18
   clear hw
   refine tkp (v := ?_) 0 ?_ ?_
   rotate_left
   ·intro w hSw; (try dsimp only at hSw); go_simp; (first | done | with_reducible rfl)
   try simp only [Act.put, List.getElem_toArray, List.getElem_cons_succ, List.getElem_cons_zero, List.setIfInBounds_toArray, List.set_cons_zero, List.set_cons_succ]
   refine tkp (v := ?_) 1 ?_ ?_
   rotate_left
   ·intro w hSw; (try dsimp only at hSw); go_simp; (first | done | with_reducible rfl)
   try simp only [Act.put, List.getElem_toArray, List.getElem_cons_succ, List.getElem_cons_zero, List.setIfInBounds_toArray, List.set_cons_zero, List.set_cons_succ]
   refine tkp (v := ?_) 2 ?_ ?_
   rotate_left
   ·intro w hSw; (try dsimp only at hSw); go_simp; (first | done | with_reducible rfl)
   try simp only [Act.put, List.getElem_toArray, List.getElem_cons_succ, List.getElem_cons_zero, List.setIfInBounds_toArray, List.set_cons_zero, List.set_cons_succ]
   refine tkp (v := ?_) 3 ?_ ?_
   rotate_left
   ·intro w hSw; (try dsimp only at hSw); go_simp; (first | done | with_reducible rfl)
   try simp only [Act.put, List.getElem_toArray, List.getElem_cons_succ, List.getElem_cons_zero, List.setIfInBounds_toArray, List.set_cons_zero, List.set_cons_succ]
   refine tkp (v := ?_) 4 ?_ ?_
   rotate_left
   ·intro w hSw; (try dsimp only at hSw); go_simp; (first | done | with_reducible rfl)
   try simp only [Act.put, List.getElem_toArray, List.getElem_cons_succ, List.getElem_cons_zero, List.setIfInBounds_toArray, List.set_cons_zero, List.set_cons_succ]
   refine tkp (v := ?_) 5 ?_ ?_
   rotate_left
   ·intro w hSw; (try dsimp only at hSw); go_simp; (first | done | with_reducible rfl)
   try simp only [Act.put, List.getElem_toArray, List.getElem_cons_succ, List.getElem_cons_zero, List.setIfInBounds_toArray, List.set_cons_zero, List.set_cons_succ]
   refine tkp (v := ?_) 6 ?_ ?_
   rotate_left
   ·intro w hSw; (try dsimp only at hSw); go_simp; (first | done | with_reducible rfl)
   try simp only [Act.put, List.getElem_toArray, List.getElem_cons_succ, List.getElem_cons_zero, List.setIfInBounds_toArray, List.set_cons_zero, List.set_cons_succ]
   refine tkp (v := ?_) 7 ?_ ?_
   rotate_left
   ·intro w hSw; (try dsimp only at hSw); go_simp; (first | done | with_reducible rfl)
   try simp only [Act.put, List.getElem_toArray, List.getElem_cons_succ, List.getElem_cons_zero, List.setIfInBounds_toArray, List.set_cons_zero, List.set_cons_succ]
   refine tkp (v := ?_) 8 ?_ ?_
   rotate_left
   ·intro w hSw; (try dsimp only at hSw); go_simp; (first | done | with_reducible rfl)
   try simp only [Act.put, List.getElem_toArray, List.getElem_cons_succ, List.getElem_cons_zero, List.setIfInBounds_toArray, List.set_cons_zero, List.set_cons_succ]
   refine wpAnyH_ready (rs := [9]) (by kernel_rfl) (by simp) ?_
   refine AllReadyH.cons rfl (fun K hK => ?_) AllReadyH.nil
   go_simp
   have HX := same_yes Ai Ab nb ci cb b w19 HI19.out (HBR.out _ HC19.out)
   with_reducible refine HX.mono ?_
   clear HX
   rintro e w20 ⟨rfl, q3, hw⟩
   have hc := (show Ch (fun _ => False) w19 w20 by rw [hw]; exact (Ch.refl _ _).drewN q3)
   have HQ20 := Lib.hid (HQ19.out |> fun h => hc.blk h (fun h => h))
   have HY20 := Lib.hid (HY19.out.ch hc)
   have HK20 := Lib.hid (HK19.out |> fun h => hc.blk h (fun h => h))
   have HC20 := Lib.hid (HC19.out.trans hc)
   have HB20 := Lib.hid (hc.reads HB19.out (fun _ _ h => h))
   have HI20 := Lib.hid (hc.reads HI19.out (fun _ _ h => h))
   have HJ20 := Lib.hid (hc.reads HJ19.out (fun _ _ h => h))
   have HX20 := Lib.hid (HX19.out.ch hc)
   clear hc HY19 HK19 HC19 HB19 HI19 HJ19 HX19
   clear HQ19
   refine hK.out _ _ ⟨HC20.out, range_nums HQ20.out⟩ (fun hHeld => ?_)
   clear hK K
   clear hw
   refine tkp (v := ?_) 10 ?_ ?_
   rotate_left
   ·intro w hSw; (try dsimp only at hSw); go_simp; (first | done | with_reducible rfl)
   try simp only [Act.put, List.getElem_toArray, List.getElem_cons_succ, List.getElem_cons_zero, List.setIfInBounds_toArray, List.set_cons_zero, List.set_cons_succ]
   refine tkp (v := ?_) 11 ?_ ?_
   rotate_left
   ·intro w hSw; (try dsimp only at hSw); go_simp; (first | done | with_reducible rfl)
   try simp only [Act.put, List.getElem_toArray, List.getElem_cons_succ, List.getElem_cons_zero, List.setIfInBounds_toArray, List.set_cons_zero, List.set_cons_succ]
   refine tkp (v := ?_) 12 ?_ ?_
   rotate_left
   ·intro w hSw; (try dsimp only at hSw); go_simp; (first | done | with_reducible rfl)
   try simp only [Act.put, List.getElem_toArray, List.getElem_cons_succ, List.getElem_cons_zero, List.setIfInBounds_toArray, List.set_cons_zero, List.set_cons_succ]
   refine tkp (v := ?_) 13 ?_ ?_
   rotate_left
   ·intro w hSw; (try dsimp only at hSw); go_simp; (first | done | with_reducible rfl)
   try simp only [Act.put, List.getElem_toArray, List.getElem_cons_succ, List.getElem_cons_zero, List.setIfInBounds_toArray, List.set_cons_zero, List.set_cons_succ]
   refine tkp (v := ?_) 14 ?_ ?_
   rotate_left
   ·intro w hSw; (try dsimp only at hSw); go_simp; (first | done | with_reducible rfl)
   try simp only [Act.put, List.getElem_toArray, List.getElem_cons_succ, List.getElem_cons_zero, List.setIfInBounds_toArray, List.set_cons_zero, List.set_cons_succ]
   refine wpAnyH_ready (rs := [15]) (by kernel_rfl) (by simp) ?_
   refine AllReadyH.cons rfl (fun K hK => ?_) AllReadyH.nil
   go_simp
   have HX := same_yes Aj Ab nb cj cb b w20 HJ20.out (HBR.out _ HC20.out)
   with_reducible refine HX.mono ?_
   clear HX
   rintro e w21 ⟨rfl, q4, hw⟩
   have hc := (show Ch (fun _ => False) w20 w21 by rw [hw]; exact (Ch.refl _ _).drewN q4)
   have HQ21 := Lib.hid (HQ20.out |> fun h => hc.blk h (fun h => h))
   have HY21 := Lib.hid (HY20.out.ch hc)
   have HK21 := Lib.hid (HK20.out |> fun h => hc.blk h (fun h => h))
   have HC21 := Lib.hid (HC20.out.trans hc)
   have HB21 := Lib.hid (hc.reads HB20.out (fun _ _ h => h))
   have HI21 := Lib.hid (hc.reads HI20.out (fun _ _ h => h))
   have HJ21 := Lib.hid (hc.reads HJ20.out (fun _ _ h => h))
   have HX21 := Lib.hid (HX20.out.ch hc)
   clear hc HY20 HK20 HC20 HB20 HI20 HJ20 HX20
   clear HQ20
   refine hK.out _ _ ⟨HC21.out, range_nums HQ21.out⟩ (fun hHeld => ?_)
   clear hK K
   clear hw
   clear HI21 HJ21
   refine tkp (v := ?_) 16 ?_ ?_
   rotate_left
   ·intro w hSw; (try dsimp only at hSw); go_simp; (first | done | with_reducible rfl)
   try simp only [Act.put, List.getElem_toArray, List.getElem_cons_succ, List.getElem_cons_zero, List.setIfInBounds_toArray, List.set_cons_zero, List.set_cons_succ]
   refine tkp (v := ?_) 17 ?_ ?_
   rotate_left
   ·intro w hSw; (try dsimp only at hSw); go_simp; (first | done | with_reducible rfl)
   try simp only [Act.put, List.getElem_toArray, List.getElem_cons_succ, List.getElem_cons_zero, List.setIfInBounds_toArray, List.set_cons_zero, List.set_cons_succ]
   refine tkp (v := ?_) 18 ?_ ?_
   rotate_left
   ·intro w hSw; (try dsimp only at hSw); go_simp; (first | done | with_reducible rfl)
   try simp only [Act.put, List.getElem_toArray, List.getElem_cons_succ, List.getElem_cons_zero, List.setIfInBounds_toArray, List.set_cons_zero, List.set_cons_succ]
   refine wpAnyH_take (i := 19) (v := .agg (nums .u8 fk).toArray) rfl (by kernel_rfl) (by kernel_rfl) (by kernel_rfl) (fun _ _ _ h => h) ?_ (by assumption) ?_
   ·refine yieldsIf_load_mid (by rfl) 35 (.tmp 18) rfl gf 0 rfl (nums .u8 fk) _ (fun w hSw => ?_) huf rfl hif
    (try dsimp only at hSw)
    go_split_ands
    assumption
   try simp only [Act.put, List.getElem_toArray, List.getElem_cons_succ, List.getElem_cons_zero, List.setIfInBounds_toArray, List.set_cons_zero, List.set_cons_succ]
   refine tkp (v := ?_) 20 ?_ ?_
   rotate_left
   ·intro w hSw; (try dsimp only at hSw); go_simp; (first | done | with_reducible rfl)
   try simp only [Act.put, List.getElem_toArray, List.getElem_cons_succ, List.getElem_cons_zero, List.setIfInBounds_toArray, List.set_cons_zero, List.set_cons_succ]
   refine wpAnyH_ready (rs := [21]) (by kernel_rfl) (by simp) ?_
   refine AllReadyH.cons rfl (fun K hK => ?_) AllReadyH.nil
   go_simp
   have HX := HFR.out g2 A2 c2 0 w21 HY21.out
   with_reducible refine HX.mono ?_
   clear HX
   rintro e w22 ⟨rfl, hR, hc⟩
   have HQ22 := Lib.hid (HQ21.out |> fun h => hc.blk h (by have := HGF.out; have := HG.out; omega))
   have HK22 := Lib.hid (HK21.out |> fun h => hc.blk h (by have := HG.out; omega))
   have HC22 := Lib.hid (HC21.out.then_ hc (fun i hi e => by have := HG.out; omega))
   have HB22 := Lib.hid (hc.reads' HB21.out (real_apart HY21.out HB21.out))
   have HX22 := Lib.hid (HX21.out.other HY21.out hc (by have := HG.out; omega))
   clear hc HY21 HK21 HC21 HB21 HX21
   clear HQ21
   have HY22 := Lib.hid hR
   refine hK.out _ _ ⟨HC22.out, range_nums HQ22.out⟩ (fun hHeld => ?_)
   clear hK K
   clear hR
   refine tkp (v := ?_) 22 ?_ ?_
   rotate_left
   ·intro w hSw; (try dsimp only at hSw); go_simp; (first | done | with_reducible rfl)
   try simp only [Act.put, List.getElem_toArray, List.getElem_cons_succ, List.getElem_cons_zero, List.setIfInBounds_toArray, List.set_cons_zero, List.set_cons_succ]
   refine tkp (v := ?_) 23 ?_ ?_
   rotate_left
   ·intro w hSw; (try dsimp only at hSw); go_simp; (first | done | with_reducible rfl)
   try simp only [Act.put, List.getElem_toArray, List.getElem_cons_succ, List.getElem_cons_zero, List.setIfInBounds_toArray, List.set_cons_zero, List.set_cons_succ]
   refine tkp (v := ?_) 24 ?_ ?_
   rotate_left
   ·intro w hSw; (try dsimp only at hSw); go_simp; (first | done | with_reducible rfl)
   try simp only [Act.put, List.getElem_toArray, List.getElem_cons_succ, List.getElem_cons_zero, List.setIfInBounds_toArray, List.set_cons_zero, List.set_cons_succ]
   refine tkp (v := ?_) 25 ?_ ?_
   rotate_left
   ·intro w hSw; (try dsimp only at hSw); go_simp; (first | done | with_reducible rfl)
   try simp only [Act.put, List.getElem_toArray, List.getElem_cons_succ, List.getElem_cons_zero, List.setIfInBounds_toArray, List.set_cons_zero, List.set_cons_succ]
   refine tkp (v := ?_) 26 ?_ ?_
   rotate_left
   ·intro w hSw; (try dsimp only at hSw); go_simp; (first | done | with_reducible rfl)
   try simp only [Act.put, List.getElem_toArray, List.getElem_cons_succ, List.getElem_cons_zero, List.setIfInBounds_toArray, List.set_cons_zero, List.set_cons_succ]
   refine tkp (v := ?_) 27 ?_ ?_
   rotate_left
   ·intro w hSw; (try dsimp only at hSw); go_simp; (first | done | with_reducible rfl)
   try simp only [Act.put, List.getElem_toArray, List.getElem_cons_succ, List.getElem_cons_zero, List.setIfInBounds_toArray, List.set_cons_zero, List.set_cons_succ]
   refine tkp (v := ?_) 28 ?_ ?_
   rotate_left
   ·intro w hSw; (try dsimp only at hSw); go_simp; (first | done | with_reducible rfl)
   try simp only [Act.put, List.getElem_toArray, List.getElem_cons_succ, List.getElem_cons_zero, List.setIfInBounds_toArray, List.set_cons_zero, List.set_cons_succ]
   refine tkp (v := ?_) 29 ?_ ?_
   rotate_left
   ·intro w hSw; (try dsimp only at hSw); go_simp; (first | done | with_reducible rfl)
   try simp only [Act.put, List.getElem_toArray, List.getElem_cons_succ, List.getElem_cons_zero, List.setIfInBounds_toArray, List.set_cons_zero, List.set_cons_succ]
   clear ew1 ew2
   refine wpAnyH_ready (rs := [30]) (by kernel_rfl) (by simp) ?_
   refine AllReadyH.cons rfl (fun K hK => ?_) AllReadyH.nil
   go_simp
   have HX := rfresh_any As ns cs seed ((j : Int) + 1) w22 (HSR.out _ HC22.out) HSB.out (by omega) (by omega) (by omega)
   with_reducible refine HX.mono ?_
   clear HX
   rintro e w23 ⟨a23, c23, rfl, hr, hb⟩
   rw [← HFKE.out] at hr
   have hc := Ch.of_below (S := fun _ => False) hb
   have HQ23 := Lib.hid (HQ22.out |> fun h => hc.blk h (fun h => h))
   have HK23 := Lib.hid (HK22.out |> fun h => hc.blk h (fun h => h))
   have HC23 := Lib.hid (HC22.out.trans hc)
   have HB23 := Lib.hid (hc.reads HB22.out (fun _ _ h => h))
   have HX23 := Lib.hid (HX22.out.ch hc)
   have HY23 := Lib.hid (HY22.out.ch hc)
   clear hc HK22 HC22 HB22 HX22 HY22
   clear HQ22
   have HZ23 := Lib.hid hr
   refine hK.out _ _ ⟨HC23.out, range_nums HQ23.out⟩ (fun hHeld => ?_)
   clear hK K
   clear hr hb
   refine wpAnyH_ready (rs := [31]) (by kernel_rfl) (by simp) ?_
   refine AllReadyH.cons rfl (fun K hK => ?_) AllReadyH.nil
   go_simp
   have HX := same_yes (some ⟨gf, 0, none⟩) (some a23) 16 16 c23 fk w23 (reads_blk HQ23.out HFK.out (by decide)) HZ23.out
   with_reducible refine HX.mono ?_
   clear HX
   rintro e w24 ⟨rfl, q5, hw⟩
   have hc := (show Ch (fun _ => False) w23 w24 by rw [hw]; exact (Ch.refl _ _).drewN q5)
   have HQ24 := Lib.hid (HQ23.out |> fun h => hc.blk h (fun h => h))
   have HK24 := Lib.hid (HK23.out |> fun h => hc.blk h (fun h => h))
   have HC24 := Lib.hid (HC23.out.trans hc)
   have HB24 := Lib.hid (hc.reads HB23.out (fun _ _ h => h))
   have HX24 := Lib.hid (HX23.out.ch hc)
   have HY24 := Lib.hid (HY23.out.ch hc)
   have HZ24 := Lib.hid (hc.reads HZ23.out (fun _ _ h => h))
   clear hc HK23 HC23 HB23 HX23 HY23 HZ23
   clear HQ23
   refine hK.out _ _ ⟨HC24.out, range_nums HQ24.out⟩ (fun hHeld => ?_)
   clear hK K
   clear hw
   refine tkp (v := ?_) 32 ?_ ?_
   rotate_left
   ·intro w hSw; (try dsimp only at hSw); go_simp; (first | done | with_reducible rfl)
   try simp only [Act.put, List.getElem_toArray, List.getElem_cons_succ, List.getElem_cons_zero, List.setIfInBounds_toArray, List.set_cons_zero, List.set_cons_succ]
   refine tkp (v := ?_) 33 ?_ ?_
   rotate_left
   ·intro w hSw; (try dsimp only at hSw); go_simp; (first | done | with_reducible rfl)
   try simp only [Act.put, List.getElem_toArray, List.getElem_cons_succ, List.getElem_cons_zero, List.setIfInBounds_toArray, List.set_cons_zero, List.set_cons_succ]
   refine wpAnyH_done (by kernel_rfl) ?_ _
   go_wp2
   refine ⟨⟨j + 1, some ab, nb + 24, cbx, by omega, by go_num, rfl, ?_, by push_cast; exact HX24.out, by push_cast; exact HY24.out, HK24.out, HC24.out⟩, by simp [intOf]; omega⟩
   rw [if_neg (by omega), show ((j + 1 : Nat) : Int) = (j : Int) + 1 by omega, ← HBXE.out]
   exact HB24.out
  ·have HTX := Lib.hid (stext_any (.pointer (some ⟨g1, 0, none⟩)) ⟨#[97]⟩ ⟨#[98]⟩)
   obtain ⟨tx, htx⟩ : ∃ tx, tx = txt (bytesOf ⟨#[97]⟩) (bytesOf ⟨#[98]⟩) := ⟨_, rfl⟩
   have HTL : Hid (tx.length = 16) := Lib.hid (by rw [htx, txt, List.length_take, (tx_len _ _ _).1]; rfl)
   obtain ⟨dx, hdx⟩ : ∃ dx, dx = drv k (bytesOf ⟨#[120]⟩) := ⟨_, rfl⟩
   have HDL : Hid (dx.length = 16) := Lib.hid (by rw [hdx]; exact drv_len _ _)
   have HTC : Hid (∀ (rv : Value) (W : World), Calls Tryd.prog 14 #[rv, .string ⟨#[97]⟩, .string ⟨#[98]⟩] W fun e w' => e = .returned (.agg (nums .u8 tx).toArray) ∧ Ch (fun _ => False) W w') := Lib.hid fun rv W => by rw [htx]; exact stext_any rv ⟨#[97]⟩ ⟨#[98]⟩ W (by decide) (by decide)
   have HDC : Hid (∀ (rv : Value) (W : World), Calls Tryd.prog 15 #[rv, .agg (nums .u8 k).toArray, .string ⟨#[120]⟩] W fun e w' => e = .returned (.agg (nums .u8 dx).toArray) ∧ Ch (fun _ => False) W w') := Lib.hid fun rv W => by rw [hdx]; exact sderive_any rv k ⟨#[120]⟩ W HK.out HKB.out (by decide)
   clear htx hdx HTX
   have ht : ∀ W, (Op.equalIn 10000 35 (.agg (nums .u8 tx).toArray) (.agg (nums .u8 tx).toArray)).run Tryd.prog W = .ok true W := fun W => by rw [key_eq _ _ HTL.out HTL.out, decide_eq_true rfl]
   have hd : ∀ W, (Op.equalIn 10000 35 (.agg (nums .u8 dx).toArray) (.agg (nums .u8 dx).toArray)).run Tryd.prog W = .ok true W := fun W => by rw [key_eq _ _ HDL.out HDL.out, decide_eq_true rfl]
   have huk := Tryd.underlying22
   have hik : (Tryd.prog.info? 22).map (·.size) = some (nums .u8 k).length := by rw [nums_len, HK.out]; kernel_rfl
   go_upto_region 20 with fail
   refine wp_region_held_drew (S := fun W => Ch (fun _ => False) w W ∧ W.rangeAt gk 0 (nums .u8 k)) (by kernel_rfl) ?_ (fun hHeld => ?_)
   ·exact ⟨HC10.out.drew, range_nums HK10.out⟩
   obtain ⟨w11, hw⟩ : ∃ W, W = w10.drew := ⟨_, rfl⟩
   rw [← hw] at hHeld ⊢
   have hc : Ch (fun _ => False) w10 w11 := by rw [hw]; exact (Ch.refl _ _).drew
   have HC11 := Lib.hid (HC10.out.trans hc)
   have HK11 := Lib.hid (HK10.out |> fun h => hc.blk h (fun h => h))
   clear hc HC10 HK10
   clear hw
   refine tkp (v := ?_) 0 ?_ ?_
   rotate_left
   ·intro w hSw; (try dsimp only at hSw); go_simp; (first | done | with_reducible rfl)
   try simp only [Act.put, List.getElem_toArray, List.getElem_cons_succ, List.getElem_cons_zero, List.setIfInBounds_toArray, List.set_cons_zero, List.set_cons_succ]
   refine tkp (v := ?_) 2 ?_ ?_
   rotate_left
   ·intro w hSw; (try dsimp only at hSw); go_simp; (first | done | with_reducible rfl)
   try simp only [Act.put, List.getElem_toArray, List.getElem_cons_succ, List.getElem_cons_zero, List.setIfInBounds_toArray, List.set_cons_zero, List.set_cons_succ]
   refine wpAnyH_ready (rs := [1]) (by kernel_rfl) (by simp) ?_
   refine AllReadyH.cons rfl (fun K hK => ?_) AllReadyH.nil
   go_simp
   have HX := HTC.out (.pointer (some ⟨g1, 0, none⟩)) w11
   with_reducible refine HX.mono ?_
   clear HX
   rintro e w12 ⟨rfl, hc⟩
   have HC12 := Lib.hid (HC11.out.trans hc)
   have HK12 := Lib.hid (HK11.out |> fun h => hc.blk h (fun h => h))
   clear hc HC11 HK11
   refine hK.out _ _ ⟨HC12.out, range_nums HK12.out⟩ (fun hHeld => ?_)
   clear hK K
   refine wpAnyH_ready (rs := [3]) (by kernel_rfl) (by simp) ?_
   refine AllReadyH.cons rfl (fun K hK => ?_) AllReadyH.nil
   go_simp
   have HX := HTC.out (.pointer (some ⟨g2, 0, none⟩)) w12
   with_reducible refine HX.mono ?_
   clear HX
   rintro e w13 ⟨rfl, hc⟩
   have HC13 := Lib.hid (HC12.out.trans hc)
   have HK13 := Lib.hid (HK12.out |> fun h => hc.blk h (fun h => h))
   clear hc HC12 HK12
   refine hK.out _ _ ⟨HC13.out, range_nums HK13.out⟩ (fun hHeld => ?_)
   clear hK K
   refine tkp (v := ?_) 4 ?_ ?_
   rotate_left
   ·intro w hSw; (try dsimp only at hSw); go_simp; (first | done | with_reducible rfl)
   try simp only [Act.put, List.getElem_toArray, List.getElem_cons_succ, List.getElem_cons_zero, List.setIfInBounds_toArray, List.set_cons_zero, List.set_cons_succ]
   refine tkp (v := ?_) 5 ?_ ?_
   rotate_left
   ·intro w hSw; (try dsimp only at hSw); go_simp; (first | done | with_reducible rfl)
   try simp only [Act.put, List.getElem_toArray, List.getElem_cons_succ, List.getElem_cons_zero, List.setIfInBounds_toArray, List.set_cons_zero, List.set_cons_succ]
   refine tkp (v := ?_) 6 ?_ ?_
   rotate_left
   ·intro w hSw; (try dsimp only at hSw); go_simp; (first | done | with_reducible rfl)
   try simp only [Act.put, List.getElem_toArray, List.getElem_cons_succ, List.getElem_cons_zero, List.setIfInBounds_toArray, List.set_cons_zero, List.set_cons_succ]
   refine wpAnyH_take (i := 7) (v := .agg (nums .u8 k).toArray) rfl (by kernel_rfl) (by kernel_rfl) (by kernel_rfl) (fun _ _ _ h => h) ?_ (by assumption) ?_
   ·refine yieldsIf_load_mid (by rfl) 22 (.tmp 5) rfl gk 0 rfl (nums .u8 k) _ (fun w hSw => ?_) huk rfl hik
    (try dsimp only at hSw)
    go_split_ands
    assumption
   try simp only [Act.put, List.getElem_toArray, List.getElem_cons_succ, List.getElem_cons_zero, List.setIfInBounds_toArray, List.set_cons_zero, List.set_cons_succ]
   refine tkp (v := ?_) 9 ?_ ?_
   rotate_left
   ·intro w hSw; (try dsimp only at hSw); go_simp; (first | done | with_reducible rfl)
   try simp only [Act.put, List.getElem_toArray, List.getElem_cons_succ, List.getElem_cons_zero, List.setIfInBounds_toArray, List.set_cons_zero, List.set_cons_succ]
   refine wpAnyH_take (i := 10) (v := .agg (nums .u8 k).toArray) rfl (by kernel_rfl) (by kernel_rfl) (by kernel_rfl) (fun _ _ _ h => h) ?_ (by assumption) ?_
   ·refine yieldsIf_load_mid (by rfl) 22 (.tmp 5) rfl gk 0 rfl (nums .u8 k) _ (fun w hSw => ?_) huk rfl hik
    (try dsimp only at hSw)
    go_split_ands
    assumption
   try simp only [Act.put, List.getElem_toArray, List.getElem_cons_succ, List.getElem_cons_zero, List.setIfInBounds_toArray, List.set_cons_zero, List.set_cons_succ]
   refine wpAnyH_ready (rs := [8]) (by kernel_rfl) (by simp) ?_
   refine AllReadyH.cons rfl (fun K hK => ?_) AllReadyH.nil
   go_simp
   have HX := HDC.out (.pointer (some ⟨g1, 0, none⟩)) w13
   with_reducible refine HX.mono ?_
   clear HX
   rintro e w14 ⟨rfl, hc⟩
   have HC14 := Lib.hid (HC13.out.trans hc)
   have HK14 := Lib.hid (HK13.out |> fun h => hc.blk h (fun h => h))
   clear hc HC13 HK13
   refine hK.out _ _ ⟨HC14.out, range_nums HK14.out⟩ (fun hHeld => ?_)
   clear hK K
   refine wpAnyH_ready (rs := [11]) (by kernel_rfl) (by simp) ?_
   refine AllReadyH.cons rfl (fun K hK => ?_) AllReadyH.nil
   go_simp
   have HX := HDC.out (.pointer (some ⟨g2, 0, none⟩)) w14
   with_reducible refine HX.mono ?_
   clear HX
   rintro e w15 ⟨rfl, hc⟩
   have HC15 := Lib.hid (HC14.out.trans hc)
   have HK15 := Lib.hid (HK14.out |> fun h => hc.blk h (fun h => h))
   clear hc HC14 HK14
   refine hK.out _ _ ⟨HC15.out, range_nums HK15.out⟩ (fun hHeld => ?_)
   clear hK K
   refine tkp (v := ?_) 12 ?_ ?_
   rotate_left
   ·intro w hSw; (try dsimp only at hSw); go_simp; (first | done | with_reducible rfl)
   try simp only [Act.put, List.getElem_toArray, List.getElem_cons_succ, List.getElem_cons_zero, List.setIfInBounds_toArray, List.set_cons_zero, List.set_cons_succ]
   refine tkp (v := ?_) 13 ?_ ?_
   rotate_left
   ·intro w hSw; (try dsimp only at hSw); go_simp; (first | done | with_reducible rfl)
   try simp only [Act.put, List.getElem_toArray, List.getElem_cons_succ, List.getElem_cons_zero, List.setIfInBounds_toArray, List.set_cons_zero, List.set_cons_succ]
   refine tkp (v := ?_) 14 ?_ ?_
   rotate_left
   ·intro w hSw; (try dsimp only at hSw); go_simp; (first | done | with_reducible rfl)
   try simp only [Act.put, List.getElem_toArray, List.getElem_cons_succ, List.getElem_cons_zero, List.setIfInBounds_toArray, List.set_cons_zero, List.set_cons_succ]
   refine wpAnyH_done (by kernel_rfl) ?_ _
   go_wp2
   go_ret
   exact ⟨rfl, HC15.out.below⟩
end Go.Proofs.YtejhjlfakfaegaaDoor
