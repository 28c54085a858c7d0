/- The reference's Keys, in plain words: the same bytes. No program is walked here. -/
import Derived.Test.YtejhjlfakfaegaaRefX
import Derived.Test.YtejhjlfakfaegaaPAesStreamsx11
set_option linter.unusedSimpArgs false
set_option linter.unusedVariables false
namespace Go.Proofs.Ytejhjlfakfaegaa
open Go.RowKit Go.Proofs.YtejhjlfakfaegaaW.PrintWords Go.Proofs.Ytejhjlfakfaegaa.PAesStreams

theorem x8_nat (a b : Nat) (ha : a < 256) (hb : b < 256) : x8 (a : Int) (b : Int) = ((a ^^^ b : Nat) : Int) := by
  have h : a ^^^ b < 2 ^ 8 := Nat.xor_lt_two_pow (n := 8) ha hb
  show IntKind.u8.wrap (((BitVec.ofInt 8 (a : Int)) ^^^ (BitVec.ofInt 8 (b : Int))).toNat : Int) = _
  rw [BitVec.ofInt_natCast, BitVec.ofInt_natCast, BitVec.toNat_xor, BitVec.toNat_ofNat, BitVec.toNat_ofNat, Nat.mod_eq_of_lt (show a < 2 ^ 8 from ha), Nat.mod_eq_of_lt (show b < 2 ^ 8 from hb), IntKind.wrap_u8]
  omega
theorem x8_assoc (a b c : Int) (ha : B8 a) (hb : B8 b) (hc : B8 c) : x8 (x8 a b) c = x8 a (x8 b c) := by
  obtain ⟨a0, a1⟩ := ha
  obtain ⟨b0, b1⟩ := hb
  obtain ⟨c0, c1⟩ := hc
  obtain ⟨a, rfl⟩ := Int.eq_ofNat_of_zero_le a0
  obtain ⟨b, rfl⟩ := Int.eq_ofNat_of_zero_le b0
  obtain ⟨c, rfl⟩ := Int.eq_ofNat_of_zero_le c0
  have ha : a < 256 := by omega
  have hb : b < 256 := by omega
  have hc : c < 256 := by omega
  have h1 : a ^^^ b < 256 := Nat.xor_lt_two_pow (n := 8) ha hb
  have h2 : b ^^^ c < 256 := Nat.xor_lt_two_pow (n := 8) hb hc
  rw [x8_nat _ _ ha hb, x8_nat _ _ h1 hc, x8_nat _ _ hb hc, x8_nat _ _ ha h2, Nat.xor_assoc]
theorem x8_comm (a b : Int) (ha : B8 a) (hb : B8 b) : x8 a b = x8 b a := by
  obtain ⟨a0, a1⟩ := ha
  obtain ⟨b0, b1⟩ := hb
  obtain ⟨a, rfl⟩ := Int.eq_ofNat_of_zero_le a0
  obtain ⟨b, rfl⟩ := Int.eq_ofNat_of_zero_le b0
  rw [x8_nat _ _ (by omega) (by omega), x8_nat _ _ (by omega) (by omega), Nat.xor_comm]
theorem rd_nt (l : List Int) (i : Nat) : rd l (i : Int) = nt l i := by unfold rd nt; rw [show ((i : Int)).toNat = i by omega]
theorem rd_at (l : List Int) (i : Nat) (x : Int) (h : x = (i : Int)) : rd l x = nt l i := by rw [h, rd_nt]
theorem kl1 (key t : List Int) (n : Nat) (r : Int) (hk : key.length = 16) (hn : 16 ≤ n) (hn' : n < 1000) (ht : t.length = 4)
    (hx : ∀ j, j < 4 → kNext (kGo key (n - 16 + j)) = bits .xor .u8 (nt (kGo key (n - 16 + j)) (n - 16 + j)) (nt t j)) :
    ∀ (d K : Nat), d ≤ 4 → compeerref05_Keys.l1 (K + d + 1) sbl (kGo key (n - 16 + (4 - d))) r n t ((4 - d : Nat) : Int) = compeerref05_Keys.l0 K sbl (kGo key (n - 16 + 4)) r ((n + 4 : Nat) : Int)
  | 0, K, _ => by
    rw [show K + 0 + 1 = K + 1 from rfl, compeerref05_Keys.l1, if_neg (by omega), w64_id (by omega) (by omega)]
    rfl
  | d + 1, K, h => by
    have hlen : (kGo key (n - 16 + (4 - (d + 1)))).length = n + (4 - (d + 1)) := by rw [kGo_len, hk]; omega
    have e : wrap64 ((n : Int) + ((4 - (d + 1) : Nat) : Int)) = ((n + (4 - (d + 1)) : Nat) : Int) := by rw [w64_id (by omega) (by omega)]; omega
    have e2 : wrap64 (((n + (4 - (d + 1)) : Nat) : Int) - 16) = ((n - 16 + (4 - (d + 1)) : Nat) : Int) := by rw [w64_id (by omega) (by omega)]; omega
    have e3 : wrap64 (((4 - (d + 1) : Nat) : Int) + 1) = ((4 - d : Nat) : Int) := by rw [w64_id (by omega) (by omega)]; omega
    rw [show K + (d + 1) + 1 = (K + d + 1) + 1 by omega, compeerref05_Keys.l1, if_pos (by omega), e, e2, if_pos (by omega), if_pos (by omega), if_pos (by omega), if_pos (by omega), if_pos (by omega), e3, rd_nt, rd_nt, ← hx _ (by omega)]
    have := kl1 key t n r hk hn hn' ht hx d K (by omega)
    rw [← this, show n - 16 + (4 - d) = (n - 16 + (4 - (d + 1))) + 1 by omega]
    rfl
theorem rd_sbl (z : Int) : rd sbl z = sbx z := rfl
theorem tmod_nat (n : Nat) : Int.tmod (n : Int) 16 = ((n % 16 : Nat) : Int) := by rw [Int.tmod_eq_emod_of_nonneg (by omega)]; omega
theorem rd_1 (a b c d : Int) : rd [a, b, c, d] 1 = b := rfl
theorem rd_2 (a b c d : Int) : rd [a, b, c, d] 2 = c := rfl
theorem rd_3 (a b c d : Int) : rd [a, b, c, d] 3 = d := rfl
theorem rd_0 (a b c d : Int) : rd [a, b, c, d] 0 = a := rfl
theorem sbl_len' : (sbl.length : Int) = 256 := by rw [sbl_len]; rfl
theorem kstepA (F n : Nat) (W : List Int) (r : Int) (hl : W.length = n) (h16 : 16 ≤ n) (hn : n < 176) (hm : ¬ n % 16 = 0) :
    compeerref05_Keys.l0 (F + 1) sbl W r n = compeerref05_Keys.j1 F sbl W r n [nt W (n - 4), nt W (n - 3), nt W (n - 2), nt W (n - 1)] := by
  have e4 : wrap64 ((n : Int) - 4) = ((n - 4 : Nat) : Int) := by rw [w64_id (by omega) (by omega)]; omega
  have e3 : wrap64 ((n : Int) - 3) = ((n - 3 : Nat) : Int) := by rw [w64_id (by omega) (by omega)]; omega
  have e2 : wrap64 ((n : Int) - 2) = ((n - 2 : Nat) : Int) := by rw [w64_id (by omega) (by omega)]; omega
  have e1 : wrap64 ((n : Int) - 1) = ((n - 1 : Nat) : Int) := by rw [w64_id (by omega) (by omega)]; omega
  rw [compeerref05_Keys.l0]
  refine (if_pos (by omega)).trans ?_
  refine (if_pos (by rw [e4]; omega)).trans ?_
  refine (if_pos (by rw [e4]; omega)).trans ?_
  refine (if_pos (by rw [e3]; omega)).trans ?_
  refine (if_pos (by rw [e3]; omega)).trans ?_
  refine (if_pos (by rw [e2]; omega)).trans ?_
  refine (if_pos (by rw [e2]; omega)).trans ?_
  refine (if_pos (by rw [e1]; omega)).trans ?_
  refine (if_pos (by rw [e1]; omega)).trans ?_
  refine (if_neg (by rw [tmod_nat]; omega)).trans ?_
  rw [e4, e3, e2, e1, rd_nt, rd_nt, rd_nt, rd_nt]
theorem kstepB (F n : Nat) (W : List Int) (r : Int) (hl : W.length = n) (hW : Bs W) (hr : B8 r) (hF : 40 ≤ F) (h16 : 16 ≤ n) (hn : n < 176) (hm : n % 16 = 0) :
    compeerref05_Keys.l0 (F + 1) sbl W r n = compeerref05_Keys.j1 F sbl W (dbl r) n [bits .xor .u8 (sbx (nt W (n - 3))) r, sbx (nt W (n - 2)), sbx (nt W (n - 1)), sbx (nt W (n - 4))] := by
  have e4 : wrap64 ((n : Int) - 4) = ((n - 4 : Nat) : Int) := by rw [w64_id (by omega) (by omega)]; omega
  have e3 : wrap64 ((n : Int) - 3) = ((n - 3 : Nat) : Int) := by rw [w64_id (by omega) (by omega)]; omega
  have e2 : wrap64 ((n : Int) - 2) = ((n - 2 : Nat) : Int) := by rw [w64_id (by omega) (by omega)]; omega
  have e1 : wrap64 ((n : Int) - 1) = ((n - 1 : Nat) : Int) := by rw [w64_id (by omega) (by omega)]; omega
  have b1 := hW.at (n - 3)
  have b2 := hW.at (n - 2)
  have b3 := hW.at (n - 1)
  have b0 := hW.at (n - 4)
  have hs := sbl_len'
  rw [compeerref05_Keys.l0]
  refine (if_pos (by omega)).trans ?_
  refine (if_pos (by rw [e4]; omega)).trans ?_
  refine (if_pos (by rw [e4]; omega)).trans ?_
  refine (if_pos (by rw [e3]; omega)).trans ?_
  refine (if_pos (by rw [e3]; omega)).trans ?_
  refine (if_pos (by rw [e2]; omega)).trans ?_
  refine (if_pos (by rw [e2]; omega)).trans ?_
  refine (if_pos (by rw [e1]; omega)).trans ?_
  refine (if_pos (by rw [e1]; omega)).trans ?_
  refine (if_pos (by rw [tmod_nat]; omega)).trans ?_
  refine (if_pos (by simp)).trans ?_
  refine (if_pos (by rw [rd_1, e3, rd_nt]; exact b1.1)).trans ?_
  refine (if_pos (by rw [rd_1, e3, rd_nt, hs]; exact b1.2)).trans ?_
  refine (if_pos (by simp)).trans ?_
  refine (if_pos (by rw [rd_2, e2, rd_nt]; exact b2.1)).trans ?_
  refine (if_pos (by rw [rd_2, e2, rd_nt, hs]; exact b2.2)).trans ?_
  refine (if_pos (by simp)).trans ?_
  refine (if_pos (by rw [rd_3, e1, rd_nt]; exact b3.1)).trans ?_
  refine (if_pos (by rw [rd_3, e1, rd_nt, hs]; exact b3.2)).trans ?_
  refine (if_pos (by simp)).trans ?_
  refine (if_pos (by rw [rd_0, e4, rd_nt]; exact b0.1)).trans ?_
  refine (if_pos (by rw [rd_0, e4, rd_nt, hs]; exact b0.2)).trans ?_
  rw [pfd _ hr hF, rd_1, rd_2, rd_3, rd_0, e4, e3, e2, e1, rd_nt, rd_nt, rd_nt, rd_nt]
  rfl
theorem kl0 (key : List Int) (hk : key.length = 16) (hb : Bs key) (C : Nat) (hC : 40 ≤ C) (q : Nat) (hq : q ≤ 40) :
    compeerref05_Keys.l0 (C + 7 * q + 1) sbl (kGo key (160 - 4 * q)) (rcAt ((175 - 4 * q) / 16)) ((176 - 4 * q : Nat) : Int) = some (kGo key 160) := by
  induction q with
  | zero => rw [show C + 7 * 0 + 1 = C + 1 from rfl, compeerref05_Keys.l0, if_neg (by omega)]
  | succ q ih =>
    have ih := ih (by omega)
    obtain ⟨n, hn⟩ : ∃ n, n = 176 - 4 * (q + 1) := ⟨_, rfl⟩
    have hn4 : n % 4 = 0 := by omega
    have hn16 : 16 ≤ n := by omega
    have hn' : n < 176 := by omega
    rw [show 160 - 4 * (q + 1) = n - 16 by omega, show (175 - 4 * (q + 1)) / 16 = (n - 1) / 16 by omega, ← hn, show C + 7 * (q + 1) + 1 = (C + 7 * q + 7) + 1 by omega]
    rw [show 160 - 4 * q = n - 16 + 4 by omega, show (175 - 4 * q) / 16 = (n + 3) / 16 by omega, show 176 - 4 * q = n + 4 by omega] at ih
    have hlen : (kGo key (n - 16)).length = n := by rw [kGo_len, hk]; omega
    have hbs := kGo_bs key hb (n - 16)
    by_cases h16 : n % 16 = 0
    · rw [kstepB _ n _ _ hlen hbs (rcAt_b _) (by omega) hn16 hn' h16, show C + 7 * q + 7 = (C + 7 * q + 6) + 1 from rfl, compeerref05_Keys.j1]
      have := kl1 key [bits .xor .u8 (sbx (nt (kGo key (n - 16)) (n - 3))) (rcAt ((n - 1) / 16)), sbx (nt (kGo key (n - 16)) (n - 2)), sbx (nt (kGo key (n - 16)) (n - 1)), sbx (nt (kGo key (n - 16)) (n - 4))] n (dbl (rcAt ((n - 1) / 16))) hk hn16 (by omega) rfl ?_ 4 (C + 7 * q + 1) (by omega)
      · rw [show n - 16 + (4 - 4) = n - 16 by omega] at this
        refine Eq.trans this ?_
        rw [show dbl (rcAt ((n - 1) / 16)) = rcAt ((n + 3) / 16) by rw [show (n + 3) / 16 = (n - 1) / 16 + 1 by omega]; rfl]
        exact ih
      · intro j hj
        have hl2 : (kGo key (n - 16 + j)).length = n + j := by rw [kGo_len, hk]; omega
        unfold kNext
        rw [hl2, if_neg (by omega), show (n + j) % 16 = j by omega, show n + j - 16 = n - 16 + j by omega, show (n + j) / 16 - 1 = (n - 1) / 16 by omega]
        have hp : ∀ i, i < n → nt (kGo key (n - 16 + j)) i = nt (kGo key (n - 16)) i := fun i hi => kGo_pre key (n - 16) j i (by omega)
        have hw : nt (kGo key (n - 16 + j)) (n - 16 + j) = nt (kGo key (n - 16)) (n - 16 + j) := hp _ (by omega)
        have hwb : B8 (nt (kGo key (n - 16)) (n - 16 + j)) := hbs.at _
        rw [hw]
        by_cases hj0 : j = 0
        · subst hj0
          rw [if_pos rfl, show n + 0 - 3 = n - 3 by omega, hp _ (by omega), x8_assoc _ _ _ hwb (sbx_b _) (rcAt_b _)]
          rfl
        · rw [if_neg hj0, show n + j - j - 4 + (j + 1) % 4 = n - 4 + (j + 1) % 4 by omega, hp _ (by omega)]
          have : j = 1 ∨ j = 2 ∨ j = 3 := by omega
          rcases this with rfl | rfl | rfl
          · rw [show n - 4 + (1 + 1) % 4 = n - 2 by omega]; rfl
          · rw [show n - 4 + (2 + 1) % 4 = n - 1 by omega]; rfl
          · rw [show n - 4 + (3 + 1) % 4 = n - 4 by omega]; rfl
    · rw [kstepA _ n _ _ hlen hn16 hn' h16, show C + 7 * q + 7 = (C + 7 * q + 6) + 1 from rfl, compeerref05_Keys.j1]
      have := kl1 key [nt (kGo key (n - 16)) (n - 4), nt (kGo key (n - 16)) (n - 3), nt (kGo key (n - 16)) (n - 2), nt (kGo key (n - 16)) (n - 1)] n (rcAt ((n - 1) / 16)) hk hn16 (by omega) rfl ?_ 4 (C + 7 * q + 1) (by omega)
      · rw [show n - 16 + (4 - 4) = n - 16 by omega] at this
        refine Eq.trans this ?_
        rw [show (n - 1) / 16 = (n + 3) / 16 by omega]
        exact ih
      · intro j hj
        have hl2 : (kGo key (n - 16 + j)).length = n + j := by rw [kGo_len, hk]; omega
        unfold kNext
        rw [hl2, if_pos (by omega), show n + j - 16 = n - 16 + j by omega]
        have hp : ∀ i, i < n → nt (kGo key (n - 16 + j)) i = nt (kGo key (n - 16)) i := fun i hi => kGo_pre key (n - 16) j i (by omega)
        rw [hp (n + j - 4) (by omega)]
        have : j = 0 ∨ j = 1 ∨ j = 2 ∨ j = 3 := by omega
        rcases this with rfl | rfl | rfl | rfl
        · rfl
        · rw [show n + 1 - 4 = n - 3 by omega]; rfl
        · rw [show n + 2 - 4 = n - 2 by omega]; rfl
        · rw [show n + 3 - 4 = n - 1 by omega]; rfl
theorem keys5 (key : List Int) (hk : key.length = 16) (hb : Bs key) (K : Nat) (hK : 400 ≤ K) : compeerref05_Keys.f K sbl key = some (kGo key 160) := by
  obtain ⟨C, rfl⟩ : ∃ C, K = C + 7 * 40 + 1 := ⟨K - 281, by omega⟩
  unfold compeerref05_Keys.f
  simp only [Option.bind_some, List.nil_append, List.length_nil]
  rw [if_pos (by omega)]
  exact kl0 key hk hb C (by omega) 40 (by omega)
end Go.Proofs.Ytejhjlfakfaegaa
