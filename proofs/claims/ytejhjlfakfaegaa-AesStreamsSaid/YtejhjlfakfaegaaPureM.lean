/- The columns turned: the program's way and the document's. No program is walked here. -/
import Derived.Test.YtejhjlfakfaegaaPureB
set_option linter.unusedSimpArgs false
set_option linter.unusedVariables false
namespace Go.Proofs.Ytejhjlfakfaegaa
open Go.RowKit Go.Proofs.YtejhjlfakfaegaaW.PrintWords Go.Proofs.Ytejhjlfakfaegaa.PAesStreams

theorem x8_rot (a b c d : Int) (ha : B8 a) (hb : B8 b) (hc : B8 c) (hd : B8 d) : x8 (x8 (x8 a b) c) d = x8 (x8 (x8 b c) d) a := by
  rw [x8_assoc a b c ha hb hc, x8_assoc a _ d ha (x8_b _ _) hd, x8_comm a _ ha (x8_b _ _)]
theorem prd_b : ∀ (n : Nat) (a b p : Int), B8 p → B8 (prd n a b p)
  | 0, _, _, _, h => h
  | n + 1, a, b, p, h => by
    rw [prd]
    refine prd_b n _ _ _ ?_
    split
    · exact x8_b _ _
    · exact h
theorem mul2_b (a : Int) : B8 (mul2 a) := prd_b 8 a 2 0 ⟨by decide, by decide⟩
theorem mul3_b (a : Int) : B8 (mul3 a) := prd_b 8 a 3 0 ⟨by decide, by decide⟩
theorem mixAt_far (l : List Int) (c j : Nat) (hl : l.length = 16) (hc : c ≤ 12) (hj : j < 16) (h : j < c ∨ c + 3 < j) : nt (mixAt l c) j = nt l j := by
  unfold mixAt
  rw [nt_set (by simp [hl]; omega) (by simp [hl]; omega), if_neg (by omega), nt_set (by simp [hl]; omega) (by simp [hl]; omega), if_neg (by omega), nt_set (by simp [hl]; omega) (by simp [hl]; omega), if_neg (by omega), nt_set (by rw [hl]; omega) (by rw [hl]; omega), if_neg (by omega)]
theorem mixAt_near (l : List Int) (c : Nat) (hl : l.length = 16) (hb : Bs l) (hc : c ≤ 12) (h4 : c % 4 = 0) (r : Nat) (hr : r < 4) : nt (mixAt l c) (c + r) = mixF l (c + r) := by
  have b0 := hb.at c
  have b1 := hb.at (c + 1)
  have b2 := hb.at (c + 2)
  have b3 := hb.at (c + 3)
  unfold mixF
  rw [show (c + r) / 4 * 4 = c by omega, show (c + r) % 4 = r by omega]
  unfold mixAt
  have : r = 0 ∨ r = 1 ∨ r = 2 ∨ r = 3 := by omega
  rcases this with rfl | rfl | rfl | rfl
  · rw [nt_set (by simp [hl]; omega) (by simp [hl]; omega), if_neg (by omega), nt_set (by simp [hl]; omega) (by simp [hl]; omega), if_neg (by omega), nt_set (by simp [hl]; omega) (by simp [hl]; omega), if_neg (by omega), nt_set (by rw [hl]; omega) (by rw [hl]; omega), if_pos (by omega)]
    rfl
  · rw [nt_set (by simp [hl]; omega) (by simp [hl]; omega), if_neg (by omega), nt_set (by simp [hl]; omega) (by simp [hl]; omega), if_neg (by omega), nt_set (by simp [hl]; omega) (by simp [hl]; omega), if_pos (by omega)]
    exact x8_rot _ _ _ _ b0 (mul2_b _) (mul3_b _) b3
  · rw [nt_set (by simp [hl]; omega) (by simp [hl]; omega), if_neg (by omega), nt_set (by simp [hl]; omega) (by simp [hl]; omega), if_pos (by omega)]
    exact (x8_rot _ _ _ _ b0 b1 (mul2_b _) (mul3_b _)).trans (x8_rot _ _ _ _ b1 (mul2_b _) (mul3_b _) b0)
  · rw [nt_set (by simp [hl]; omega) (by simp [hl]; omega), if_pos (by omega)]
    exact ((x8_rot _ _ _ _ (mul3_b _) b1 b2 (mul2_b _)).trans (x8_rot _ _ _ _ b1 b2 (mul2_b _) (mul3_b _))).trans (x8_rot _ _ _ _ b2 (mul2_b _) (mul3_b _) b1)
theorem mixF_congr (l m : List Int) (c r : Nat) (h4 : c % 4 = 0) (hr : r < 4) (h : ∀ q, q < 4 → nt l (c + q) = nt m (c + q)) : mixF l (c + r) = mixF m (c + r) := by
  unfold mixF
  rw [show (c + r) / 4 * 4 = c by omega, show (c + r) % 4 = r by omega, h r hr, h ((r + 1) % 4) (Nat.mod_lt _ (by decide)), h ((r + 2) % 4) (Nat.mod_lt _ (by decide)), h ((r + 3) % 4) (Nat.mod_lt _ (by decide))]
/-- so many columns are turned -/
theorem mixN_at (t : List Int) (ht : t.length = 16) (hb : Bs t) : ∀ n, n ≤ 4 → ∀ j, j < 16 → nt (mixN t n) j = if j < 4 * n then mixF t j else nt t j
  | 0, _, j, hj => by rw [if_neg (by omega)]; rfl
  | n + 1, hn, j, hj => by
    have ih := mixN_at t ht hb n (by omega)
    rw [mixN]
    by_cases h : j < 4 * n ∨ 4 * n + 3 < j
    · rw [mixAt_far _ _ _ (by rw [mixN_len, ht]) (by omega) hj h, ih j hj]
      by_cases h2 : j < 4 * n
      · rw [if_pos h2, if_pos (by omega)]
      · rw [if_neg h2, if_neg (by omega)]
    · obtain ⟨r, hr⟩ : ∃ r, j = 4 * n + r := ⟨j - 4 * n, by omega⟩
      subst hr
      rw [mixAt_near _ _ (by rw [mixN_len, ht]) (mixN_bs t hb n) (by omega) (by omega) r (by omega), if_pos (by omega)]
      exact mixF_congr _ _ (4 * n) r (by omega) (by omega) fun q hq => by rw [ih _ (by omega), if_neg (by omega)]
theorem mixN_4 (t : List Int) (ht : t.length = 16) (hb : Bs t) : mixN t 4 = all16 (mixF t) :=
  nt_ext (by rw [mixN_len, ht]) (all16_len _) fun j hj => by rw [mixN_at t ht hb 4 (by omega) j hj, if_pos (by omega), all16_at _ _ hj]
theorem mixF_b (t : List Int) (i : Nat) : B8 (mixF t i) := x8_b _ _
/-- a round of the reference -/
theorem bround (s ks : List Int) (hs : s.length = 16) (hsb : Bs s) (hk : ks.length = 176) (n : Nat) (hn1 : 1 ≤ n) (hn : n ≤ 10) (K : Nat) (hK : 40 ≤ K) :
    ∃ F, K ≤ F ∧ F ≤ K + 80 ∧ compeerref05_Block.l1 F sbl ks s n = compeerref05_Block.l1 K sbl ks (rnd5 ks n s) ((n + 1 : Nat) : Int) := by
  have hj6 : ∀ (u : List Int), u.length = 16 → ∀ K, compeerref05_Block.j6 (K + 18) sbl ks n u = compeerref05_Block.l1 K sbl ks (xk u ks (16 * n)) ((n + 1 : Nat) : Int) := by
    intro u hu K
    rw [show K + 18 = (K + 16 + 1) + 1 from rfl, compeerref05_Block.j6]
    have := bl6 u ks n hu hk hn 16 K (by omega)
    rw [show 16 - 16 = 0 from rfl, mapTo_0 _ _ hu] at this
    exact this
  have hl2 : ∀ K, compeerref05_Block.l2 (K + 25) sbl ks s n [] 0 = if (n : Int) < 10 then compeerref05_Block.l4 K sbl ks n (ss s) [] 0 else compeerref05_Block.j6 K sbl ks n (ss s) := by
    intro K
    exact bl2 s ks n hs hsb K 4 (by omega)
  by_cases h10 : n < 10
  · refine ⟨K + 18 + 25 + 25 + 1, by omega, by omega, ?_⟩
    rw [compeerref05_Block.l1]
    refine (if_pos (by omega)).trans ?_
    rw [hl2, if_pos (by omega)]
    have := bl4 (ss s) ks n (ss_len s) (ss_bs s) (K + 18) (by omega) 4 (by omega)
    refine Eq.trans this ?_
    rw [hj6 _ (all16_len _), rnd5, if_pos h10, mixN_4 _ (ss_len s) (ss_bs s)]
  · refine ⟨K + 18 + 25 + 1, by omega, by omega, ?_⟩
    rw [compeerref05_Block.l1]
    refine (if_pos (by omega)).trans ?_
    rw [hl2, if_neg (by omega), hj6 _ (ss_len s), rnd5, if_neg h10]
theorem brounds (b ks : List Int) (hk : ks.length = 176) : ∀ (d K : Nat), 40 ≤ K → d ≤ 10 → ∃ F, K ≤ F ∧ F ≤ K + 80 * d + 1 ∧ compeerref05_Block.l1 F sbl ks (blkTo ks b (10 - d)) ((10 - d + 1 : Nat) : Int) = some (blk5 ks b)
  | 0, K, hK, _ => ⟨K + 1, by omega, by omega, by rw [compeerref05_Block.l1]; exact (if_neg (by omega)).trans rfl⟩
  | d + 1, K, hK, h => by
    obtain ⟨F, hF0, hF, he⟩ := brounds b ks hk d K hK (by omega)
    obtain ⟨F2, hF20, hF2, he2⟩ := bround (blkTo ks b (10 - (d + 1))) ks (blkTo_len _ _ _) (blkTo_bs _ _ _) hk (10 - (d + 1) + 1) (by omega) (by omega) F (by omega)
    refine ⟨F2, by omega, by omega, he2.trans ?_⟩
    rw [← he, show 10 - d = 10 - (d + 1) + 1 by omega]
    rfl
/-- the reference's Block: the program's -/
theorem blockP (key b : List Int) (hk : key.length = 16) (hkb : Bs key) (hb : b.length = 16) (K : Nat) (hK : 1300 ≤ K) : compeerref05_Block.f K sbl key b = some (blk5 (kGo key 160) b) := by
  obtain ⟨F, hF0, hF, he⟩ := brounds b (kGo key 160) (by rw [kGo_len, hk]) 10 400 (by omega) (by omega)
  refine leo_up (fun k => compeerref05_Block.f k sbl key b) (compeerref05_Block.mono sbl key b) (k := F + 17) (by omega) ?_
  show compeerref05_Block.f (F + 17) sbl key b = _
  unfold compeerref05_Block.f
  rw [keys5 key hk hkb _ (by omega), Option.bind_some]
  have := bl0 b (kGo key 160) hb (by rw [kGo_len, hk]) 16 F (by omega)
  exact this.trans he
end Go.Proofs.Ytejhjlfakfaegaa
