/- The reference's Stream, in plain words. No program is walked here. -/
import Derived.Test.YtejhjlfakfaegaaPureM
import Derived.Test.YtejhjlfakfaegaaLawB
import Derived.Test.YtejhjlfakfaegaaPAesStreamsx13
set_option linter.unusedSimpArgs false
set_option linter.unusedVariables false
namespace Go.Proofs.Ytejhjlfakfaegaa
open Go.RowKit Go.Proofs.YtejhjlfakfaegaaW.PrintWords Go.Proofs.Ytejhjlfakfaegaa.PAesStreams

theorem incTo_setg (l : List Int) (p : Nat) (h : p < 16) : (incTo l (p + 1)).set p ((nt l p + cAt l (15 - p)) % 256) = incTo l p :=
  nt_ext (by simp [incTo_len]) (incTo_len _ _) fun j hj => by
    rw [nt_set (by rw [incTo_len]; exact h) (by rw [incTo_len]; exact hj), incTo, incTo, all16_at _ _ hj, all16_at _ _ hj]
    by_cases e : p = j
    · subst e; rw [if_pos rfl, if_pos (by omega)]
    · rw [if_neg e]
      by_cases e2 : p + 1 ≤ j
      · rw [if_pos e2, if_pos (by omega)]
      · rw [if_neg e2, if_neg (by omega)]
theorem cAt_div (l : List Int) (hb : Bs l) (p : Nat) (h : p < 16) : (nt l p + cAt l (15 - p)) / 256 = cAt l (16 - p) := by
  have hx := hb.at p
  have hc := cAt_01 l (15 - p)
  rw [show 16 - p = (15 - p) + 1 by omega, cAt, show 15 - (15 - p) = p by omega]
  split <;> omega
theorem tm256 (x : Int) (h : 0 ≤ x) : Int.tmod x 256 = x % 256 := Int.tmod_eq_emod_of_nonneg h
theorem td256 (x : Int) (h : 0 ≤ x) : Int.tdiv x 256 = x / 256 := Int.tdiv_eq_ediv_of_nonneg h
theorem carry_b (l : List Int) (hb : Bs l) (p : Nat) : 0 ≤ nt l p + cAt l (15 - p) ∧ nt l p + cAt l (15 - p) ≤ 256 := by
  have hx := hb.at p
  have hc := cAt_01 l (15 - p)
  omega
theorem sl1_step (F out pad key b : List Int) (i : Int) (hF : F.length = 16) (hFb : Bs F) (p : Nat) (hp : p < 16) (K : Nat) :
    compeerref05_Stream.l1 (K + 1) sbl key b (incTo F (p + 1)) out pad i (cAt F (15 - p)) p = compeerref05_Stream.l1 K sbl key b (incTo F p) out pad i (cAt F (16 - p)) ((p : Int) - 1) := by
  obtain ⟨c0, c1⟩ := carry_b F hFb p
  have hx := hFb.at p
  have hr : rd (incTo F (p + 1)) (p : Int) = nt F p := by rw [rd_nt, incTo_at F p hp]
  have h1 : wrap64 (nt F p) = nt F p := w64_id (by omega) (by omega)
  have h2 : wrap64 (nt F p + cAt F (15 - p)) = nt F p + cAt F (15 - p) := w64_id (by omega) (by omega)
  have h3 : wrap64 (cAt F (16 - p)) = cAt F (16 - p) := w64_id (by have := cAt_01 F (16 - p); omega) (by have := cAt_01 F (16 - p); omega)
  have h4 : wrap64 ((p : Int) - 1) = (p : Int) - 1 := w64_id (by omega) (by omega)
  have hset := incTo_setg F p hp
  have hdiv := cAt_div F hFb p hp
  have hl : ((incTo F (p + 1)).length : Int) = 16 := by rw [incTo_len]; rfl
  have hg : (p : Int) < ((incTo F (p + 1)).length : Int) := by rw [hl]; omega
  have g0 : (p : Int) ≥ 0 := by omega
  rw [compeerref05_Stream.l1, hr, h1, h2, tm256 _ c0, td256 _ c0, hdiv, h3, h4, show (nt F p + cAt F (15 - p)) % 256 % 256 = (nt F p + cAt F (15 - p)) % 256 from Int.emod_emod_of_dvd _ (Int.dvd_refl _), show ((p : Int)).toNat = p by omega, hset]
  exact (if_pos g0).trans ((if_pos g0).trans (if_pos hg))
theorem sl1_all (F out pad key b : List Int) (i : Int) (hF : F.length = 16) (hFb : Bs F) (K : Nat) : ∀ d, d ≤ 16 →
    compeerref05_Stream.l1 (K + d) sbl key b (incTo F d) out pad i (cAt F (16 - d)) ((d : Int) - 1) = compeerref05_Stream.l1 K sbl key b (inc F) out pad i (cAt F 16) (-1)
  | 0, _ => by rw [incTo_0]; rfl
  | d + 1, h => by
    have := sl1_step F out pad key b i hF hFb d (by omega) (K + d)
    rw [show K + (d + 1) = K + d + 1 by omega, show ((d + 1 : Nat) : Int) - 1 = (d : Int) by omega, show 16 - (d + 1) = 15 - d by omega, this]
    exact sl1_all F out pad key b i hF hFb K d (by omega)
theorem sl1_end (at' out pad key b : List Int) (i : Nat) (cr : Int) (hi : i < b.length) (hb : b.length < 1000000) (hp : pad.length = 16) (ho : out.length = i) (K : Nat) :
    compeerref05_Stream.l1 (K + 1) sbl key b at' out pad i cr (-1) = compeerref05_Stream.l0 K sbl key b at' (out ++ [x8 (nt b i) (nt pad (i % 16))]) pad ((i + 1 : Nat) : Int) := by
  have hm := tmod_nat i
  have hlt : i % 16 < 16 := Nat.mod_lt _ (by decide)
  have hw : wrap64 ((i : Int) + 1) = ((i + 1 : Nat) : Int) := by rw [w64_id (by omega) (by omega)]; omega
  have g1 : ((i % 16 : Nat) : Int) < (pad.length : Int) := by omega
  have g2 : (i : Int) < (b.length : Int) := by omega
  have g3 : out.length < 140737488355328 := by omega
  have g4 : (0 : Int) ≤ (i : Int) := by omega
  have g5 : (0 : Int) ≤ ((i % 16 : Nat) : Int) := by omega
  rw [compeerref05_Stream.l1, hm, rd_nt, rd_nt, hw]
  refine (if_neg (by decide)).trans ?_
  exact (if_pos g4).trans ((if_pos g2).trans ((if_pos g5).trans ((if_pos g1).trans (if_pos g3))))
theorem sl0_plain (at' out pad key b : List Int) (i : Nat) (hi : i < b.length) (hb : b.length < 1000000) (hp : pad.length = 16) (ho : out.length = i) (hm16 : ¬ i % 16 = 0) (K : Nat) :
    compeerref05_Stream.l0 (K + 1) sbl key b at' out pad i = compeerref05_Stream.l0 K sbl key b at' (out ++ [x8 (nt b i) (nt pad (i % 16))]) pad ((i + 1 : Nat) : Int) := by
  have hm := tmod_nat i
  have hlt : i % 16 < 16 := Nat.mod_lt _ (by decide)
  have hw : wrap64 ((i : Int) + 1) = ((i + 1 : Nat) : Int) := by rw [w64_id (by omega) (by omega)]; omega
  have g1 : ((i % 16 : Nat) : Int) < (pad.length : Int) := by omega
  have g2 : (i : Int) < (b.length : Int) := by omega
  have g3 : out.length < 140737488355328 := by omega
  have g4 : (0 : Int) ≤ (i : Int) := by omega
  have g5 : (0 : Int) ≤ ((i % 16 : Nat) : Int) := by omega
  have gm : ¬ ((i % 16 : Nat) : Int) = 0 := by omega
  rw [compeerref05_Stream.l0, hm, rd_nt, rd_nt, hw]
  exact (if_pos g2).trans ((if_neg gm).trans ((if_pos g4).trans ((if_pos g5).trans ((if_pos g1).trans (if_pos g3)))))
theorem strm_take (ks f b : List Int) (i : Nat) (h : i < b.length) : (strm ks f b).take (i + 1) = (strm ks f b).take i ++ [x8 (nt b i) (nt (blk5 ks (incN f (i / 16))) (i % 16))] := by
  rw [List.take_succ_eq_append_getElem (by rw [strm_len]; exact h)]
  congr 1
  have := strm_at ks f b i h
  rw [nt_get (by rw [strm_len]; exact h)] at this
  rw [this]
/-- what is held of the block ahead of a byte -/
def padAt (ks f : List Int) (i : Nat) : List Int := if i = 0 then [] else blk5 ks (incN f ((i - 1) / 16))
theorem sl0 (key f b : List Int) (hk : key.length = 16) (hkb : Bs key) (hf : f.length = 16) (hfb : Bs f) (hb : b.length < 1000000) : ∀ (d : Nat), d ≤ b.length → ∃ F0, 1300 ≤ F0 ∧
    compeerref05_Stream.l0 F0 sbl key b (incN f ((b.length - d + 15) / 16)) ((strm (kGo key 160) f b).take (b.length - d)) (padAt (kGo key 160) f (b.length - d)) ((b.length - d : Nat) : Int) = some (strm (kGo key 160) f b)
  | 0, _ => by
    refine ⟨1301, by omega, ?_⟩
    rw [compeerref05_Stream.l0]
    refine (if_neg (by omega)).trans ?_
    rw [show b.length - 0 = b.length from rfl, List.take_of_length_le (by rw [strm_len]; exact Nat.le_refl _)]
  | d + 1, h => by
    obtain ⟨F0, hF0, he⟩ := sl0 key f b hk hkb hf hfb hb d (by omega)
    obtain ⟨i, hi⟩ : ∃ i, b.length - (d + 1) = i := ⟨_, rfl⟩
    have hi2 : b.length - d = i + 1 := by omega
    have hib : i < b.length := by omega
    rw [hi2] at he
    rw [hi]
    have htl : ((strm (kGo key 160) f b).take i).length = i := by rw [List.length_take, strm_len]; omega
    have hst := strm_take (kGo key 160) f b i hib
    have g0 : (i : Int) < (b.length : Int) := by omega
    have hm := tmod_nat i
    by_cases h16 : i % 16 = 0
    · refine ⟨F0 + 18, by omega, ?_⟩
      have hq : (i + 15) / 16 = i / 16 := by omega
      have hpad : padAt (kGo key 160) f (i + 1) = blk5 (kGo key 160) (incN f (i / 16)) := by rw [padAt, if_neg (by omega)]; rfl
      have hinc : incN f ((i + 1 + 15) / 16) = inc (incN f (i / 16)) := by rw [show (i + 1 + 15) / 16 = i / 16 + 1 by omega]; rfl
      have hBl := blockP key (incN f (i / 16)) hk hkb (incN_len f hf _) (F0 + 17) (by omega)
      have h1 := sl1_all (incN f (i / 16)) ((strm (kGo key 160) f b).take i) (blk5 (kGo key 160) (incN f (i / 16))) key b i (incN_len f hf _) (incN_b f hf hfb _) (F0 + 1) 16 (by omega)
      have h2 := sl1_end (inc (incN f (i / 16))) ((strm (kGo key 160) f b).take i) (blk5 (kGo key 160) (incN f (i / 16))) key b i (cAt (incN f (i / 16)) 16) hib hb (blkTo_len _ _ 10) htl F0
      have gm : Int.tmod (i : Int) 16 = 0 := by rw [hm]; omega
      rw [compeerref05_Stream.l0, hq, hBl, Option.bind_some]
      refine (if_pos g0).trans ((if_pos gm).trans ?_)
      rw [incTo_16 _ (incN_len f hf _)] at h1
      refine Eq.trans h1 (Eq.trans h2 ?_)
      rw [← hst, ← he, hpad, hinc]
    · refine ⟨F0 + 1, by omega, ?_⟩
      have hq : (i + 1 + 15) / 16 = (i + 15) / 16 := by omega
      have hpad : padAt (kGo key 160) f (i + 1) = blk5 (kGo key 160) (incN f (i / 16)) := by rw [padAt, if_neg (by omega)]; rfl
      have hpad0 : padAt (kGo key 160) f i = blk5 (kGo key 160) (incN f (i / 16)) := by rw [padAt, if_neg (by omega), show (i - 1) / 16 = i / 16 by omega]
      have h1 := sl0_plain (incN f ((i + 15) / 16)) ((strm (kGo key 160) f b).take i) (blk5 (kGo key 160) (incN f (i / 16))) key b i hib hb (blkTo_len _ _ 10) htl h16 F0
      rw [hpad0, h1, ← hst, ← he, hpad, hq]
/-- the reference's Stream: the program's -/
theorem streamP (key f b : List Int) (hk : key.length = 16) (hkb : Bs key) (hf : f.length = 16) (hfb : Bs f) (hb : b.length < 1000000) : ∃ K, compeerref05_Stream.f K sbl key f b = some (strm (kGo key 160) f b) := by
  obtain ⟨K, _, he⟩ := sl0 key f b hk hkb hf hfb hb b.length (Nat.le_refl _)
  refine ⟨K, ?_⟩
  unfold compeerref05_Stream.f
  rw [Option.bind_some]
  refine (if_pos (by simp; omega)).trans ?_
  rw [show b.length - b.length = 0 by omega] at he
  exact he
end Go.Proofs.Ytejhjlfakfaegaa
