/- The reference's primes and Ks. -/
import Derived.Test.YtejhjlfakfaegaaRefK
import Derived.Test.YtejhjlfakfaegaaRefD
set_option linter.unusedSimpArgs false
set_option linter.unusedVariables false
namespace Go.Proofs.Ytejhjlfakfaegaa
open Go.RowKit Go.Proofs.YtejhjlfakfaegaaW.PrintWords

def dv (P : Int) (l : List Int) (k : Nat) : Bool := (l.take k).any fun d => P % d == 0
theorem dv_succ (P : Int) (l : List Int) (k : Nat) (h : k < l.length) : dv P l (k + 1) = (dv P l k || (P % nt l k == 0)) := by
  unfold dv
  rw [List.take_succ_eq_append_getElem h, List.any_append, nt_get h]
  simp
theorem dv_divs (p : Nat) (l : List Nat) : dv p (ints l) (ints l).length = divs p l := by
  unfold dv divs ints
  rw [List.take_length, List.any_map]
  congr 1
  funext d
  show ((p : Int) % (d : Int) == 0) = (p % d == 0)
  rw [← Int.natCast_emod]
  rw [Bool.eq_iff_iff, beq_iff_eq, beq_iff_eq]
  exact Int.natCast_eq_zero
theorem pr_ge : ∀ p, ∀ d ∈ pr p, 2 ≤ d ∧ d ≤ p + 1
  | 0 => by simp [pr]
  | p + 1 => by
    intro d hd
    have ih := pr_ge p
    unfold pr at hd
    split at hd
    · have := ih d hd; omega
    · rcases List.mem_append.1 hd with h | h
      · have := ih d h; omega
      · rw [List.mem_singleton.1 h]; omega
theorem pr_up (p : Nat) : (pr p).length ≤ (pr (p + 1)).length := by
  rw [pr]; split <;> simp
theorem pr_mono (p : Nat) : ∀ k, (pr p).length ≤ (pr (p + k)).length
  | 0 => Nat.le_refl _
  | k + 1 => Nat.le_trans (pr_mono p k) (pr_up (p + k))
theorem pr_lt (p : Nat) (h : (pr p).length < 64) : p < 310 := by
  refine Nat.lt_of_not_le fun h' => ?_
  have := pr_mono 310 (p - 310)
  rw [pr_310, show 310 + (p - 310) = p by omega] at this
  omega
theorem pr_end (p : Nat) (h : p ≤ 310) (h' : ¬ (pr p).length < 64) : p = 310 := by
  refine Nat.le_antisymm h (Nat.le_of_not_lt fun h2 => ?_)
  have := pr_mono p (309 - p)
  rw [show p + (309 - p) = 309 by omega, pr_309] at this
  omega
theorem pr_le (p : Nat) (h : p ≤ 310) : (pr p).length ≤ 64 := by
  have := pr_mono p (310 - p)
  rw [show p + (310 - p) = 310 by omega, pr_310] at this
  exact this
theorem ints_length (l : List Nat) : (ints l).length = l.length := by simp [ints]
set_option maxHeartbeats 1000000 in
set_option maxRecDepth 100000 in
theorem primes_any (w : World) :
    Calls Try.prog 25 #[.int .i64 64] w fun e w' => ∃ v, e = .returned v ∧ w'.ownsRow w.heap.size 44 1 v 64 (nums .u64 (ints (pr 310))) ∧ Below w.heap.size w w' := by
  go_enter Try.func25, Try.ntmps25
  go_wp2
  go_loopw [3, 4, 5, 6] (fun o x _ _ wr => ∃ p L : Nat, p ≤ 310 ∧ L = (ints (pr p)).length ∧ x = .int .u64 ((p + 2 : Nat) : Int) ∧ wr.ownsRow w.heap.size 44 1 o L (nums .u64 (ints (pr p))) ∧ Below w.heap.size w wr) (fun _ x _ _ _ => (400 - intOf x).toNat)
  case atStart => exact ⟨0, 0, by omega, rfl, rfl, World.ownsRow_made w _ 0 (Nat.le_refl _) (by unfold maxLen; omega) rfl, (Below.refl _ _).alloc (Nat.le_refl _) _⟩
  case round =>
    obtain ⟨p, L, hp, hL, rfl, hown, hBl⟩ := hrel
    obtain ⟨A, c, rfl⟩ := own_slice hown
    have hle := pr_le p hp
    rw [ints_length] at hL
    by_cases hlt : L < 64
    · --[P1
      have hp2 := pr_lt p (by omega)
      have hge := pr_ge p
      have hrd := reads_own hown
      have hd := dv_divs (p + 2) (pr p)
      have hps : pr (p + 1) = if divs (p + 2) (pr p) then pr p else pr p ++ [p + 2] := rfl
      rw [← hd] at hps
      have hps2 : ints (pr (p + 1)) = if dv ((p + 2 : Nat) : Int) (ints (pr p)) (ints (pr p)).length then ints (pr p) else ints (pr p) ++ [((p + 2 : Nat) : Int)] := by rw [hps]; split <;> simp [ints]
      have hli := ints_length (pr p)
      rw [← hL] at hli
      rw [hli] at hps2
      have hnz : ∀ k, k < L → 2 ≤ nt (ints (pr p)) k ∧ nt (ints (pr p)) k < 1000 := by
        intro k hk
        rw [nt_get (by omega)]
        have hm := hge _ (List.getElem_mem (show k < (pr p).length by omega))
        simp only [ints, List.getElem_map]
        obtain ⟨h1, h2⟩ := hm
        exact ⟨by show (2 : Int) ≤ ((pr p)[k] : Nat); omega, by show (((pr p)[k] : Nat) : Int) < 1000; omega⟩
      have HNZ := Lib.hid hnz
      have HLI := Lib.hid hli
      have HPS := Lib.hid hps2
      have HO := Lib.hid hown
      have HRD := Lib.hid hrd
      have HBl := Lib.hid hBl
      have hl64 : Hid ((L + 1) * 8 ≤ 140737488355328) := Lib.hid (by omega)
      clear hnz hli hps2 hown hrd hBl hps hd hge hL hle
      have i9 : (L : Int) < 64 := by omega
      generalize hls : ints (pr p) = ls at *
      clear hls
      go_wp2
      obtain ⟨w5, rfl⟩ : ∃ w5 : World, w5 = wr := ⟨_, rfl⟩
      go_loopw [5, 6] (fun f i wr => ∃ k : Nat, k ≤ L ∧ i = .int .i64 k ∧ f = .bool (!(dv ((p + 2 : Nat) : Int) ls k)) ∧ w5 = wr) (fun _ i _ => (L - intOf i).toNat)
      case atStart => exact ⟨0, by omega, rfl, rfl, rfl⟩
      case round =>
        obtain ⟨k, hk, rfl, rfl, rfl⟩ := hrel
        by_cases hlt2 : k < L
        · --[P3
          obtain ⟨ad, rfl, hc⟩ := HRD.out.2.2 (by omega)
          have c0 := hc k hlt2
          change w5.cell? _ = some (.int .u64 (nt ls k)) at c0
          obtain ⟨x2, x3⟩ := HNZ.out k hlt2
          have hdv := dv_succ ((p + 2 : Nat) : Int) ls k (by rw [HLI.out]; exact hlt2)
          have HDV := Lib.hid hdv
          have P0 : 0 ≤ ((p + 2 : Nat) : Int) := by omega
          have P1 : ((p + 2 : Nat) : Int) < 400 := by omega
          clear hc hdv
          generalize ((p + 2 : Nat) : Int) = P at *
          generalize nt ls k = x at *
          generalize hdk : dv P ls k = D at *
          have xn : ¬ x = 0 := by omega
          have i5 : (k : Int) < L := by omega
          cases hb : (P % x == 0) with
          | true =>
            go_wp2
            exact ⟨⟨k + 1, by omega, by go_num, by rw [HDV.out, hb]; simp, trivial⟩, by simp [intOf]; omega⟩
          | false =>
            go_wp2
            exact ⟨⟨k + 1, by omega, by go_num, by rw [HDV.out, hb]; simp, trivial⟩, by simp [intOf]; omega⟩
          --P3]
        · --[P4
          obtain rfl : k = L := by omega
          have i5 : ¬ (k : Int) < k := by omega
          have i6 : IntKind.u64.wrap (((p + 2 : Nat) : Int) + 1) = ((p + 1 + 2 : Nat) : Int) := by rw [IntKind.wrap_u64]; omega
          have i7 : ((p + 2 : Nat) : Int) + 1 = ((p + 1 + 2 : Nat) : Int) := by omega
          have P1 : ((p + 2 : Nat) : Int) < 400 := by omega
          have P2 : ((p + 1 + 2 : Nat) : Int) < 401 := by omega
          have P3 : ((p + 1 + 2 : Nat) : Int) = ((p + 2 : Nat) : Int) + 1 := by omega
          have HP3 := Lib.hid P3
          have i8 : IntKind.u64.wrap ((p + 1 + 2 : Nat) : Int) = ((p + 1 + 2 : Nat) : Int) := by rw [IntKind.wrap_u64]; omega
          clear P3
          generalize hPP : ((p + 1 + 2 : Nat) : Int) = P' at *
          generalize ((p + 2 : Nat) : Int) = P at *
          have HPP := Lib.hid hPP
          clear hPP
          cases hD : dv P ls k with
          | true =>
            rw [hD] at HPS
            have HPS : Hid (ints (pr (p + 1)) = ls) := HPS
            go_wp2
            refine ⟨⟨p + 1, k, by omega, by rw [HPS.out]; exact HLI.out.symm, by rw [HPP.out], by rw [HPS.out]; exact HO.out, HBl.out⟩, ?_⟩
            have := HPP.out
            simp [intOf]
            omega
          | false =>
            rw [hD] at HPS
            have HPS : Hid (ints (pr (p + 1)) = ls ++ [P]) := HPS
            go_wp2_with (at_builtin; refine print_append_num (w0 := w) w.heap.size rfl _ _ 48 44 .u64 8 rfl Try.underlying48 info_u64 (by decide) (.slice A k c) ls P rfl rfl (by rw [HLI.out]; exact HO.out) (HBl.out) HBl.out.size (by rw [HLI.out]; exact hl64.out) ?_; intro v1 w1 hown hB1 hg hat; have HO1 := Lib.hid hown; have HB1 := Lib.hid hB1; obtain ⟨A1, c1, rfl⟩ := own_slice hown; clear hown hB1 hg hat)
            refine ⟨⟨p + 1, ls.length + 1, by omega, by rw [HPS.out]; simp, by rw [HPP.out], by rw [HPS.out]; have := HO1.out; simp only [List.length_append, List.length_cons, List.length_nil] at this; exact this, HB1.out⟩, ?_⟩
            have := HPP.out
            simp [intOf]
            omega
          --P4]
      --P1]
    · --[P2
      have := pr_end p hp (by omega)
      subst this
      rw [pr_310] at hL
      subst hL
      have HO := Lib.hid hown
      have HBl := Lib.hid hBl
      clear hown hBl hle hp hlt
      generalize hls : ints (pr 310) = ls at *
      have HLS := Lib.hid hls
      clear hls
      go_wp2
      go_ret
      rw [HLS.out]
      exact ⟨_, rfl, HO.out, HBl.out⟩
      --P2]
end Go.Proofs.Ytejhjlfakfaegaa
