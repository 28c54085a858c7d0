/- The reference's Ks; what the digest of the reference is. -/
import Derived.Test.YtejhjlfakfaegaaRefP
set_option linter.unusedSimpArgs false
set_option linter.unusedVariables false
namespace Go.Proofs.Ytejhjlfakfaegaa
open Go.RowKit Go.Proofs.YtejhjlfakfaegaaW.PrintWords

theorem pr_num (p : Nat) (hp : p ≤ 310) (k : Nat) : 0 ≤ nt (ints (pr p)) k ∧ nt (ints (pr p)) k < 100000 := by
  by_cases hk : k < (ints (pr p)).length
  · rw [nt_get hk]
    have hk' : k < (pr p).length := by rw [ints_length] at hk; exact hk
    have hm := pr_ge p _ (List.getElem_mem hk')
    simp only [ints, List.getElem_map]
    obtain ⟨h1, h2⟩ := hm
    exact ⟨by show (0 : Int) ≤ ((pr p)[k] : Nat); omega, by show (((pr p)[k] : Nat) : Int) < 100000; omega⟩
  · simp [nt, List.getD_eq_getElem?_getD, List.getElem?_eq_none (Nat.le_of_not_lt hk)]
theorem own_keep {w w' : World} {base : Nat} {e : TypeId} {size n : Nat} {v : Value} {xs : List Value} (h : w.ownsRow base e size v n xs) (hb : Below w.heap.size w w') : w'.ownsRow base e size v n xs := by
  refine own_other h (row := none) ⟨hb.os, hb.tape, hb.output, hb.size, fun k hk _ => hb.block k hk⟩ ?_
  by_cases hv : v.ownBlock = none
  · exact .inl hv
  · exact .inr hv
def ksTo (l : List Int) (k : Nat) : List Int := (l.take k).map cubeM
theorem ksTo_succ (l : List Int) (k : Nat) (h : k < l.length) : ksTo l (k + 1) = ksTo l k ++ [cubeM (nt l k)] := by
  unfold ksTo
  rw [List.take_succ_eq_append_getElem h, List.map_append, nt_get h]
  rfl
theorem ksTo_length (l : List Int) (k : Nat) (h : k ≤ l.length) : (ksTo l k).length = k := by simp [ksTo]; omega
set_option maxHeartbeats 1000000 in
set_option maxRecDepth 100000 in
theorem ks_any (w : World) :
    Calls Try.prog 11 #[] w fun e w' => ∃ v, e = .returned v ∧ w'.ownsRow w.heap.size 46 1 v 64 (nums .u32 kst) ∧ Below w.heap.size w w' := by
  have hall : ksTo (ints (pr 310)) 64 = kst := by rw [← ks_eq, ksTo, List.take_of_length_le (by rw [ints_length, pr_310]; omega)]
  have HALL := Lib.hid hall
  have hlen : (ints (pr 310)).length = 64 := by rw [ints_length, pr_310]
  have HLEN := Lib.hid hlen
  have hnum := pr_num 310 (by omega)
  have HNUM := Lib.hid hnum
  have HPA := Lib.hid (primes_any w)
  clear hall hlen hnum
  generalize ints (pr 310) = ls at *
  generalize hkk : kst = kk at *
  have HKK := Lib.hid hkk
  clear hkk
  go_enter Try.func11, Try.ntmps11
  go_wp2_with (go_at_call 25; with_reducible refine (HPA.out).mono ?_; rintro e w1 ⟨v, rfl, ho, hb⟩; obtain ⟨A1, c1, rfl⟩ := own_slice ho; have HO1 := Lib.hid ho; have HB1 := Lib.hid hb; clear ho hb)
  go_loopw [2, 3] (fun o i wr => ∃ k : Nat, k ≤ 64 ∧ i = .int .i64 k ∧ wr.ownsRow w1.heap.size 46 1 o k (nums .u32 (ksTo ls k)) ∧ Below w1.heap.size w1 wr) (fun _ i _ => (64 - intOf i).toNat)
  case atStart => exact ⟨0, by omega, rfl, World.ownsRow_made w1 _ 0 (Nat.le_refl _) (by unfold maxLen; omega) rfl, (Below.refl _ _).alloc (Nat.le_refl _) _⟩
  case round =>
    obtain ⟨k, hk, rfl, hown, hBl⟩ := hrel
    obtain ⟨A, c, rfl⟩ := own_slice hown
    by_cases hlt : k < 64
    · obtain ⟨ad, rfl, hc⟩ := (reads_own HO1.out).2.2 (by omega)
      have c0 := Ch.cell (S := fun _ => False) (Ch.of_below hBl) (hc k hlt) (fun h => h)
      change wr.cell? _ = some (.int .u64 (nt ls k)) at c0
      obtain ⟨x0, x1⟩ := HNUM.out k
      have HCU := Lib.hid (cube_any (nt ls k) wr x0 x1)
      have hln := ksTo_length ls k (by rw [HLEN.out]; omega)
      have HO : Hid (wr.ownsRow w1.heap.size 46 1 (.slice A k c) (ksTo ls k).length (nums .u32 (ksTo ls k))) := by rw [hln]; exact Lib.hid hown
      have HSU : Hid (∀ y, y = cubeM (nt ls k) → (ksTo ls k ++ [y]) = ksTo ls (k + 1)) := Lib.hid fun y hy => by rw [hy, ksTo_succ ls k (by rw [HLEN.out]; omega)]
      have hl64 : Hid (((ksTo ls k).length + 1) * 4 ≤ 140737488355328) := Lib.hid (by rw [hln]; omega)
      have HLK := Lib.hid (ksTo_length ls (k + 1) (by rw [HLEN.out]; omega))
      have HBl := Lib.hid hBl
      clear hown hln hc hBl
      generalize nt ls k = x at *
      generalize cubeM x = y at *
      generalize ksTo ls k = zs at *
      go_wp2_with (first
        | (go_at_call 26; with_reducible refine (HCU.out).mono ?_; rintro e w2 ⟨rfl, hb⟩; have HB2 := Lib.hid hb; have hn2 := Below.trans HBl.out (Below.mono hb HBl.out.size); have HN2 := Lib.hid hn2; clear hb hn2)
        | (at_builtin; refine print_append_num (w0 := w1) w1.heap.size rfl _ _ 27 46 .u32 4 rfl Try.underlying27 info_u32 (by decide) (.slice A k c) zs y rfl rfl (own_keep HO.out HB2.out) (HN2.out) HN2.out.size hl64.out ?_; intro v1 w4 hown hB1 hg hat; rw [HSU.out y rfl, HLK.out] at hown; have HO4 := Lib.hid hown; have HB4 := Lib.hid hB1; obtain ⟨A4, c4, rfl⟩ := own_slice hown; clear hown hB1 hg hat))
      exact ⟨⟨k + 1, by omega, by go_num, HO4.out, HB4.out⟩, by simp [intOf]; omega⟩
    · obtain rfl : k = 64 := by omega
      have HO := Lib.hid hown
      have HBl := Lib.hid hBl
      clear hown hBl hlt hk
      go_wp2
      go_ret
      rw [← HALL.out]
      exact ⟨_, rfl, own_weaken HO.out HB1.out.size, ((Ch.of_below (S := fun _ => False) HB1.out).trans (Ch.of_below HBl.out)).below⟩
end Go.Proofs.Ytejhjlfakfaegaa
