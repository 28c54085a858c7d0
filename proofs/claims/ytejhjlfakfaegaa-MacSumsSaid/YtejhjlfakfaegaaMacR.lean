/- The reference's keyed sum. -/
import Derived.Test.YtejhjlfakfaegaaRefD
import Derived.Test.YtejhjlfakfaegaaLawB
import Derived.Deep.DeepCutAuto
import Derived.Deep.CutBlock
set_option linter.unusedSimpArgs false
set_option linter.unusedVariables false
namespace Go.Proofs.Ytejhjlfakfaegaa
open Go.RowKit Go.Proofs.YtejhjlfakfaegaaW.PrintWords

/-- a key's bytes, at most sixty-four -/
def key64 (k : List Int) : List Int := if 64 < k.length then sha k else k
def padB (k : List Int) (by_ : Int) : List Int := (List.range 64).map fun i => x8 (nt k i) by_
def hmac (k m : List Int) : List Int := sha (padB (key64 k) 92 ++ sha (padB (key64 k) 54 ++ m))
theorem padB_len (k : List Int) (c : Int) : (padB k c).length = 64 := by simp [padB]
theorem padB_b (k : List Int) (c : Int) : Bs (padB k c) := by
  intro x hx
  simp only [padB, List.mem_map] at hx
  obtain ⟨i, _, rfl⟩ := hx
  exact x8_b _ _
theorem padB_take (k : List Int) (c : Int) (i : Nat) (h : i < 64) : (padB k c).take (i + 1) = (padB k c).take i ++ [x8 (nt k i) c] := by
  rw [List.take_succ_eq_append_getElem (by rw [padB_len]; exact h)]
  simp [padB]
theorem padB_tl (k : List Int) (c : Int) (i : Nat) (h : i ≤ 64) : ((padB k c).take i).length = i := by rw [List.length_take, padB_len]; omega
theorem nt_end (l : List Int) (i : Nat) (h : l.length ≤ i) : nt l i = 0 := by simp [nt, List.getD_eq_getElem?_getD, List.getElem?_eq_none h]
theorem out32_len (h : List Int) : (out32 h).length = 32 := by
  have := outTo_length h 8
  exact this
theorem sha_len (m : List Int) : (sha m).length = 32 := out32_len _
theorem sha_b (m : List Int) : Bs (sha m) := by
  intro x hx
  unfold sha out32 at hx
  simp only [List.mem_flatMap] at hx
  obtain ⟨i, _, hx⟩ := hx
  exact putBytes_bs _ x (List.mem_of_mem_drop hx)
theorem key64_len (k : List Int) : (key64 k).length ≤ 64 := by
  unfold key64
  split
  · rw [sha_len]; omega
  · omega
theorem key64_b (k : List Int) (h : Bs k) : Bs (key64 k) := by
  unfold key64
  split
  · exact sha_b k
  · exact h
set_option maxRecDepth 100000 in
set_option maxHeartbeats 1000000 in
theorem padded_any (As Ak : Option Addr) (cs ck n : Nat) (k : List Int) (c : Int) (w : World) (hs : ReadsInt w .u32 As 64 kst) (hk : ReadsInt w .u8 Ak n k) (hn : n < 1000000) (hkb : Bs k) (hc : B8 c) :
    Calls Try.prog 34 #[.slice As 64 cs, .slice Ak n ck, .int .u8 c] w fun e w' => ∃ v, e = .returned v ∧ w'.ownsRow w.heap.size 5 1 v 64 (nums .u8 (padB (key64 k) c)) ∧ Below w.heap.size w w' := by
  have HS := Lib.hid hs
  have HK := Lib.hid hk
  have HKL := Lib.hid hk.1
  have HC := Lib.hid hc
  obtain ⟨c0, c1⟩ := hc
  have HD := Lib.hid (rdigest_any As Ak cs ck n kst k w hs hk hn kst_w hkb)
  clear hs hk
  go_enter Try.func34, Try.ntmps34
  go_upto_if 11 with fail
  go_cut [1] (fun s1 wx => ∃ A m cc, s1 = .slice A m cc ∧ m ≤ 64 ∧ ReadsInt wx .u8 A m (key64 k) ∧ Ch (fun _ => False) w wx)
  case first =>
    by_cases h64 : 64 < n
    · have hk6 : key64 k = sha k := by unfold key64; rw [if_pos (by rw [HKL.out]; exact h64)]
      have HK6 := Lib.hid hk6
      clear hk6
      go_wp2_with (go_at_call 10; with_reducible refine (HD.out).mono ?_; rintro e w2 ⟨v, rfl, ho, hb⟩; rw [← sha_hAt] at ho; obtain ⟨A2, c2, rfl, -⟩ := q_slice ho; have HO := Lib.hid ho; have HB := Lib.hid hb; clear ho hb)
      go_meet
      exact ⟨A2, 32, c2, rfl, by omega, by rw [HK6.out]; exact q_reads HO.out, Ch.of_below HB.out⟩
    · have hk6 : key64 k = k := by unfold key64; rw [if_neg (by rw [HKL.out]; exact h64)]
      have HK6 := Lib.hid hk6
      clear hk6
      go_wp2
      go_meet
      exact ⟨Ak, n, ck, rfl, by omega, by rw [HK6.out]; exact HK.out, Ch.refl _ _⟩
  case rest =>
    obtain ⟨A, m, cc, rfl, hm, hr, hC⟩ := hcut
    have HR := Lib.hid hr
    have HCX := Lib.hid hC
    have HKB := Lib.hid (key64_b k hkb)
    clear hr hC HD HKL HK
    generalize hkl : key64 k = kl at *
    have HKLL := Lib.hid hkl
    clear hkl
    go_wp2
    go_loopw [7, 8] (fun o i wr => ∃ j : Nat, j ≤ 64 ∧ i = .int .i64 j ∧ wr.ownsRow wc.heap.size 5 1 o j (nums .u8 ((padB kl c).take j)) ∧ Below wc.heap.size wc wr) (fun _ i _ => (64 - intOf i).toNat)
    case atStart => exact ⟨0, by omega, rfl, World.ownsRow_made wc _ 0 (Nat.le_refl _) (by unfold maxLen; omega) rfl, (Below.refl _ _).alloc (Nat.le_refl _) _⟩
    case round =>
      obtain ⟨j, hj, rfl, hO, hB⟩ := hrel
      obtain ⟨Ao, co, rfl⟩ := own_slice hO
      by_cases hlt : j < 64
      · have hln := padB_tl kl c j (by omega)
        have HO : Hid (wr.ownsRow wc.heap.size 5 1 (.slice Ao j co) ((padB kl c).take j).length (nums .u8 ((padB kl c).take j))) := by rw [hln]; exact Lib.hid hO
        have HSU := Lib.hid (padB_take kl c j hlt)
        have hl64 : Hid ((((padB kl c).take j).length + 1) * 1 ≤ 140737488355328) := Lib.hid (by rw [hln]; omega)
        have HLK := Lib.hid (padB_tl kl c (j + 1) (by omega))
        have HBl := Lib.hid hB
        clear hO hln hB
        generalize hz : (padB kl c).take (j + 1) = zs' at *
        have HZ := Lib.hid hz
        clear hz
        generalize (padB kl c).take j = zs at *
        by_cases hjm : j < m
        · obtain ⟨ad, hA, hcell⟩ := HR.out.2.2 (by omega)
          have ck := Ch.cell (S := fun _ => False) (Ch.of_below HBl.out) (hcell j hjm) (fun h => h)
          change wr.cell? _ = some (.int .u8 (nt kl j)) at ck
          subst hA
          obtain ⟨x0, x1⟩ := HKB.out.at j
          go_wp2_with (at_builtin; refine print_append_num (w0 := wc) wc.heap.size rfl _ _ 22 5 .u8 1 rfl Try.underlying22 info_u8 (by decide) (.slice Ao j co) zs (x8 (nt kl j) c) rfl rfl HO.out HBl.out HBl.out.size hl64.out ?_; intro v1 w4 hown hB1 hg hat; rw [← HSU.out, HLK.out] at hown; have HO4 := Lib.hid hown; have HB4 := Lib.hid hB1; obtain ⟨A4, c4, rfl⟩ := own_slice hown; clear hown hB1 hg hat)
          exact ⟨⟨j + 1, by omega, by go_num, by rw [HZ.out]; exact HO4.out, HB4.out⟩, by simp [intOf]; omega⟩
        · have hx : x8 (nt kl j) c = c := by rw [nt_end kl j (by rw [HR.out.1]; omega)]; exact x8_0 c HC.out
          rw [hx] at HSU
          clear hx
          go_wp2_with (at_builtin; refine print_append_num (w0 := wc) wc.heap.size rfl _ _ 22 5 .u8 1 rfl Try.underlying22 info_u8 (by decide) (.slice Ao j co) zs c rfl rfl HO.out HBl.out HBl.out.size hl64.out ?_; intro v1 w4 hown hB1 hg hat; rw [← HSU.out, HLK.out] at hown; have HO4 := Lib.hid hown; have HB4 := Lib.hid hB1; obtain ⟨A4, c4, rfl⟩ := own_slice hown; clear hown hB1 hg hat)
          exact ⟨⟨j + 1, by omega, by go_num, by rw [HZ.out]; exact HO4.out, HB4.out⟩, by simp [intOf]; omega⟩
      · obtain rfl : j = 64 := by omega
        have HO := Lib.hid hO
        have HBl := Lib.hid hB
        clear hO hB
        go_wp2
        go_ret
        refine ⟨_, rfl, ?_, ((HCX.out).trans (Ch.of_below HBl.out)).below⟩
        have := HO.out
        rw [List.take_of_length_le (by rw [padB_len]; exact Nat.le_refl _), ← HKLL.out] at this
        exact own_weaken this HCX.out.size
set_option maxRecDepth 100000 in
set_option maxHeartbeats 1000000 in
theorem rsum_any (As Ak Ab : Option Addr) (cs ck cb n m : Nat) (k b : List Int) (w : World) (hs : ReadsInt w .u32 As 64 kst) (hk : ReadsInt w .u8 Ak n k) (hb : ReadsInt w .u8 Ab m b) (hn : n < 100000) (hm : m < 100000) (hkb : Bs k) (hbb : Bs b) :
    Calls Try.prog 20 #[.slice As 64 cs, .slice Ak n ck, .slice Ab m cb] w fun e w' => ∃ A c, e = .returned (.slice A 32 c) ∧ ReadsInt w' .u8 A 32 (hmac k b) ∧ Below w.heap.size w w' := by
  have HS : Hid (∀ W, Ch (fun _ => False) w W → ReadsInt W .u32 As 64 kst) := Lib.hid fun W hC => hC.reads hs (fun _ _ h => h)
  have HK : Hid (∀ W, Ch (fun _ => False) w W → ReadsInt W .u8 Ak n k) := Lib.hid fun W hC => hC.reads hk (fun _ _ h => h)
  have HB : Hid (∀ W, Ch (fun _ => False) w W → ReadsInt W .u8 Ab m b) := Lib.hid fun W hC => hC.reads hb (fun _ _ h => h)
  have HBL := Lib.hid hb.1
  clear hs hk hb
  have HP1 := Lib.hid (padded_any As Ak cs ck n k 54 w (HS.out _ (Ch.refl _ _)) (HK.out _ (Ch.refl _ _)) (by omega) hkb (by unfold B8; omega))
  go_enter Try.func20, Try.ntmps20
  go_wp2_with (first
    | (go_at_call 34; with_reducible refine (HP1.out).mono ?_; rintro e w1 ⟨v1, rfl, ho, hb1⟩; have HO1 := Lib.hid ho; have HC1 := Lib.hid (Ch.of_below (S := fun _ => False) hb1); clear ho hb1)
    | (at_builtin; refine print_append_row (w0 := w) w.heap.size rfl _ _ 22 5 .u8 1 rfl Try.underlying22 info_u8 (by decide) v1 (padB (key64 k) 54) b _ _ _ rfl rfl (by rw [padB_len]; exact HO1.out) (HB.out _ HC1.out) HC1.out.below HC1.out.size (by rw [padB_len]; omega) ?_; intro v2 w2 ho hb2 _ _; rw [List.length_append, padB_len, HBL.out] at ho; obtain ⟨A2, c2, rfl⟩ := own_slice ho; have HO2 := Lib.hid ho; have HC2 := Lib.hid (Ch.of_below (S := fun _ => False) hb2); clear ho hb2))
  refine (rdigest_any As A2 cs c2 (64 + m) kst (padB (key64 k) 54 ++ b) w2 (HS.out _ HC2.out) (rd_own HO2.out) (by omega) kst_w ((padB_b _ _).append hbb)).mono ?_
  rintro e w3 ⟨v3, rfl, ho3, hb3⟩
  rw [← sha_hAt] at ho3
  obtain ⟨A3, c3, rfl, -⟩ := q_slice ho3
  have HO3 := Lib.hid ho3
  have HC3 := Lib.hid (HC2.out.trans (Ch.of_below hb3))
  have HIN : Hid (hmac k b = sha (padB (key64 k) 92 ++ sha (padB (key64 k) 54 ++ b))) := Lib.hid rfl
  have HIL := Lib.hid (sha_len (padB (key64 k) 54 ++ b))
  have HIB := Lib.hid (sha_b (padB (key64 k) 54 ++ b))
  clear ho3 hb3 HO2 HO1 HP1
  generalize sha (padB (key64 k) 54 ++ b) = si at *
  have HP2 := Lib.hid (padded_any As Ak cs ck n k 92 w3 (HS.out _ HC3.out) (HK.out _ HC3.out) (by omega) hkb (by unfold B8; omega))
  go_wp2_with (first
    | (go_at_call 34; with_reducible refine (HP2.out).mono ?_; rintro e w4 ⟨v4, rfl, ho, hb4⟩; have HO4 := Lib.hid ho; have HC4 := Lib.hid (Ch.of_below (S := fun _ => False) hb4); clear ho hb4)
    | (at_builtin; refine print_append_row (w0 := w3) w3.heap.size rfl _ _ 22 5 .u8 1 rfl Try.underlying22 info_u8 (by decide) v4 (padB (key64 k) 92) si _ _ _ rfl rfl (by rw [padB_len]; exact HO4.out) (HC4.out.reads (q_reads HO3.out) (fun _ _ h => h)) HC4.out.below HC4.out.size (by rw [padB_len]; omega) ?_; intro v5 w5 ho hb5 _ _; rw [List.length_append, padB_len, HIL.out] at ho; obtain ⟨A5, c5, rfl⟩ := own_slice ho; have HO5 := Lib.hid ho; have HC5 := Lib.hid (Ch.of_below (S := fun _ => False) hb5); clear ho hb5))
  refine (rdigest_any As A5 cs c5 96 kst (padB (key64 k) 92 ++ si) w5 (HS.out _ (HC3.out.trans HC5.out)) (rd_own HO5.out) (by omega) kst_w ((padB_b _ _).append HIB.out)).mono ?_
  rintro e w6 ⟨v6, rfl, ho6, hb6⟩
  rw [← sha_hAt] at ho6
  obtain ⟨A6, c6, rfl, -⟩ := q_slice ho6
  have HO6 := Lib.hid ho6
  have HC6 := Lib.hid ((HC3.out.trans HC5.out).trans (Ch.of_below hb6))
  clear ho6 hb6
  go_wp2
  go_ret
  exact ⟨A6, c6, rfl, by rw [HIN.out]; exact q_reads HO6.out, HC6.out.below⟩
end Go.Proofs.Ytejhjlfakfaegaa
