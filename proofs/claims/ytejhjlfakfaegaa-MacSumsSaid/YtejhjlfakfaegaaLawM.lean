/- The walk of MacSums: of all keys and bytes the sum is the document's. -/
import Derived.Test.YtejhjlfakfaegaaLawT
import Derived.Test.YtejhjlfakfaegaaMacD
set_option linter.unusedSimpArgs false
set_option linter.unusedVariables false
namespace Go.Proofs.Ytejhjlfakfaegaa
open Go.RowKit Go.Proofs.YtejhjlfakfaegaaW.PrintWords
set_option maxHeartbeats 1000000 in
theorem macSums_any (Ak : Option Addr) (n ck : Nat) (k : List Int) (Ab : Option Addr) (m cb : Nat) (b : List Int) (w : World) (hk : ReadsInt w .u8 Ak n k) (hkb : Bs k) (hb : ReadsInt w .u8 Ab m b) (hbb : Bs b) :
    Calls Try.prog 6 #[.slice Ak n ck, .slice Ab m cb] w fun e w' => e = .returned (.bool true) ∧ Below w.heap.size w w' := by
  have HA := Lib.hid (alive4_any w)
  have hn0 := hk.2.1
  have hm0 := hb.2.1
  have HK := Lib.hid hk
  have HB := Lib.hid hb
  clear hk hb
  by_cases hlt : 600 < n
  · go_enter Try.func6, Try.ntmps6
    go_wp2_with (go_at_call 18; with_reducible refine (HA.out).mono ?_; rintro e w1 ⟨rfl, hB⟩; have HB1 := Lib.hid hB; clear hB)
    all_goals
      go_ret
      exact ⟨rfl, HB1.out⟩
  · by_cases hlt2 : 600 < m
    · go_enter Try.func6, Try.ntmps6
      go_wp2_with (go_at_call 18; with_reducible refine (HA.out).mono ?_; rintro e w1 ⟨rfl, hB⟩; have HB1 := Lib.hid hB; clear hB)
      all_goals
        go_ret
        exact ⟨rfl, HB1.out⟩
    · go_enter Try.func6, Try.ntmps6
      go_wp2_with (go_at_call 18; with_reducible refine (HA.out).mono ?_; rintro e w1 ⟨rfl, hB⟩; have HB1 := Lib.hid hB; clear hB)
      have hc1 := Ch.of_below (S := fun _ => False) HB1.out
      refine (msum_any Ak _ n ck 1 1 k [b] _ ((hc1.alloc _).reads HK.out (fun _ _ h => h)) (rows2_one1 (heap_alloc_new w1 (.cells #[.slice Ab m cb] 22)) ((hc1.alloc _).reads HB.out (fun _ _ h => h))) hkb (by simpa using hbb) (by omega) (by have := HB.out.1; simp; omega) (by decide)).mono ?_
      rintro e w2 ⟨v2, rfl, ho, hb2⟩
      rw [show ([b] : List (List Int)).flatten = b by simp] at ho
      obtain ⟨A2, c2, rfl, -⟩ := q_slice (q_of_own ho)
      have HO2 := Lib.hid (rd_own ho)
      have HC2 : Hid (Ch (fun _ => False) w w2) := Lib.hid ((hc1.alloc _).trans (Ch.of_below hb2))
      have HKS := Lib.hid (ks_any w2)
      clear ho hb2 hc1 HA
      go_wp2_with fail
      refine (HKS.out).mono ?_
      rintro e w3 ⟨v3, rfl, ho, hb3⟩
      obtain ⟨A3, c3, rfl, -⟩ := q_slice (q_of_own ho)
      have HC3 := Lib.hid (HC2.out.trans (Ch.of_below hb3))
      have HD := Lib.hid (rsum_any A3 Ak Ab c3 ck cb n m k b w3 (reads_own ho) (HC3.out.reads HK.out (fun _ _ h => h)) (HC3.out.reads HB.out (fun _ _ h => h)) (by omega) (by omega) hkb hbb)
      have HB3 := Lib.hid hb3
      clear ho hb3 HKS
      go_wp2_with fail
      refine (HD.out).mono ?_
      rintro e w4 ⟨A4, c4, rfl, hr4, hb4⟩
      have HR4 := Lib.hid hr4
      have HC4 : Hid (Ch (fun _ => False) w2 w4) := Lib.hid ((Ch.of_below HB3.out).trans (Ch.of_below hb4))
      clear hr4 hb4 HD
      go_wp2_with fail
      refine (same_yes _ _ 32 c2 c4 (hmac k b) w4 (HC4.out.reads HO2.out (fun _ _ h => h)) HR4.out).mono ?_
      rintro e w7 ⟨rfl, m7, rfl⟩
      go_wp2
      go_ret
      exact ⟨rfl, ((HC2.out.trans HC4.out).drewN m7).below⟩
end Go.Proofs.Ytejhjlfakfaegaa
