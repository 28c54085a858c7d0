/- The reference's boxes. -/
import Derived.Test.YtejhjlfakfaegaaRefY
import Derived.Test.YtejhjlfakfaegaaBase
set_option linter.unusedSimpArgs false
set_option linter.unusedVariables false
namespace Go.Proofs.Ytejhjlfakfaegaa
open Go.RowKit Go.Proofs.YtejhjlfakfaegaaW.PrintWords Go.Proofs.Ytejhjlfakfaegaa.PAesStreams

theorem sbl_succ (k : Nat) (h : k < 256) : sbl.take (k + 1) = sbl.take k ++ [sbx (k : Int)] := by
  rw [List.take_succ_eq_append_getElem (by rw [sbl_len]; exact h)]
  unfold sbx
  rw [show ((k : Int)).toNat = k by omega, nt_get (by rw [sbl_len]; exact h)]
theorem sbl_tl (k : Nat) (h : k ≤ 256) : (sbl.take k).length = k := by rw [List.length_take, sbl_len]; omega
set_option maxHeartbeats 1000000 in
set_option maxRecDepth 100000 in
theorem boxes5_any (w : World) :
    Calls Try.prog 16 #[] w fun e w' => ∃ v, e = .returned v ∧ w'.ownsRow w.heap.size 5 1 v 256 (nums .u8 sbl) ∧ Below w.heap.size w w' := by
  go_enter Try.func16, Try.ntmps16
  go_wp2
  go_loopw [1, 2] (fun o i wr => ∃ k : Nat, k ≤ 256 ∧ i = .int .i64 k ∧ wr.ownsRow w.heap.size 5 1 o k (nums .u8 (sbl.take k)) ∧ Below w.heap.size w wr) (fun _ i _ => (256 - intOf i).toNat)
  case atStart => exact ⟨0, by omega, rfl, World.ownsRow_made w _ 0 (Nat.le_refl _) (by unfold maxLen; omega) rfl, (Below.refl _ _).alloc (Nat.le_refl _) _⟩
  case round =>
    obtain ⟨k, hk, rfl, hown, hBl⟩ := hrel
    obtain ⟨A, c, rfl⟩ := own_slice hown
    by_cases hlt : k < 256
    · have HBX := Lib.hid (box5_any k wr hlt)
      have hln := sbl_tl k (by omega)
      have HO : Hid (wr.ownsRow w.heap.size 5 1 (.slice A k c) (sbl.take k).length (nums .u8 (sbl.take k))) := by rw [hln]; exact Lib.hid hown
      have HSU := Lib.hid (sbl_succ k hlt)
      have hl64 : Hid (((sbl.take k).length + 1) * 1 ≤ 140737488355328) := Lib.hid (by rw [hln]; omega)
      have HLK := Lib.hid (sbl_tl (k + 1) (by omega))
      have HBl := Lib.hid hBl
      clear hown hln hBl
      generalize hz : sbl.take (k + 1) = zs' at *
      have HZ := Lib.hid hz
      clear hz
      generalize sbl.take k = zs at *
      generalize sbx (k : Int) = y at *
      go_wp2_with (first
        | (go_at_call 30; with_reducible refine (HBX.out).mono ?_; rintro e w2 ⟨rfl, m2, hw2⟩; (have HB2 : Hid (Below wr.heap.size wr w2) := Lib.hid (by rw [hw2]; exact (Ch.drewN (Ch.refl (fun _ => False) wr) m2).below)); clear hw2; have hn2 := Below.trans HBl.out (Below.mono HB2.out HBl.out.size); have HN2 := Lib.hid hn2; clear hn2)
        | (at_builtin; refine print_append_num (w0 := w) w.heap.size rfl _ _ 22 5 .u8 1 rfl Try.underlying22 info_u8 (by decide) (.slice A k c) zs y rfl rfl (own_kept HO.out HB2.out) (HN2.out) HN2.out.size hl64.out ?_; intro v1 w4 hown hB1 hg hat; rw [← HSU.out, HLK.out] at hown; have HO4 := Lib.hid hown; have HB4 := Lib.hid hB1; obtain ⟨A4, c4, rfl⟩ := own_slice hown; clear hown hB1 hg hat))
      exact ⟨⟨k + 1, by omega, by go_num, by rw [HZ.out]; exact HO4.out, HB4.out⟩, by simp [intOf]; omega⟩
    · obtain rfl : k = 256 := by omega
      have HO := Lib.hid hown
      have HBl := Lib.hid hBl
      clear hown hBl hlt hk
      go_wp2
      go_ret
      refine ⟨_, rfl, ?_, HBl.out⟩
      have := HO.out
      rwa [List.take_of_length_le (by rw [sbl_len]; exact Nat.le_refl _)] at this
end Go.Proofs.Ytejhjlfakfaegaa
