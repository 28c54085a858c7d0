/- What octet's functions answer: bytes of a number, a number of bytes, rows joined. -/
import Derived.Test.YtejhjlfakfaegaaRows
import Derived.Test.YtejhjlfakfaegaaWWords
import Derived.WalkKit
import Derived.WalkSpells
import Derived.WalkLawsBesides
import Derived.Deep.QuietTactic
import Derived.BigQuiet
import Derived.Deep.LoopGhost
import Derived.Lib.Hide
set_option linter.unusedSimpArgs false
set_option linter.unusedVariables false
namespace Go.Proofs.Ytejhjlfakfaegaa
open Go.RowKit Go.Proofs.YtejhjlfakfaegaaW.PrintWords

/-! ### Words -/
/-- the k-th number, 0 behind the end -/
def nt (l : List Int) (k : Nat) : Int := l.getD k 0
theorem nt_get {l : List Int} {k : Nat} (h : k < l.length) : nt l k = l[k] := by simp [nt, List.getD_eq_getElem?_getD, List.getElem?_eq_getElem h]
/-- the bytes' range -/
def Bs (l : List Int) : Prop := ∀ x ∈ l, 0 ≤ x ∧ x < 256
theorem Bs.at {l : List Int} (h : Bs l) (k : Nat) : 0 ≤ nt l k ∧ nt l k < 256 := by
  by_cases hk : k < l.length
  · rw [nt_get hk]; exact h l[k] (List.getElem_mem hk)
  · simp [nt, List.getD_eq_getElem?_getD, List.getElem?_eq_none (Nat.le_of_not_lt hk)]
theorem reads_cell {w : World} {k : IntKind} {A : Option Addr} {n : Nat} {xs : List Int} (h : ReadsInt w k A n xs) (hn : 0 < n) : ∃ ad, A = some ad ∧ ∀ j, j < n → w.cell? (ad.add j) = some (.int k (nt xs j)) := h.2.2 hn

/-! ### Put -/
/-- the k-th of the eight bytes -/
def putAt (n : Int) (k : Nat) : Int := n / 2 ^ (56 - 8 * k) % 256
def putTo (n : Int) (k : Nat) : Array Value := ((List.range 8).map fun i => if i < k then Value.int .u8 (putAt n i) else .int .u8 0).toArray
theorem putTo_set (n : Int) (k : Nat) (h : k < 8) : (putTo n k).setIfInBounds k (.int .u8 (n / 2 ^ (56 - 8 * k) % 256)) = putTo n (k+1) := by
  change (putTo n k).setIfInBounds k (.int .u8 (putAt n k)) = _
  unfold putTo
  apply Array.ext'
  simp [List.range_succ, List.set]
  rcases k with _|_|_|_|_|_|_|_|k <;> simp <;> omega
def putBytes (n : Int) : List Int := (List.range 8).map (putAt n)
theorem putTo_8 (n : Int) : putTo n 8 = (nums .u8 (putBytes n)).toArray := by simp [putTo, nums, putBytes, List.range_succ]
theorem putBytes_length (n : Int) : (putBytes n).length = 8 := by simp [putBytes]
theorem putBytes_bs (n : Int) : Bs (putBytes n) := by
  intro x hx
  simp only [putBytes, List.mem_map] at hx
  obtain ⟨k, _, rfl⟩ := hx
  unfold putAt; omega
theorem make8 (w : World) : (Instr.makeSlice 22 (.int .i64 8) (.int .i64 8)).run Try.prog w = .ok (.slice (some ⟨w.heap.size, 0, none⟩) 8 8) (w.alloc (.cells (putTo 0 0) 5)) := by kernel_rfl
set_option maxHeartbeats 400000 in
theorem put_any (n : Int) (w : World) (h0 : 0 ≤ n) (h : n < 18446744073709551616) :
    Calls Try.prog 37 #[.int .u64 n] w fun e w' => e = .returned (.slice (some ⟨w.heap.size, 0, none⟩) 8 8) ∧ w' = w.alloc (.cells (putTo n 8) 5) := by
  have hmk := fun w => make8 w
  go_enter Try.func37, Try.ntmps37
  go_wp2
  go_loopw [4, 8] (fun _ i wr => ∃ k : Nat, k ≤ 8 ∧ i = .int .i64 k ∧ wr = w.alloc (.cells (putTo n k) 5)) (fun _ i _ => (8 - intOf i).toNat)
  case atStart => exact ⟨0, by omega, rfl, rfl⟩
  case round =>
    obtain ⟨k, hk, rfl, rfl⟩ := hrel
    clear hmk
    by_cases hlt : k < 8
    · have hset := Lib.hid (putTo_set n k hlt)
      have hc : (putTo n k)[k]? = some (if k < k then Value.int .u8 (putAt n k) else .int .u8 0) := by simp [putTo, hlt]
      go_wp2
      go_roundw
      case rel => exact ⟨k + 1, by omega, by go_num, by rw [hset.out]⟩
      case measure => simp [intOf]; omega
    · obtain rfl : k = 8 := by omega
      go_wp2
      go_ret
      exact ⟨rfl, rfl⟩
/-- Put as others use it. -/
theorem put_own (n : Int) (w : World) (h0 : 0 ≤ n) (h : n < 18446744073709551616) :
    Calls Try.prog 37 #[.int .u64 n] w fun e w' => ∃ v, e = .returned v ∧ w'.ownsRow w.heap.size 5 1 v 8 (nums .u8 (putBytes n)) ∧ Below w.heap.size w w' := by
  refine (put_any n w h0 h).mono fun e w' ⟨he, hw⟩ => ⟨_, he, ?_, ?_⟩
  · subst hw
    rw [putTo_8]
    have := own_lit w w.heap.size 5 .u8 (putBytes n) (Nat.le_refl _) (by rw [putBytes_length]; omega)
    rwa [putBytes_length] at this
  · subst hw
    exact (Below.refl _ _).alloc (Nat.le_refl _) _

/-! ### Get -/
def beTo (l : List Int) (k : Nat) : Int := (l.take k).foldl (fun n c => n * 256 + c) 0
def be (l : List Int) : Int := l.foldl (fun n c => n * 256 + c) 0
theorem beTo_succ (l : List Int) (k : Nat) (h : k < l.length) : beTo l (k + 1) = beTo l k * 256 + nt l k := by
  unfold beTo
  rw [List.take_succ_eq_append_getElem h, List.foldl_append, nt_get h]
  simp
theorem beTo_le (l : List Int) (hb : Bs l) : ∀ k, k ≤ l.length → 0 ≤ beTo l k ∧ beTo l k < 256 ^ k
  | 0, _ => by simp [beTo]
  | k + 1, h => by
    have ih := beTo_le l hb k (by omega)
    have hc := hb.at k
    rw [beTo_succ l k (by omega), Int.pow_succ]
    omega
theorem beTo_lt6 (l : List Int) (hb : Bs l) (k : Nat) (h : k ≤ l.length) (h6 : k ≤ 6) : 0 ≤ beTo l k ∧ beTo l k < 281474976710656 := by
  have := beTo_le l hb k h
  have h6' : (256 : Int) ^ k ≤ 281474976710656 := by rcases k with _|_|_|_|_|_|_|k <;> first | decide | omega
  omega
theorem or_byte (n c : Int) (h0 : 0 ≤ n) (h1 : n < 281474976710656) (c0 : 0 ≤ c) (c1 : c < 256) : bits .or .u64 (n * 256) c = n * 256 + c := by
  obtain ⟨a, rfl⟩ := Int.eq_ofNat_of_zero_le h0
  obtain ⟨b, rfl⟩ := Int.eq_ofNat_of_zero_le c0
  have e : ((a : Int) * 256) = ((a * 256 : Nat) : Int) := by omega
  rw [e, u64_or_nat _ _ (by omega) (by omega), nat_join 8 _ _ (by omega) (by omega)]
  omega
set_option maxHeartbeats 1000000 in
theorem get_any (A : Option Addr) (n c : Nat) (l : List Int) (w : World) (hr : ReadsInt w .u8 A n l) (hb : Bs l) (h0 : 0 < n) (h8 : n ≤ 7) :
    Calls Try.prog 44 #[.slice A n c] w fun e w' => e = .returned (.tuple #[.int .u64 (be l), .bool true]) ∧ w' = w := by
  obtain ⟨ad, rfl, hc⟩ := reads_cell hr h0
  have HN := Lib.hid hr.1
  clear hr
  have HC := Lib.hid hc; clear hc
  have t0 : ((n : Int) == 0) = false := beq_eq_false_iff_ne.2 (by omega)
  have t1 : decide (8 < (n : Int)) = false := decide_eq_false (by omega)
  go_enter Try.func44, Try.ntmps44
  go_wp2
  go_loop [4, 6, 17] (fun v _ i => ∃ k : Nat, k ≤ n ∧ i = .int .i64 k ∧ v = .int .u64 (beTo l k)) (fun _ _ i => n - (intOf i).toNat)
  case atStart => exact ⟨0, by omega, rfl, rfl⟩
  case round =>
    obtain ⟨k, hk, rfl, rfl⟩ := hrel
    clear t0 t1
    by_cases hlt : k < n
    · have hcc := HC.out k hlt
      obtain ⟨b0, b1⟩ := hb.at k
      obtain ⟨l0, l1⟩ := beTo_lt6 l hb k (by rw [HN.out]; omega) (by omega)
      have H := Lib.hid (beTo_succ l k (by rw [HN.out]; omega))
      have Ho := Lib.hid (or_byte (beTo l k) (nt l k) l0 l1 b0 b1)
      go_wp2
      go_round
      case rel => exact ⟨k + 1, by omega, by go_num, by rw [H.out, Ho.out]⟩
      case measure => simp [intOf]; omega
    · obtain rfl : k = n := by omega
      go_wp2
      go_ret2
      exact ⟨by rw [show be l = beTo l k by simp [beTo, be, ← HN.out]]; rfl, rfl⟩

/-! ### Joined -/
/-- a slice of slices of bytes, that is read -/
def Rows2 (w : World) (A : Option Addr) (n : Nat) (ls : List (List Int)) : Prop :=
  ls.length = n ∧ n ≤ 9223372036854775807 ∧ (0 < n → ∃ ad, A = some ad ∧ ∀ j, j < n → ∃ Aj cj, w.cell? (ad.add j) = some (.slice Aj (ls.getD j []).length cj) ∧ ReadsInt w .u8 Aj (ls.getD j []).length (ls.getD j []))
def catTo (ls : List (List Int)) (k : Nat) : List Int := (ls.take k).flatten
theorem catTo_succ (ls : List (List Int)) (k : Nat) (h : k < ls.length) : catTo ls (k + 1) = catTo ls k ++ ls.getD k [] := by
  unfold catTo
  rw [List.take_succ_eq_append_getElem h, List.flatten_append]
  simp [List.getD_eq_getElem?_getD, List.getElem?_eq_getElem h]
theorem flatten_length_le (ls : List (List Int)) : ∀ k, (catTo ls k).length ≤ ls.flatten.length := by
  intro k
  unfold catTo
  have h := congrArg List.flatten (List.take_append_drop k ls)
  rw [List.flatten_append] at h
  have := congrArg List.length h
  rw [List.length_append] at this
  omega
theorem catTo_row_le (ls : List (List Int)) (k : Nat) (h : k < ls.length) : (catTo ls k).length + (ls.getD k []).length ≤ ls.flatten.length := by
  have := flatten_length_le ls (k + 1)
  rw [catTo_succ ls k h, List.length_append] at this
  exact this
theorem info_u8 : (Try.prog.info? 5).map (fun i => (i.zero, i.size, i.bytes)) = some (some (.int .u8 0), 1, 1) := by kernel_rfl
set_option maxHeartbeats 1000000 in
theorem joined_any (A : Option Addr) (n c : Nat) (ls : List (List Int)) (w : World) (hr : Rows2 w A n ls) (hs : ls.flatten.length ≤ 1000000000) :
    Calls Try.prog 36 #[.slice A n c] w fun e w' => ∃ v, e = .returned v ∧ w'.ownsRow w.heap.size 5 1 v ls.flatten.length (nums .u8 ls.flatten) ∧ Below w.heap.size w w' := by
  have HR := Lib.hid hr.2.2
  have HN := Lib.hid hr.1
  have hn := hr.2.1
  clear hr
  go_enter Try.func36, Try.ntmps36
  go_wp2
  go_loopw [3, 5, 8] (fun v _ i wr => ∃ k : Nat, k ≤ n ∧ i = .int .i64 k ∧ wr.ownsRow w.heap.size 5 1 v (catTo ls k).length (nums .u8 (catTo ls k)) ∧ Below w.heap.size w wr) (fun _ _ i _ => n - (intOf i).toNat)
  case atStart => exact ⟨0, by omega, rfl, by simpa [catTo, nums] using own_nil w _ _ 1, Below.refl _ _⟩
  case round =>
    obtain ⟨k, hk, rfl, hown, hB⟩ := hrel
    by_cases hlt : k < n
    · obtain ⟨ad, hA, hcs⟩ := HR.out (by omega)
      obtain ⟨Aj, cj, hcell, hrd⟩ := hcs k hlt
      subst hA
      have hcell' := pw_cell_below hB hcell
      have hrd' := hrd.below hB
      have hsz := catTo_row_le ls k (by rw [HN.out]; omega)
      have hl : ((catTo ls k).length + (ls.getD k []).length) * 1 ≤ 140737488355328 := by omega
      have H := Lib.hid (catTo_succ ls k (by rw [HN.out]; omega))
      clear hcs hcell hrd hsz
      generalize ls.getD k [] = y at *
      generalize catTo ls k = x at *
      go_wp2_with (at_builtin; refine print_append_row w.heap.size rfl _ _ 22 5 .u8 1 rfl Try.underlying22 info_u8 (by decide) _ _ _ _ _ _ rfl rfl hown hrd' hB hB.size hl ?_; intro v1 w1 hown1 hB1 _ _)
      go_wp2
      go_roundw
      case rel => exact ⟨k + 1, by omega, by go_num, by rw [H.out]; exact hown1, hB1⟩
      case measure => simp [intOf]; omega
    · obtain rfl : k = n := by omega
      go_wp2
      go_ret
      refine ⟨_, rfl, ?_, hB⟩
      rw [show ls.flatten = catTo ls k by simp [catTo, ← HN.out]]
      exact hown

/-! ### Same -/
def sameTo (a b : List Int) (k : Nat) : Prop := ∀ j, j < k → nt a j = nt b j
theorem same_of (a b : List Int) (h : a.length = b.length) (hs : sameTo a b a.length) : a = b := by
  apply List.ext_getElem h
  intro i h1 h2
  have := hs i h1
  rwa [nt_get h1, nt_get h2] at this
set_option maxHeartbeats 1000000 in
theorem same_yes (A B : Option Addr) (n c d : Nat) (l : List Int) (w : World) (hr : ReadsInt w .u8 A n l) (hr' : ReadsInt w .u8 B n l) :
    Calls Try.prog 8 #[.slice A n c, .slice B n d] w fun e w' => e = .returned (.bool true) ∧ ∃ m, w' = w.drewN m := by
  have HA := Lib.hid hr.2.2
  have HB := Lib.hid hr'.2.2
  have hn := hr.2.1
  clear hr hr'
  have t0 : ((n : Int) != (n : Int)) = false := by simp
  go_enter Try.func8, Try.ntmps8
  go_wp2
  go_loopw [5] (fun i wr => ∃ k m : Nat, k ≤ n ∧ i = .int .i64 k ∧ wr = w.drewN m) (fun i _ => n - (intOf i).toNat)
  case atStart => exact ⟨0, 0, by omega, rfl, rfl⟩
  case round =>
    obtain ⟨k, m, hk, rfl, rfl⟩ := hrel
    by_cases hlt : k < n
    · obtain ⟨ad, hA, hcs⟩ := HA.out (by omega)
      obtain ⟨bd, hB, hds⟩ := HB.out (by omega)
      have h1 := hcs k hlt
      have h2 := hds k hlt
      subst hA hB
      change w.cell? (ad.add k) = some (.int .u8 (nt l k)) at h1
      change w.cell? (bd.add k) = some (.int .u8 (nt l k)) at h2
      clear hcs hds
      have q0 : 0 ≤ (k : Int) := by omega
      have q1 : (k : Int) < (n : Int) := by omega
      go_wp2
      go_quiet (fail)
      go_wp2
      go_roundw
      case rel => exact ⟨k + 1, _, by omega, by go_num, rfl⟩
      case measure => simp [intOf]; omega
    · obtain rfl : k = n := by omega
      go_wp2
      go_ret
      exact ⟨rfl, _, rfl⟩
end Go.Proofs.Ytejhjlfakfaegaa
