/- What octet's functions answer: bytes of a number, a number of bytes, rows joined. The digest in plain words: rounds, blocks, padding. No program here. sha's functions: what each leaves. A region that draws its order, whose first operations only read, and whose last ones follow one another: one walk serves every order. (Turned from the kit's own law for a world that stands: here the first operations may draw.) sha's block: sixty-four bytes taken in. sha's Write: bytes taken in. sha's New, Digest, Of. Appending onto a row: the old row still reads as it did. (q_append2 is the printed words' q_append, turned.) Small words on rows of the call's own. A byte slice converted to its own type: the same value; its block is marked. Literals of bytes that are converted to their own type. One row of bytes as rows. What comes in as an array of sixteen bytes. -/
import Derived.Test.YtejhjlfakfaegaaDoorRows
import Derived.Test.YtejhjlfakfaegaaDoorWWords
import Derived.WalkKit
import Derived.WalkSpells
import Derived.WalkLawsBesides
import Derived.Deep.QuietTactic
import Derived.BigQuiet
import Derived.Deep.LoopGhost
import Derived.Lib.Hide
import Derived.Deep.RegionHeld3
import Derived.StillTailTactics
import Derived.Outline
import Derived.Great.Walk
import Derived.Deep.DeepCutAuto
import Derived.Deep.CutBlock
import Derived.Lib.UnsafeStr
import Derived.WideShapes
set_option linter.unusedSimpArgs false
set_option linter.unusedVariables false
namespace Go.Proofs.YtejhjlfakfaegaaDoor
open Go.RowKit Go.Proofs.YtejhjlfakfaegaaDoorW.PrintWords

/-! ### Words -/
/-- the k-th number, 0 behind the end -/
def nt (l : List Int) (k : Nat) : Int := l.getD k 0
theorem nt_get {l : List Int} {k : Nat} (h : k < l.length) : nt l k = l[k] := by simp [nt, List.getD_eq_getElem?_getD, List.getElem?_eq_getElem h]
/-- the bytes' range -/
def Bs (l : List Int) : Prop := ∀ x ∈ l, 0 ≤ x ∧ x < 256
theorem Bs.at {l : List Int} (h : Bs l) (k : Nat) : 0 ≤ nt l k ∧ nt l k < 256 := by
 by_cases hk : k < l.length
 ·rw [nt_get hk]; exact h l[k] (List.getElem_mem hk)
 ·simp [nt, List.getD_eq_getElem?_getD, List.getElem?_eq_none (Nat.le_of_not_lt hk)]
theorem reads_cell {w : World} {k : IntKind} {A : Option Addr} {n : Nat} {xs : List Int} (h : ReadsInt w k A n xs) (hn : 0 < n) : ∃ ad, A = some ad ∧ ∀ j, j < n → w.cell? (ad.add j) = some (.int k (nt xs j)) := h.2.2 hn

/-! ### Put -/
/-- the k-th of the eight bytes -/
def putAt (n : Int) (k : Nat) : Int := n / 2 ^ (56 - 8 * k) % 256
def putTo (n : Int) (k : Nat) : Array Value := ((List.range 8).map fun i => if i < k then Value.int .u8 (putAt n i) else .int .u8 0).toArray
theorem putTo_set (n : Int) (k : Nat) (h : k < 8) : (putTo n k).setIfInBounds k (.int .u8 (n / 2 ^ (56 - 8 * k) % 256)) = putTo n (k+1) := by
 change (putTo n k).setIfInBounds k (.int .u8 (putAt n k)) = _
 unfold putTo
 apply Array.ext'
 simp [List.range_succ, List.set]
 rcases k with _|_|_|_|_|_|_|_|k <;> simp <;> omega
def putBytes (n : Int) : List Int := (List.range 8).map (putAt n)
theorem putTo_8 (n : Int) : putTo n 8 = (nums .u8 (putBytes n)).toArray := by simp [putTo, nums, putBytes, List.range_succ]
theorem putBytes_length (n : Int) : (putBytes n).length = 8 := by simp [putBytes]
theorem putBytes_bs (n : Int) : Bs (putBytes n) := by
 intro x hx
 simp only [putBytes, List.mem_map] at hx
 obtain ⟨k, _, rfl⟩ := hx
 unfold putAt; omega
theorem make8 (w : World) : (Instr.makeSlice 23 (.int .i64 8) (.int .i64 8)).run Tryd.prog w = .ok (.slice (some ⟨w.heap.size, 0, none⟩) 8 8) (w.alloc (.cells (putTo 0 0) 5)) := by kernel_rfl
set_option maxHeartbeats 400000 in
theorem put_any (n : Int) (w : World) (h0 : 0 ≤ n) (h : n < 18446744073709551616) :
  Calls Tryd.prog 29 #[.int .u64 n] w fun e w' => e = .returned (.slice (some ⟨w.heap.size, 0, none⟩) 8 8) ∧ w' = w.alloc (.cells (putTo n 8) 5) := by
 have hmk := fun w => make8 w
 go_enter Tryd.func29, Tryd.ntmps29
 go_wp2
 go_loopw [4, 8] (fun _ i wr => ∃ k : Nat, k ≤ 8 ∧ i = .int .i64 k ∧ wr = w.alloc (.cells (putTo n k) 5)) (fun _ i _ => (8 - intOf i).toNat)
 case atStart => exact ⟨0, by omega, rfl, rfl⟩
 case round =>
  obtain ⟨k, hk, rfl, rfl⟩ := hrel
  clear hmk
  by_cases hlt : k < 8
  ·have hset := Lib.hid (putTo_set n k hlt)
   have hc : (putTo n k)[k]? = some (if k < k then Value.int .u8 (putAt n k) else .int .u8 0) := by simp [putTo, hlt]
   go_wp2
   go_roundw
   case rel => exact ⟨k + 1, by omega, by go_num, by rw [hset.out]⟩
   case measure => simp [intOf]; omega
  ·obtain rfl : k = 8 := by omega
   go_wp2
   go_ret
   exact ⟨rfl, rfl⟩
/-- Put as others use it. -/
theorem put_own (n : Int) (w : World) (h0 : 0 ≤ n) (h : n < 18446744073709551616) :
  Calls Tryd.prog 29 #[.int .u64 n] w fun e w' => ∃ v, e = .returned v ∧ w'.ownsRow w.heap.size 5 1 v 8 (nums .u8 (putBytes n)) ∧ Below w.heap.size w w' := by
 refine (put_any n w h0 h).mono fun e w' ⟨he, hw⟩ => ⟨_, he, ?_, ?_⟩
 ·subst hw
  rw [putTo_8]
  have := own_lit w w.heap.size 5 .u8 (putBytes n) (Nat.le_refl _) (by rw [putBytes_length]; omega)
  rwa [putBytes_length] at this
 ·subst hw
  exact (Below.refl _ _).alloc (Nat.le_refl _) _

/-! ### Get -/
def beTo (l : List Int) (k : Nat) : Int := (l.take k).foldl (fun n c => n * 256 + c) 0
def be (l : List Int) : Int := l.foldl (fun n c => n * 256 + c) 0
theorem beTo_succ (l : List Int) (k : Nat) (h : k < l.length) : beTo l (k + 1) = beTo l k * 256 + nt l k := by
 unfold beTo
 rw [List.take_succ_eq_append_getElem h, List.foldl_append, nt_get h]
 simp
theorem beTo_le (l : List Int) (hb : Bs l) : ∀ k, k ≤ l.length → 0 ≤ beTo l k ∧ beTo l k < 256 ^ k
 | 0, _ => by simp [beTo]
 | k + 1, h => by
  have ih := beTo_le l hb k (by omega)
  have hc := hb.at k
  rw [beTo_succ l k (by omega), Int.pow_succ]
  omega
theorem beTo_lt6 (l : List Int) (hb : Bs l) (k : Nat) (h : k ≤ l.length) (h6 : k ≤ 6) : 0 ≤ beTo l k ∧ beTo l k < 281474976710656 := by
 have := beTo_le l hb k h
 have h6' : (256 : Int) ^ k ≤ 281474976710656 := by rcases k with _|_|_|_|_|_|_|k <;> first | decide | omega
 omega
theorem or_byte (n c : Int) (h0 : 0 ≤ n) (h1 : n < 281474976710656) (c0 : 0 ≤ c) (c1 : c < 256) : bits .or .u64 (n * 256) c = n * 256 + c := by
 obtain ⟨a, rfl⟩ := Int.eq_ofNat_of_zero_le h0
 obtain ⟨b, rfl⟩ := Int.eq_ofNat_of_zero_le c0
 have e : ((a : Int) * 256) = ((a * 256 : Nat) : Int) := by omega
 rw [e, u64_or_nat _ _ (by omega) (by omega), nat_join 8 _ _ (by omega) (by omega)]
 omega
set_option maxHeartbeats 1000000 in
theorem get_any (A : Option Addr) (n c : Nat) (l : List Int) (w : World) (hr : ReadsInt w .u8 A n l) (hb : Bs l) (h0 : 0 < n) (h8 : n ≤ 7) :
  Calls Tryd.prog 62 #[.slice A n c] w fun e w' => e = .returned (.tuple #[.int .u64 (be l), .bool true]) ∧ w' = w := by
 obtain ⟨ad, rfl, hc⟩ := reads_cell hr h0
 have HN := Lib.hid hr.1
 clear hr
 have HC := Lib.hid hc; clear hc
 have t0 : ((n : Int) == 0) = false := beq_eq_false_iff_ne.2 (by omega)
 have t1 : decide (8 < (n : Int)) = false := decide_eq_false (by omega)
 go_enter Tryd.func62, Tryd.ntmps62
 go_wp2
 go_loop [4, 6, 17] (fun v _ i => ∃ k : Nat, k ≤ n ∧ i = .int .i64 k ∧ v = .int .u64 (beTo l k)) (fun _ _ i => n - (intOf i).toNat)
 case atStart => exact ⟨0, by omega, rfl, rfl⟩
 case round =>
  obtain ⟨k, hk, rfl, rfl⟩ := hrel
  clear t0 t1
  by_cases hlt : k < n
  ·have hcc := HC.out k hlt
   obtain ⟨b0, b1⟩ := hb.at k
   obtain ⟨l0, l1⟩ := beTo_lt6 l hb k (by rw [HN.out]; omega) (by omega)
   have H := Lib.hid (beTo_succ l k (by rw [HN.out]; omega))
   have Ho := Lib.hid (or_byte (beTo l k) (nt l k) l0 l1 b0 b1)
   go_wp2
   go_round
   case rel => exact ⟨k + 1, by omega, by go_num, by rw [H.out, Ho.out]⟩
   case measure => simp [intOf]; omega
  ·obtain rfl : k = n := by omega
   go_wp2
   go_ret2
   exact ⟨by rw [show be l = beTo l k by simp [beTo, be, ← HN.out]]; rfl, rfl⟩

/-! ### Joined -/
/-- a slice of slices of bytes, that is read -/
def Rows2 (w : World) (A : Option Addr) (n : Nat) (ls : List (List Int)) : Prop :=
 ls.length = n ∧ n ≤ 9223372036854775807 ∧ (0 < n → ∃ ad, A = some ad ∧ ∀ j, j < n → ∃ Aj cj, w.cell? (ad.add j) = some (.slice Aj (ls.getD j []).length cj) ∧ ReadsInt w .u8 Aj (ls.getD j []).length (ls.getD j []))
def catTo (ls : List (List Int)) (k : Nat) : List Int := (ls.take k).flatten
theorem catTo_succ (ls : List (List Int)) (k : Nat) (h : k < ls.length) : catTo ls (k + 1) = catTo ls k ++ ls.getD k [] := by
 unfold catTo
 rw [List.take_succ_eq_append_getElem h, List.flatten_append]
 simp [List.getD_eq_getElem?_getD, List.getElem?_eq_getElem h]
theorem flatten_length_le (ls : List (List Int)) : ∀ k, (catTo ls k).length ≤ ls.flatten.length := by
 intro k
 unfold catTo
 have h := congrArg List.flatten (List.take_append_drop k ls)
 rw [List.flatten_append] at h
 have := congrArg List.length h
 rw [List.length_append] at this
 omega
theorem catTo_row_le (ls : List (List Int)) (k : Nat) (h : k < ls.length) : (catTo ls k).length + (ls.getD k []).length ≤ ls.flatten.length := by
 have := flatten_length_le ls (k + 1)
 rw [catTo_succ ls k h, List.length_append] at this
 exact this
theorem info_u8 : (Tryd.prog.info? 5).map (fun i => (i.zero, i.size, i.bytes)) = some (some (.int .u8 0), 1, 1) := by kernel_rfl
set_option maxHeartbeats 1000000 in
theorem joined_any (A : Option Addr) (n c : Nat) (ls : List (List Int)) (w : World) (hr : Rows2 w A n ls) (hs : ls.flatten.length ≤ 1000000000) :
  Calls Tryd.prog 30 #[.slice A n c] w fun e w' => ∃ v, e = .returned v ∧ w'.ownsRow w.heap.size 5 1 v ls.flatten.length (nums .u8 ls.flatten) ∧ Below w.heap.size w w' := by
 have HR := Lib.hid hr.2.2
 have HN := Lib.hid hr.1
 have hn := hr.2.1
 clear hr
 go_enter Tryd.func30, Tryd.ntmps30
 go_wp2
 go_loopw [3, 5, 8] (fun v _ i wr => ∃ k : Nat, k ≤ n ∧ i = .int .i64 k ∧ wr.ownsRow w.heap.size 5 1 v (catTo ls k).length (nums .u8 (catTo ls k)) ∧ Below w.heap.size w wr) (fun _ _ i _ => n - (intOf i).toNat)
 case atStart => exact ⟨0, by omega, rfl, by simpa [catTo, nums] using own_nil w _ _ 1, Below.refl _ _⟩
 case round =>
  obtain ⟨k, hk, rfl, hown, hB⟩ := hrel
  by_cases hlt : k < n
  ·obtain ⟨ad, hA, hcs⟩ := HR.out (by omega)
   obtain ⟨Aj, cj, hcell, hrd⟩ := hcs k hlt
   subst hA
   have hcell' := pw_cell_below hB hcell
   have hrd' := hrd.below hB
   have hsz := catTo_row_le ls k (by rw [HN.out]; omega)
   have hl : ((catTo ls k).length + (ls.getD k []).length) * 1 ≤ 140737488355328 := by omega
   have H := Lib.hid (catTo_succ ls k (by rw [HN.out]; omega))
   clear hcs hcell hrd hsz
   generalize ls.getD k [] = y at *
   generalize catTo ls k = x at *
   go_wp2_with (at_builtin; refine print_append_row w.heap.size rfl _ _ 23 5 .u8 1 rfl Tryd.underlying23 info_u8 (by decide) _ _ _ _ _ _ rfl rfl hown hrd' hB hB.size hl ?_; intro v1 w1 hown1 hB1 _ _)
   go_wp2
   go_roundw
   case rel => exact ⟨k + 1, by omega, by go_num, by rw [H.out]; exact hown1, hB1⟩
   case measure => simp [intOf]; omega
  ·obtain rfl : k = n := by omega
   go_wp2
   go_ret
   refine ⟨_, rfl, ?_, hB⟩
   rw [show ls.flatten = catTo ls k by simp [catTo, ← HN.out]]
   exact hown

/-! ### Same -/
def sameTo (a b : List Int) (k : Nat) : Prop := ∀ j, j < k → nt a j = nt b j
theorem same_of (a b : List Int) (h : a.length = b.length) (hs : sameTo a b a.length) : a = b := by
 apply List.ext_getElem h
 intro i h1 h2
 have := hs i h1
 rwa [nt_get h1, nt_get h2] at this
set_option maxHeartbeats 1000000 in
theorem same_yes (A B : Option Addr) (n c d : Nat) (l : List Int) (w : World) (hr : ReadsInt w .u8 A n l) (hr' : ReadsInt w .u8 B n l) :
  Calls Tryd.prog 9 #[.slice A n c, .slice B n d] w fun e w' => e = .returned (.bool true) ∧ ∃ m, w' = w.drewN m := by
 have HA := Lib.hid hr.2.2
 have HB := Lib.hid hr'.2.2
 have hn := hr.2.1
 clear hr hr'
 have t0 : ((n : Int) != (n : Int)) = false := by simp
 go_enter Tryd.func9, Tryd.ntmps9
 go_wp2
 go_loopw [5] (fun i wr => ∃ k m : Nat, k ≤ n ∧ i = .int .i64 k ∧ wr = w.drewN m) (fun i _ => n - (intOf i).toNat)
 case atStart => exact ⟨0, 0, by omega, rfl, rfl⟩
 case round =>
  obtain ⟨k, m, hk, rfl, rfl⟩ := hrel
  by_cases hlt : k < n
  ·obtain ⟨ad, hA, hcs⟩ := HA.out (by omega)
   obtain ⟨bd, hB, hds⟩ := HB.out (by omega)
   have h1 := hcs k hlt
   have h2 := hds k hlt
   subst hA hB
   change w.cell? (ad.add k) = some (.int .u8 (nt l k)) at h1
   change w.cell? (bd.add k) = some (.int .u8 (nt l k)) at h2
   clear hcs hds
   have q0 : 0 ≤ (k : Int) := by omega
   have q1 : (k : Int) < (n : Int) := by omega
   go_wp2
   go_quiet (fail)
   go_wp2
   go_roundw
   case rel => exact ⟨k + 1, _, by omega, by go_num, rfl⟩
   case measure => simp [intOf]; omega
  ·obtain rfl : k = n := by omega
   go_wp2
   go_ret
   exact ⟨rfl, _, rfl⟩
end Go.Proofs.YtejhjlfakfaegaaDoor
set_option linter.unusedSimpArgs false
set_option linter.unusedVariables false
namespace Go.Proofs.YtejhjlfakfaegaaDoor
open Go.RowKit Go.Proofs.YtejhjlfakfaegaaDoorW.PrintWords

/-- bits turned to the right -/
def rot (n : Nat) (x : Int) : Int := bits .or .u32 (x / 2 ^ n) (x * 2 ^ (32 - n) % 4294967296)
def xr (a b : Int) : Int := bits .xor .u32 a b
def an (a b : Int) : Int := bits .and .u32 a b
def no (a : Int) : Int := xr 4294967295 a
def ad (a b : Int) : Int := (a + b) % 4294967296
/-- is a word -/
def W32 (x : Int) : Prop := 0 ≤ x ∧ x < 4294967296
theorem ad_w (a b : Int) : W32 (ad a b) := by unfold W32 ad; omega
def sg0 (x : Int) : Int := xr (xr (rot 7 x) (rot 18 x)) (x / 8)
def sg1 (x : Int) : Int := xr (xr (rot 17 x) (rot 19 x)) (x / 1024)
def Sg0 (x : Int) : Int := xr (xr (rot 2 x) (rot 13 x)) (rot 22 x)
def Sg1 (x : Int) : Int := xr (xr (rot 6 x) (rot 11 x)) (rot 25 x)
def chs (e f g : Int) : Int := xr (an e f) (an (no e) g)
def maj (a b c : Int) : Int := xr (xr (an a b) (an a c)) (an b c)

/-- words of a block -/
def w16 (b : List Int) (k : Nat) : List Int := (List.range k).map fun i => be ((b.drop (4 * i)).take 4)
/-- the next word -/
def wNext (w : List Int) : Int :=
 let n := w.length
 ad (ad (ad (nt w (n - 16)) (sg0 (nt w (n - 15)))) (nt w (n - 7))) (sg1 (nt w (n - 2)))
def wGo : Nat → List Int → List Int
 | 0, w => w
 | k + 1, w => wGo k (w ++ [wNext w])
/-- all sixty-four words -/
def words (b : List Int) : List Int := wGo 48 (w16 b 16)

/-- one round: eight words become eight -/
def rnd (k w : Int) : List Int → List Int
 | [a, b, c, d, e, f, g, h] =>
  let one := ad (ad (ad (ad h (Sg1 e)) (chs e f g)) k) w
  let two := ad (Sg0 a) (maj a b c)
  [ad one two, a, b, c, ad d one, e, f, g]
 | v => v
def rounds (ks ws : List Int) : Nat → List Int → List Int
 | 0, v => v
 | n + 1, v => rnd (nt ks n) (nt ws n) (rounds ks ws n v)
def addAll (a b : List Int) : List Int := (List.range 8).map fun i => ad (nt a i) (nt b i)
/-- behind a block -/
def blk (ks h b : List Int) : List Int := addAll h (rounds ks (words b) 64 h)
/-- behind all whole blocks, and what is left -/
def absorb (ks : List Int) : Nat → List Int → List Int → List Int × List Int
 | 0, h, m => (h, m)
 | n + 1, h, m => if 64 ≤ m.length then absorb ks n (blk ks h (m.take 64)) (m.drop 64) else (h, m)
def h0s : List Int := [1779033703, 3144134277, 1013904242, 2773480762, 1359893119, 2600822924, 528734635, 1541459225]
def kst : List Int := [1116352408, 1899447441, 3049323471, 3921009573, 961987163, 1508970993, 2453635748, 2870763221, 3624381080, 310598401, 607225278, 1426881987, 1925078388, 2162078206, 2614888103, 3248222580, 3835390401, 4022224774, 264347078, 604807628, 770255983, 1249150122, 1555081692, 1996064986, 2554220882, 2821834349, 2952996808, 3210313671, 3336571891, 3584528711, 113926993, 338241895, 666307205, 773529912, 1294757372, 1396182291, 1695183700, 1986661051, 2177026350, 2456956037, 2730485921, 2820302411, 3259730800, 3345764771, 3516065817, 3600352804, 4094571909, 275423344, 430227734, 506948616, 659060556, 883997877, 958139571, 1322822218, 1537002063, 1747873779, 1955562222, 2024104815, 2227730452, 2361852424, 2428436474, 2756734187, 3204031479, 3329325298]
def padded (m : List Int) : List Int := m ++ 128 :: (List.replicate ((119 - m.length % 64) % 64) 0 ++ putBytes (8 * m.length))
def out32 (h : List Int) : List Int := (List.range 8).flatMap fun i => (putBytes (nt h i)).drop 4
/-- the digest -/
def sha (m : List Int) : List Int := out32 (absorb kst (m.length + 64) h0s (padded m)).1
example : (sha [97, 98, 99]).take 4 = [186, 120, 22, 191] := by decide +kernel
end Go.Proofs.YtejhjlfakfaegaaDoor
set_option linter.unusedSimpArgs false
set_option linter.unusedVariables false
namespace Go.Proofs.YtejhjlfakfaegaaDoor
open Go.RowKit Go.Proofs.YtejhjlfakfaegaaDoorW.PrintWords

set_option maxHeartbeats 400000 in
theorem turn_any (x : Int) (n : Nat) (w : World) (h0 : 0 < n) (h : n < 32) (hx : W32 x) :
  Calls Tryd.prog 63 #[.int .u32 x, .int .i64 n] w fun e w' => e = .returned (.int .u32 (rot n x)) ∧ ∃ m, w' = w.drewN m := by
 obtain ⟨hx0, hx1⟩ := hx
 have e1 : (32 - (n : Int)).toNat = 32 - n := by omega
 go_enter Tryd.func63, Tryd.ntmps63
 go_wp2
 go_quiet (fail)
 go_wp2
 go_ret
 refine ⟨?_, _, rfl⟩
 show Ending.returned (Value.int .u32 (bits BinOp.or IntKind.u32 (x / 2 ^ n) _)) = _
 rfl
/-- as the program's own numerals stand -/
theorem turn_lit (x : Int) (n : Int) (w : World) (h0 : 0 < n) (h : n < 32) (hx : W32 x) :
  Calls Tryd.prog 63 #[.int .u32 x, .int .i64 n] w fun e w' => e = .returned (.int .u32 (rot n.toNat x)) ∧ ∃ m, w' = w.drewN m := by
 obtain ⟨k, rfl⟩ := Int.eq_ofNat_of_zero_le (show 0 ≤ n by omega)
 exact turn_any x k w (by omega) (by omega) hx

/-- the rounds' constants, as cells -/
def kArr : Array Value := (nums .u32 kst).toArray
/-- sixty-four noughts -/
def z64 : Array Value := Array.replicate 64 (.int .u32 0)
theorem all_kArr : (kArr.all fun x => x.oneCell') = true := by decide +kernel
theorem setRow_alloc (w : World) (cs ds : Array Value) (t : TypeId) : (w.alloc (.cells cs t)).setRow w.heap.size ds = w.alloc (.cells ds t) := by
 have h : ((w.alloc (.cells cs t)).setRow w.heap.size ds).heap = (w.alloc (.cells ds t)).heap := by
  apply Array.ext_getElem?
  intro k
  show ((w.heap.push _).modify _ _)[k]? = (w.heap.push _)[k]?
  rw [Array.getElem?_modify, Array.getElem?_push, Array.getElem?_push]
  by_cases hk : k = w.heap.size
  ·subst hk; simp
  ·rw [if_neg (fun e => hk e.symm), if_neg hk, if_neg hk]
 exact congrArg (fun h => { w with heap := h }) h
set_option maxHeartbeats 400000 in
set_option maxRecDepth 100000 in
theorem rounds_any (w : World) :
  Calls Tryd.prog 64 #[] w fun e w' => e = .returned (.agg kArr) ∧ w' = w.alloc (.cells kArr 95) := by
 go_enter Tryd.func64, Tryd.ntmps64
 go_wp2_with (first
  | (refine Great.wpList_runTo rfl (some 0) rfl (.pointer (some ⟨w.heap.size, 0, none⟩)) (w.alloc (.cells z64 95)) (by kernel_rfl) ?_)
  | (refine Great.wpList_runTo rfl (some 1) rfl (.agg kArr) _ (by kernel_rfl) ?_)
  | (refine wpList_store_row rfl 95 (.tmp 0) (.tmp 1) rfl w.heap.size kArr rfl rfl 95 z64 (heap_alloc_new _ _) (by kernel_rfl) (by kernel_rfl) all_kArr ?_; rw [setRow_alloc]))
 refine bodyPost_ret (results_cell_row rfl _ _ w.heap.size 95 kArr (0, 0) (.array 64 72) rfl (heap_alloc_new _ _) Tryd.underlying95 rfl (by kernel_rfl)) rfl ⟨rfl, rfl⟩
end Go.Proofs.YtejhjlfakfaegaaDoor
set_option linter.unusedSimpArgs false
set_option linter.unusedVariables false
namespace Go
section
variable {P : Program} {ops : Array Oper} {md : Region.Mode} {C : World → Prop}

def wpAnyLQ (P : Program) (md : Region.Mode) (ops : Array Oper) (C : World → Prop) (n : Nat) (L : Array Bool → Act → Prop) : Nat → Array Bool → Act → Prop
 | 0, listed, a => L listed a
 | f + 1, listed, a =>
  Region.ready md ops listed ≠ [] ∧ ∀ i ∈ Region.ready md ops listed, i < n ∧ qOp P ops C i (wpAnyLQ P md ops C n L f (listed.setIfInBounds i true)) a
theorem wpAny_of_headQ {n g : Nat} {L : Array Bool → Act → Prop} {Q' : Exit → Act → World → Prop} (hL : ∀ listed a w, C w → L listed a → wpAny P md ops Q' g listed a w) :
  ∀ (f : Nat) (listed : Array Bool) (a : Act) (w : World), C w → wpAnyLQ P md ops C n L f listed a → wpAny P md ops Q' (f + g) listed a w
 | 0, listed, a, w, hw, h => by rw [Nat.zero_add]; exact hL _ _ _ hw h
 | f + 1, listed, a, w, hw, h => by
  rw [show f + 1 + g = (f + g) + 1 by omega]
  exact ⟨fun h0 => absurd h0 h.1, fun i hi => wpOp_of_qOp hw (fun a' w' hw' h' => wpAny_of_headQ hL f _ a' w' hw' h') (h.2 i hi).2⟩
theorem wpAnyLQ_first {n i : Nat} {oi : Oper} {v : Value} {L : Array Bool → Act → Prop} (hi : ops[i]? = some oi) (hsel : ∀ (j : Nat) (o : Oper) cs b, ops[j]? = some o → o.op ≠ .select cs b)
  (hs : Region.sinkB md ops n = true) (hc : Region.chainB md ops n = true) (hn : n < ops.size) (hin : i < n)
  (hdone : ∀ listed a, L listed a → ∀ j ∈ Region.ready md ops listed, n ≤ j) :
  ∀ (f : Nat) (listed : Array Bool) (a : Act), HeadInv md ops n listed →
   (∀ j oj, ops[j]? = some oj → j ≠ i → listed.getD j true = false → (∀ e ∈ oj.after, Region.binds md e = true → e.on ≠ i) → oi.apart ops oj = true) →
   i ∈ Region.ready md ops listed → YieldsIn P ops C oi v a →
   wpAnyLQ P md ops C n L f (listed.setIfInBounds i true) (a.put oi.dst v) → wpAnyLQ P md ops C n L (f + 1) listed a := by
 intro f
 induction f with
 | zero =>
  intro listed a inv _ hr hy H
  have hun := (mem_ready.1 hr).1
  refine ⟨fun h => (by rw [h] at hr; cases hr), fun j hj => ?_⟩
  have hjn : j < n := by
   rcases Nat.lt_or_ge j n with h | h
   ·exact h
   ·exact absurd hj (tail_waits hs hc hn inv _ i rfl hin hun j h)
  refine ⟨hjn, ?_⟩
  by_cases hji : j = i
  ·subst hji; exact hy.qOp hi H
  ·have := hdone _ _ H j (ready_mono hj hji)
   omega
 | succ f ih =>
  intro listed a inv hfree hr hy H
  have hun := (mem_ready.1 hr).1
  refine ⟨fun h => (by rw [h] at hr; cases hr), fun j hj => ?_⟩
  have hjn : j < n := by
   rcases Nat.lt_or_ge j n with h | h
   ·exact h
   ·exact absurd hj (tail_waits hs hc hn inv _ i rfl hin hun j h)
  refine ⟨hjn, ?_⟩
  by_cases hji : j = i
  ·subst hji; exact hy.qOp hi H
  ·have h1 := (H.2 j (ready_mono hj hji)).2
   obtain ⟨hjun, oj, hoj, hall⟩ := mem_ready.1 hj
   have hnot : ∀ e ∈ oj.after, Region.binds md e = true → e.on ≠ i := fun e he hb heq => by
    have h1 := hall e he hb
    rw [heq, getD_both hun] at h1
    cases h1
   have h2 := qOp_put hoj (hfree j oj hoj hji hjun hnot) (fun cs b => hsel i oi cs b hi) (fun cs b => hsel j oj cs b hoj) hy h1
   have hfree' : ∀ k ok, ops[k]? = some ok → k ≠ i → (listed.setIfInBounds j true).getD k true = false →
     (∀ e ∈ ok.after, Region.binds md e = true → e.on ≠ i) → oi.apart ops ok = true := fun k ok hk hki hun hno => by
    refine hfree k ok hk hki ?_ hno
    by_cases hjk : j = k
    ·subst hjk; exact hjun
    ·rw [getD_set_ne true hjk] at hun; exact hun
   refine qOp_mono (fun a' h3 => ih (listed.setIfInBounds j true) a' (inv.set hj hjn) hfree' (ready_mono hr (Ne.symm hji)) h3.1 ?_) h2
   rw [Array.setIfInBounds_comm _ _ hji]
   exact h3.2
theorem wpAnyLQ_lex {n g : Nat} {Lq : Act → Prop} (hsel : Region.noSelect ops = true) (hs : Region.sinkB md ops n = true) (hc : Region.chainB md ops n = true) (hn : n < ops.size) :
  ∀ (l : List Oper) (k : Nat) (listed : Array Bool) (a : Act), (∀ j, j < l.length → l[j]? = ops[k + j]?) → k + l.length = n → HeadInv md ops n listed →
  Region.lexHead md ops g l.length k listed = true → wpQuiet P ops C Lq l a →
  wpAnyLQ P md ops C n (fun listed' a' => Region.seqB md ops g n listed' = true ∧ Lq a') l.length listed a
 | [], k, listed, a, _, hk, _, hB, h => by
  have : k = n := by simpa using hk
  subst this
  exact ⟨by simpa [Region.lexHead] using hB, h⟩
 | o :: l, k, listed, a, hl, hk, inv, hB, h => by
  have h0 : ops[k]? = some o := by simpa using (hl 0 (by simp)).symm
  simp only [List.length_cons, Region.lexHead, Bool.and_eq_true] at hB
  obtain ⟨⟨hr, hf⟩, hB'⟩ := hB
  have hkn : k < n := by simp only [List.length_cons] at hk; omega
  have hr' : k ∈ Region.ready md ops listed := by simpa using hr
  have hst : qOp P ops C k (wpQuiet P ops C Lq l) a := by unfold qOp; simp only [h0]; exact h
  obtain ⟨v, hy, hK⟩ := yieldsIn_of_qOp h0 hst
  exact wpAnyLQ_first h0 (Region.noSelect_spec hsel) hs hc hn hkn (fun listed' a' hL => seqB_ready hL.1) l.length listed a inv (Region.free_spec h0 hf) hr' hy
   (wpAnyLQ_lex hsel hs hc hn l (k + 1) _ _ (fun j hj => by have := hl (j + 1) (by simp; omega); simpa [Nat.add_assoc, Nat.add_comm 1 j] using this) (by simp only [List.length_cons] at hk; omega) (inv.set hr' hkn) hB' hK)
/-- The first n operations are quiet in the class 'w after some draws'; the others follow one another. -/
theorem wp_region_quiet_tail {id : Nat} {Q : Exit → Act → World → Prop} {a : Act} {w : World} {l : List Oper} (n : Nat) (hm : P.follows .mixedOrders = true) (hB : Region.lexTailB .any l.toArray n = true)
  (h : wpQuiet P l.toArray (fun w' => ∃ n, w' = w.drewN n) (fun a' => ∀ w', (∃ n, w' = w.drewN n) → wpList P l.toArray Q (l.drop n) a' w') (l.take n) a) : (Code.region id l.toArray true).wp P Q a w := by
 simp only [Region.lexTailB, Bool.and_eq_true, decide_eq_true_eq] at hB
 obtain ⟨⟨⟨⟨hsel, hn⟩, hs⟩, hc⟩, hlex⟩ := hB
 have hn' : n < l.length := by simpa using hn
 have htl : (l.take n).length = n := by simp; omega
 have hdl : (l.drop n).length = l.toArray.size - n := by simp
 have inv0 : HeadInv .any l.toArray n (Array.replicate l.toArray.size false) :=
  ⟨by simp, fun j oj _ hl => (by rw [getD_replicate_false] at hl; cases hl), fun t _ ht => getD_in (by simpa using ht) (getD_replicate_false _ _)⟩
 have H := wpAnyLQ_lex (md := .any) (g := l.toArray.size - n) hsel hs hc hn (l.take n) 0 _ a (fun j hj => by
  have hj' : j < n := by rw [htl] at hj; exact hj
  simp [hj']) (by simpa using htl) inv0 (by rw [htl]; exact hlex) h
 refine wp_region_any hm ?_
 have := wpAny_of_headQ (C := fun w' => ∃ n, w' = w.drewN n) (Q' := Q) (g := l.toArray.size - n) (fun listed a' w' hw' hL => by
  have := wpAny_of_seq (md := .any) (Q' := Q) (l.drop n) n listed a' w' (fun j => by simp [List.getElem?_drop]) (by rw [hdl]; exact hL.1) (hL.2 w' hw')
  rwa [hdl] at this) _ _ _ { w with drawn := w.drawn + 1 } ⟨1, rfl⟩ H
 rw [htl, show n + (l.toArray.size - n) = l.toArray.size by omega] at this
 exact this
end
end Go
set_option linter.unusedSimpArgs false
set_option linter.unusedVariables false
namespace Go.Proofs.YtejhjlfakfaegaaDoor
open Go.RowKit Go.Proofs.YtejhjlfakfaegaaDoorW.PrintWords

/-! ### What a call may turn: the blocks that S names, and new ones -/
structure Ch (S : Nat → Prop) (w w' : World) : Prop where
 os : w'.os = w.os
 tape : w'.tape = w.tape
 output : w'.output = w.output
 size : w.heap.size ≤ w'.heap.size
 block : ∀ k, k < w.heap.size → ¬ S k → w'.heap[k]? = w.heap[k]?
theorem Ch.refl (S : Nat → Prop) (w : World) : Ch S w w := ⟨rfl, rfl, rfl, Nat.le_refl _, fun _ _ _ => rfl⟩
theorem Ch.trans {S : Nat → Prop} {a b c : World} (h : Ch S a b) (k : Ch S b c) : Ch S a c :=
 ⟨k.os.trans h.os, k.tape.trans h.tape, k.output.trans h.output, Nat.le_trans h.size k.size, fun i hi hs => (k.block i (Nat.lt_of_lt_of_le hi h.size) hs).trans (h.block i hi hs)⟩
theorem Ch.imp {S S' : Nat → Prop} {a b : World} (h : Ch S a b) (hs : ∀ k, S k → S' k) : Ch S' a b := ⟨h.os, h.tape, h.output, h.size, fun k hk hn => h.block k hk fun h' => hn (hs k h')⟩
/-- a later call may turn, besides, what is new -/
theorem Ch.then_ {S S' : Nat → Prop} {a b c : World} (h : Ch S a b) (k : Ch S' b c) (hs : ∀ i, i < a.heap.size → S' i → S i) : Ch S a c :=
 ⟨k.os.trans h.os, k.tape.trans h.tape, k.output.trans h.output, Nat.le_trans h.size k.size, fun i hi hn => (k.block i (Nat.lt_of_lt_of_le hi h.size) fun h' => hn (hs i hi h')).trans (h.block i hi hn)⟩
theorem Ch.drewN {S : Nat → Prop} {a w : World} (h : Ch S a w) (n : Nat) : Ch S a (w.drewN n) := ⟨h.os, h.tape, h.output, h.size, h.block⟩
theorem Ch.drew {S : Nat → Prop} {a w : World} (h : Ch S a w) : Ch S a w.drew := ⟨h.os, h.tape, h.output, h.size, h.block⟩
theorem Ch.alloc {S : Nat → Prop} {a w : World} (h : Ch S a w) (o : Obj) : Ch S a (w.alloc o) :=
 h.trans ⟨rfl, rfl, rfl, by simp, fun k hk _ => Below.heap_alloc _ _ _ hk⟩
theorem Ch.setCell {S : Nat → Prop} {a w : World} (h : Ch S a w) {p : Addr} (hp : S p.block ∨ a.heap.size ≤ p.block) (u : Value) : Ch S a (w.setCell p u) :=
 h.then_ (S' := (· = p.block)) ⟨rfl, rfl, rfl, by simp [World.setCell], fun k hk hn => Below.heap_setCell _ _ _ _ hn⟩ (fun i hi e => by subst e; rcases hp with hp | hp; exact hp; omega)
theorem Ch.setRow {S : Nat → Prop} {a w : World} (h : Ch S a w) {g : Nat} (hp : S g ∨ a.heap.size ≤ g) (cs : Array Value) : Ch S a (w.setRow g cs) :=
 h.then_ (S' := (· = g)) ⟨rfl, rfl, rfl, by simp, fun k hk hn => setRow_other w g k cs hn⟩ (fun i hi e => by subst e; rcases hp with hp | hp; exact hp; omega)
theorem Ch.of_below {S : Nat → Prop} {w w' : World} (h : Below w.heap.size w w') : Ch S w w' := ⟨h.os, h.tape, h.output, h.size, fun k hk _ => h.block k hk⟩
theorem Ch.below {w w' : World} (h : Ch (fun _ => False) w w') : Below w.heap.size w w' := ⟨h.os, h.tape, h.output, h.size, fun k hk => h.block k hk id⟩
theorem Ch.grown {S : Nat → Prop} {a w w' : World} {row : Option Nat} (h : Ch S a w) (hg : w.grownBy w' row) (hr : ∀ k, row = some k → S k ∨ a.heap.size ≤ k) : Ch S a w' :=
 h.then_ (S' := fun k => some k = row) ⟨hg.os, hg.tape, hg.output, hg.size, fun k hk hn => hg.block k hk hn⟩ (fun i hi e => by rcases hr i e.symm with hp | hp; exact hp; omega)
theorem Ch.blk {S : Nat → Prop} {w w' : World} (h : Ch S w w') {g : Nat} {o : Obj} (hg : w.heap[g]? = some o) (hs : ¬ S g) : w'.heap[g]? = some o := (h.block g (blk_lt hg) hs).trans hg
theorem Ch.cell {S : Nat → Prop} {w w' : World} (h : Ch S w w') {a : Addr} {v : Value} (hc : w.cell? a = some v) (hs : ¬ S a.block) : w'.cell? a = some v :=
 (World.cell?_of_block (h.block a.block (World.block_lt_of_cell? w a hc) hs)).trans hc
theorem Ch.reads {S : Nat → Prop} {w w' : World} (h : Ch S w w') {k : IntKind} {A : Option Addr} {n : Nat} {xs : List Int} (hr : ReadsInt w k A n xs) (hs : ∀ a, A = some a → ¬ S a.block) : ReadsInt w' k A n xs :=
 ⟨hr.1, hr.2.1, fun hn => by
  obtain ⟨ad, e, hc⟩ := hr.2.2 hn
  refine ⟨ad, e, fun j hj => h.cell (hc j hj) ?_⟩
  have : (ad.add j).block = ad.block := by unfold Addr.add; split <;> rfl
  rw [this]; exact hs ad e⟩

/-! ### The words' array -/
def wPad (ws : List Int) : Array Value := (nums .u32 ws ++ List.replicate (64 - ws.length) (Value.int .u32 0)).toArray
theorem wPad_nil : wPad [] = z64 := by simp only [wPad, z64, nums, List.map_nil, List.nil_append, List.length_nil, Nat.sub_zero, List.toArray_replicate]
theorem add_add (a : Addr) (i j : Nat) : (a.add i).add j = a.add (i + j) := by
 unfold Addr.add
 by_cases hi : i = 0
 ·subst hi; simp
 ·by_cases hj : j = 0
  ·subst hj; simp
  ·simp [hi, hj, Nat.add_assoc]
theorem reads_sub {w : World} {k : IntKind} {ad : Addr} {n : Nat} {xs : List Int} (h : ReadsInt w k (some ad) n xs) (i m : Nat) (hi : i + m ≤ n) : ReadsInt w k (some (ad.add i)) m ((xs.drop i).take m) := by
 obtain ⟨h1, h2, h3⟩ := h
 refine ⟨by simp [h1]; omega, by omega, fun hm => ?_⟩
 obtain ⟨a', e, hc⟩ := h3 (by omega)
 injection e with e
 subst e
 refine ⟨_, rfl, fun j hj => ?_⟩
 rw [add_add, hc (i + j) (by omega)]
 simp [List.getD_eq_getElem?_getD, List.getElem?_take, hj]
theorem wPad_get (ws : List Int) (k : Nat) (h : k < ws.length) : (wPad ws)[k]? = some (.int .u32 (nt ws k)) := by
 rw [nt_get h]
 simp [wPad, nums, List.getElem?_append_left, h]
theorem wPad_set (ws : List Int) (x : Int) (h : ws.length < 64) : (wPad ws).setIfInBounds ws.length (.int .u32 x) = wPad (ws ++ [x]) := by
 unfold wPad
 apply Array.ext'
 have e : 64 - ws.length = (64 - (ws.length + 1)) + 1 := by omega
 simp only [List.setIfInBounds_toArray, nums, List.map_append, List.length_append, List.length_cons, List.length_nil, List.map_cons, List.map_nil]
 rw [e, List.replicate_succ, List.set_append_right _ _ (by simp)]
 simp
theorem wPad_here (ws : List Int) (h : ws.length < 64) : (wPad ws)[ws.length]? = some (.int .u32 0) := by
 unfold wPad
 have e : 64 - ws.length = (63 - ws.length) + 1 := by omega
 simp [nums, List.getElem?_append_right, h, e, List.replicate_succ]
theorem w16_succ (b : List Int) (k : Nat) : w16 b (k + 1) = w16 b k ++ [be ((b.drop (4 * k)).take 4)] := by simp [w16, List.range_succ]
theorem w16_length (b : List Int) (k : Nat) : (w16 b k).length = k := by simp [w16]
theorem be4 (l : List Int) (hb : Bs l) (h : l.length = 4) : W32 (be l) := by
 have := beTo_le l hb 4 (by omega)
 rw [show beTo l 4 = be l by simp [beTo, be, ← h]] at this
 exact ⟨this.1, this.2⟩
theorem Bs.sub {l : List Int} (h : Bs l) (i n : Nat) : Bs ((l.drop i).take n) := fun x hx => h x (List.mem_of_mem_drop (List.mem_of_mem_take hx))
theorem w16_w (b : List Int) (hb : Bs b) (h : b.length = 64) (k : Nat) (hk : k ≤ 16) : ∀ x ∈ w16 b k, W32 x := by
 intro x hx
 simp only [w16, List.mem_map, List.mem_range] at hx
 obtain ⟨i, hi, rfl⟩ := hx
 exact be4 _ (hb.sub _ _) (by simp [h]; omega)
theorem wGo_succ : ∀ (j : Nat) (w : List Int), wGo (j + 1) w = wGo j w ++ [wNext (wGo j w)]
 | 0, w => rfl
 | j + 1, w => by rw [show wGo (j + 1 + 1) w = wGo (j + 1) (w ++ [wNext w]) from rfl, wGo_succ j]; rfl
def wTo (b : List Int) (k : Nat) : List Int := wGo (k - 16) (w16 b 16)
theorem wTo_succ (b : List Int) (k : Nat) (h : 16 ≤ k) : wTo b (k + 1) = wTo b k ++ [wNext (wTo b k)] := by
 unfold wTo
 rw [show k + 1 - 16 = (k - 16) + 1 by omega, wGo_succ]
theorem wNext_w (w : List Int) : W32 (wNext w) := ad_w _ _
theorem wGo_w : ∀ (j : Nat) (w : List Int), (∀ x ∈ w, W32 x) → ∀ x ∈ wGo j w, W32 x
 | 0, _, h => h
 | j + 1, w, h => wGo_w j _ fun x hx => by rcases List.mem_append.1 hx with h' | h'; exact h x h'; rw [List.mem_singleton.1 h']; exact wNext_w w
theorem wGo_length : ∀ (j : Nat) (w : List Int), (wGo j w).length = w.length + j
 | 0, _ => rfl
 | j + 1, w => by rw [wGo, wGo_length j]; simp; omega
theorem wTo_length (b : List Int) (k : Nat) (h : 16 ≤ k) : (wTo b k).length = k := by rw [wTo, wGo_length, w16_length]; omega
theorem wTo_w (b : List Int) (hb : Bs b) (h : b.length = 64) (k : Nat) : ∀ x ∈ wTo b k, W32 x := wGo_w _ _ (w16_w b hb h 16 (by omega))
theorem nt_w {l : List Int} (h : ∀ x ∈ l, W32 x) (k : Nat) : W32 (nt l k) := by
 by_cases hk : k < l.length
 ·rw [nt_get hk]; exact h _ (List.getElem_mem hk)
 ·simp [nt, List.getD_eq_getElem?_getD, List.getElem?_eq_none (Nat.le_of_not_lt hk), W32]

theorem wNext_eq (ws : List Int) (k : Nat) (h : ws.length = k) : wNext ws = (nt ws (k - 16) + sg0 (nt ws (k - 15)) + nt ws (k - 7) + sg1 (nt ws (k - 2))) % 4294967296 := by
 subst h
 simp only [wNext, ad]
 omega
def sumCells (hs : List Int) (rest : Value) (n : Int) : Array Value := (nums .u32 hs ++ [rest, .int .u64 n]).toArray
theorem quiet_of2 {P : Program} {f : FuncId} {args : Array Value} {w : World} {k n : Nat} {v : Value}
  (h : Calls P f args (w.drewN (k + n)) fun e w' => e = .returned v ∧ ∃ m, w' = (w.drewN (k + n)).drewN m) : Calls P f args (w.drewN (k + n)) fun e w'' => e = .returned v ∧ ∃ m, w'' = w.drewN (k + m) :=
 h.mono fun _ _ ⟨he, m, hm⟩ => ⟨he, n + m, by rw [hm, World.drewN_drewN, Nat.add_assoc]⟩
theorem wpList_copy_row {P : Program} {w : World} {ops : Array Oper} {rest : List Oper} {o : Oper} {a : Act} {Q : Exit → Act → World → Prop} (hgd : o.guard = none) (d s : Operand) (dT sT : TypeId)
  (ho : o.op = .call { callee := .builtin .copy, args := #[d, s], argTypes := #[dT, sT] }) (elem : TypeId) (hu : P.underlying dT = some (.slice elem)) (hsz : (P.info? elem).map (·.size) = some 1)
  (g off dLen dCap : Nat) (ad : Addr) (sLen sCap : Nat) (hd : a.eval d = .slice (some ⟨g, off, none⟩) dLen dCap) (hs : a.eval s = .slice (some ad) sLen sCap)
  (cur : Array Value) (t : TypeId) (hg : w.heap[g]? = some (.cells cur t (0, 0))) (cs : List Value) (hn : cs.length = Nat.min sLen dLen)
  (hsrc : ∀ j v, cs[j]? = some v → w.cell? (ad.add j) = some v) (hfit : off + cs.length ≤ cur.size) (h1 : ∀ v ∈ cs, v.oneCell' = true)
  (h : ∀ w', w'.heap[g]? = some (.cells (cur.toList.take off ++ cs ++ cur.toList.drop (off + cs.length)).toArray t (0, 0)) → Ch (· = g) w w' → wpList P ops Q rest (a.put o.dst (goInt cs.length)) w') :
  wpList P ops Q (o :: rest) a w := by
 refine wpList_plain hgd fun K hK => ?_
 have hr := run_copy_row (P := P) w dT sT o.type elem g off dLen dCap ad sLen sCap cur t cs hu hsz hg hn hsrc hfit h1
 unfold Oper.wp execOp
 simp only [ho, resolve, invoke, builtin, Sem.run_bind, Sem.run_pure, Result.andThen_ok, List.map_toArray, List.map_cons, List.map_nil, hd, hs, hr]
 exact hK _ _ (h _ (setRow_heap w g cur _ t (0, 0) hg) (Ch.setRow (S := (· = g)) (Ch.refl _ _) (.inl rfl) _))
theorem sum_get {W : World} {bs : Nat} {hs : List Int} {rest : Value} {n : Int} {T : TypeId} (hb : W.heap[bs]? = some (.cells (sumCells hs rest n) T (0, 0))) (j : Nat) (hj : j < hs.length) : W.cell? ⟨bs, j, none⟩ = some (.int .u32 (nt hs j)) := by
 rw [blk_cell hb, nt_get hj]
 simp [sumCells, nums, List.getElem?_append_left, hj]
theorem sum_range {W : World} {bs : Nat} {hs : List Int} {rest : Value} {n : Int} {T : TypeId} (hb : W.heap[bs]? = some (.cells (sumCells hs rest n) T (0, 0))) : W.rangeAt bs 0 (nums .u32 hs) := fun j v hv => by
 have hj : j < hs.length := by
  have := (List.getElem?_eq_some_iff.1 hv).1
  simpa [nums] using this
 rw [Nat.zero_add, sum_get hb j hj, nt_get hj, ← hv]
 simp [nums, hj]
theorem list8 {l : List Int} (h : l.length = 8) : ∃ a b c d e f g i, l = [a, b, c, d, e, f, g, i] := by
 match l, h with
 | [a, b, c, d, e, f, g, i], _ => exact ⟨a, b, c, d, e, f, g, i, rfl⟩
theorem rnd_length (k w : Int) (v : List Int) (h : v.length = 8) : (rnd k w v).length = 8 := by
 obtain ⟨a, b, c, d, e, f, g, i, rfl⟩ := list8 h
 rfl
theorem rounds_length (ks ws v : List Int) (h : v.length = 8) : ∀ n, (rounds ks ws n v).length = 8
 | 0 => h
 | n + 1 => rnd_length _ _ _ (rounds_length ks ws v h n)
theorem rnd_w (k w : Int) (v : List Int) (h : v.length = 8) (hw : ∀ x ∈ v, W32 x) : ∀ x ∈ rnd k w v, W32 x := by
 obtain ⟨a, b, c, d, e, f, g, i, rfl⟩ := list8 h
 intro x hx
 simp only [rnd, List.mem_cons, List.not_mem_nil, or_false] at hx
 have q := fun y (hy : y ∈ [a, b, c, d, e, f, g, i]) => hw y hy
 simp only [List.mem_cons, List.not_mem_nil, or_false] at q
 rcases hx with rfl | rfl | rfl | rfl | rfl | rfl | rfl | rfl
 ·exact ad_w _ _
 ·exact q _ (by simp)
 ·exact q _ (by simp)
 ·exact q _ (by simp)
 ·exact ad_w _ _
 ·exact q _ (by simp)
 ·exact q _ (by simp)
 ·exact q _ (by simp)
theorem rounds_w (ks ws v : List Int) (h : v.length = 8) (hw : ∀ x ∈ v, W32 x) : ∀ n, ∀ x ∈ rounds ks ws n v, W32 x
 | 0 => hw
 | n + 1 => rnd_w _ _ _ (rounds_length ks ws v h n) (rounds_w ks ws v h hw n)
theorem one_eq (i S C k w d : Int) : (d + (i + S + C + k + w)) % 4294967296 = ad d (ad (ad (ad (ad i S) C) k) w) := by unfold ad; omega
theorem two_eq (i S C k w x y : Int) : (i + S + C + k + w + (x + y)) % 4294967296 = ad (ad (ad (ad (ad i S) C) k) w) (ad x y) := by unfold ad; omega
def addTo (h v : List Int) (k : Nat) : List Int := (List.range 8).map fun i => if i < k then ad (nt h i) (nt v i) else nt h i
theorem addTo_length (h v : List Int) (k : Nat) : (addTo h v k).length = 8 := by simp [addTo]
theorem addTo_0 (h v : List Int) (h8 : h.length = 8) : addTo h v 0 = h := by
 obtain ⟨a, b, c, d, e, f, g, i, rfl⟩ := list8 h8
 rfl
theorem addTo_8 (h v : List Int) : addTo h v 8 = addAll h v := by
 simp only [addTo, addAll]
 apply List.map_congr_left
 intro i hi
 rw [if_pos (List.mem_range.1 hi)]
theorem addTo_at (h v : List Int) (k : Nat) (hk : k < 8) : nt (addTo h v k) k = nt h k := by
 rw [nt_get (by rw [addTo_length]; exact hk)]
 simp [addTo]
theorem addTo_set (h v : List Int) (rest : Value) (n : Int) (k : Nat) (hk : k < 8) : (sumCells (addTo h v k) rest n).setIfInBounds k (.int .u32 (ad (nt h k) (nt v k))) = sumCells (addTo h v (k + 1)) rest n := by
 rcases k with _|_|_|_|_|_|_|_|k
 all_goals first | rfl | omega
theorem kArr_get (k : Nat) (h : k < 64) : kArr[k]? = some (.int .u32 (nt kst k)) := by
 have hl : kst.length = 64 := rfl
 rw [nt_get (by omega)]
 simp [kArr, nums, hl, h]
theorem kst_w : ∀ x ∈ kst, W32 x := by unfold W32; decide +kernel
theorem all_nums (k : IntKind) (l : List Int) : ((nums k l).toArray.all fun x => x.oneCell') = true := by
 apply all_oneCell_toArray
 intro v hv
 simp only [nums, List.mem_map] at hv
 obtain ⟨x, _, rfl⟩ := hv
 rfl
set_option maxHeartbeats 8000000 in
set_option maxRecDepth 100000 in
theorem block_any (bs : Nat) (hs : List Int) (rest : Value) (n : Int) (ad : Addr) (c : Nat) (l : List Int) (w : World)
  (hb : w.heap[bs]? = some (.cells (sumCells hs rest n) 90 (0, 0))) (h8 : hs.length = 8) (hw : ∀ x ∈ hs, W32 x) (hr : ReadsInt w .u8 (some ad) 64 l) (hl : Bs l) (hne : ad.block ≠ bs) (hc : 64 ≤ c) :
  Calls Tryd.prog 56 #[.pointer (some ⟨bs, 0, none⟩), .slice (some ad) 64 c] w fun e w' =>
   e = .returned (.tuple #[]) ∧ w'.heap[bs]? = some (.cells (sumCells (blk kst hs l) rest n) 90 (0, 0)) ∧ Ch (· = bs) w w' := by
 have HB := Lib.hid hb
 have HR := Lib.hid hr
 have HL := Lib.hid hr.1
 have H8 := Lib.hid h8
 have hsz := blk_lt hb
 clear hb hr h8
 go_enter Tryd.func56, Tryd.ntmps56
 go_wp2_with (refine Great.wpList_runTo rfl (some 4) rfl (.pointer (some ⟨w.heap.size, 0, none⟩)) (w.alloc (.cells z64 95)) (by kernel_rfl) ?_)
 go_loopw [5, 6, 7, 19] (fun _ _ _ i wr => ∃ k : Nat, k ≤ 16 ∧ i = .int .i64 k ∧ wr.heap[w.heap.size]? = some (.cells (wPad (w16 l k)) 95 (0, 0)) ∧ wr.heap.size = w.heap.size + 1 ∧ Ch (fun _ => False) w wr) (fun _ _ _ i _ => (16 - intOf i).toNat)
 case atStart => exact ⟨0, by omega, rfl, by rw [show w16 l 0 = [] from rfl, wPad_nil]; exact heap_alloc_new _ _, by simp, (Ch.refl _ _).alloc _⟩
 case round =>
  obtain ⟨k, hk, rfl, hW, hS, hC⟩ := hrel
  by_cases hlt : k < 16
  ·--[L1
   have hr4 := reads_sub (hC.reads HR.out (fun _ _ h => h)) (4 * k) 4 (by omega)
   have hb4 := hl.sub (4 * k) 4
   obtain ⟨q0, q1⟩ := be4 _ hb4 hr4.1
   have hset := Lib.hid (wPad_set (w16 l k) (be ((l.drop (4 * k)).take 4)) (by rw [w16_length]; omega))
   have hsuc := Lib.hid (w16_succ l k)
   have hcell : wr.cell? ⟨w.heap.size, k, none⟩ = some (.int .u32 0) := by rw [blk_cell hW]; have := wPad_here (w16 l k) (by rw [w16_length]; omega); rwa [w16_length] at this
   have hfz : wr.frozen? ⟨w.heap.size, k, none⟩ = false := blk_frozen hW _
   have HC := Lib.hid hC
   have HW := Lib.hid hW
   have HS := Lib.hid hS
   clear hC hW hS
   have HR4 := Lib.hid hr4
   clear hr4
   go_wp2_with (go_at_call 62; refine (get_any _ _ _ _ _ HR4.out hb4 (by omega) (by omega)).mono ?_; rintro e w' ⟨rfl, rfl⟩)
   go_roundw
   case rel => 
    refine ⟨k + 1, by omega, by go_num, ?_, by simp [HS.out], HC.out.setCell (.inr (Nat.le_refl _)) _⟩
    rw [blk_set HW.out, hsuc.out, ← hset.out, w16_length]
   case measure => simp [intOf]; omega
   --L1]
  ·obtain rfl : k = 16 := by omega
   have HC0 := Lib.hid hC
   have HW0 := Lib.hid hW
   have HS0 := Lib.hid hS
   clear hC hW hS hlt hk
   go_wp2
   obtain ⟨wo, rfl⟩ : ∃ wo : World, wo = wr := ⟨_, rfl⟩
   go_loopw [8, 9, 10] (fun i _ _ wr => ∃ k : Nat, 16 ≤ k ∧ k ≤ 64 ∧ i = .int .i64 k ∧ wr.heap[w.heap.size]? = some (.cells (wPad (wTo l k)) 95 (0, 0)) ∧ wr.heap.size = w.heap.size + 1 ∧ Ch (fun _ => False) w wr) (fun i _ _ _ => (64 - intOf i).toNat)
   case atStart => exact ⟨16, by omega, by omega, rfl, HW0.out, HS0.out, HC0.out⟩
   case round =>
    obtain ⟨k, hk16, hk, rfl, hW, hS, hC⟩ := hrel
    clear HC0 HW0 HS0
    by_cases hlt : k < 64
    ·--[L2
     have hln := wTo_length l k hk16
     have hws := wTo_w l hl HL.out k
     have g16 := wPad_get (wTo l k) (k - 16) (by omega)
     have g15 := wPad_get (wTo l k) (k - 15) (by omega)
     have g7 := wPad_get (wTo l k) (k - 7) (by omega)
     have g2 := wPad_get (wTo l k) (k - 2) (by omega)
     rw [← blk_cell hW] at g16 g15 g7 g2
     have v16 := nt_w hws (k - 16)
     have v15 := nt_w hws (k - 15)
     have v7 := nt_w hws (k - 7)
     have v2 := nt_w hws (k - 2)
     have hcell : wr.cell? ⟨w.heap.size, k, none⟩ = some (.int .u32 0) := by rw [blk_cell hW]; have := wPad_here (wTo l k) (by omega); rwa [hln] at this
     have hfz : wr.frozen? ⟨w.heap.size, k, none⟩ = false := blk_frozen hW _
     have hset := Lib.hid (wPad_set (wTo l k) (wNext (wTo l k)) (by omega))
     have hsuc := Lib.hid (wTo_succ l k hk16)
     have HLN := Lib.hid hln
     have HC := Lib.hid hC
     have HW := Lib.hid hW
     have HS := Lib.hid hS
     have V15 := Lib.hid v15
     have V2 := Lib.hid v2
     obtain ⟨a0, a1⟩ := v16
     obtain ⟨b0, b1⟩ := v15
     obtain ⟨c0, c1⟩ := v7
     obtain ⟨d0, d1⟩ := v2
     clear hC hW hS hln hws
     go_wp2
     go_quiet (fail)
     go_wp2
     obtain ⟨wq, hwq⟩ : ∃ wq : World, wr.drewN nq = wq := ⟨_, rfl⟩
     rw [hwq]
     have hcell : wq.cell? ⟨w.heap.size, k, none⟩ = some (.int .u32 0) := by rw [← hwq]; exact hcell
     have hfz : wq.frozen? ⟨w.heap.size, k, none⟩ = false := by rw [← hwq]; exact hfz
     have g16 : wq.cell? ⟨w.heap.size, k - 16, none⟩ = some (.int .u32 (nt (wTo l k) (k - 16))) := by rw [← hwq]; exact g16
     have g7 : wq.cell? ⟨w.heap.size, k - 7, none⟩ = some (.int .u32 (nt (wTo l k) (k - 7))) := by rw [← hwq]; exact g7
     have HC : Hid (Ch (fun _ => False) w wq) := by rw [← hwq]; exact HC.out.drewN _
     have HW : Hid (wq.heap[w.heap.size]? = some (.cells (wPad (wTo l k)) 95 (0, 0))) := by rw [← hwq]; exact HW.out
     have HS : Hid (wq.heap.size = w.heap.size + 1) := by rw [← hwq]; exact HS.out
     clear hwq
     refine wp_region_quiet_tail 28 (by kernel_rfl) (by kernel_rfl) ?_
     simp only [List.take_succ_cons, List.take_zero, List.drop_succ_cons, List.drop_zero]
     repeat (go_big_quiet_step ((go_at_call 63; refine Calls.quiet_of (turn_lit _ _ _ (by omega) (by omega) (by first | exact V15.out | exact V2.out)))))
     refine wpQuiet_nil ?_
     intro _ hw'
     obtain ⟨nd, hw''⟩ := hw'
     subst hw''
     go_wp2
     go_roundw
     case rel =>
      refine ⟨k + 1, by omega, by omega, by go_num, ?_, by simp [HS.out], (HC.out.drewN nd).setCell (.inr (Nat.le_refl _)) _⟩
      rw [blk_set (w := wq.drewN nd) HW.out, hsuc.out, ← hset.out, HLN.out, wNext_eq _ _ HLN.out]
      rfl
     case measure => simp [intOf]; omega
     --L2]
    ·obtain rfl : k = 64 := by omega
     have HC := Lib.hid hC
     have HW := Lib.hid hW
     have HS := Lib.hid hS
     clear hC hW hS hlt hk hk16
     go_wp2_with fail
     refine (rounds_any _).mono ?_
     rintro e w1 ⟨rfl, hw1⟩
     have HC1 : Hid (Ch (fun _ => False) w w1) := by rw [hw1]; exact HC.out.alloc _
     have HW1 : Hid (w1.heap[w.heap.size]? = some (.cells (wPad (wTo l 64)) 95 (0, 0))) := by rw [hw1]; rw [heap_alloc_old _ _ (blk_lt HW.out)]; exact HW.out
     clear hw1 HC HW HS
     have hr8 := Lib.hid (sum_range (HC1.out.blk HB.out (fun h => h)))
     have HB1 := Lib.hid (HC1.out.blk HB.out (fun h => h))
     go_wp2_with (first
      | (refine Great.wpList_runTo rfl (some 11) rfl (.pointer (some ⟨w1.heap.size, 0, none⟩)) (w1.alloc (.cells z64 95)) (by kernel_rfl) ?_)
      | (refine wpList_store_row rfl 95 (.tmp 11) (.tmp 79) rfl w1.heap.size kArr rfl rfl 95 z64 (heap_alloc_new _ _) (by kernel_rfl) (by kernel_rfl) all_kArr ?_; rw [setRow_alloc]; obtain ⟨w2, hw2⟩ : ∃ w2, w1.alloc (.cells kArr 95) = w2 := ⟨_, rfl⟩; rw [hw2])
      | (refine wpList_load_mid rfl 88 (.tmp 82) rfl bs 0 rfl (nums .u32 hs) (.array 8 72) (by rw [← hw2]; exact sum_range (((Ch.refl (fun _ => False) _).alloc _).blk HB1.out (fun h => h))) Tryd.underlying88 rfl (by rw [show (nums .u32 hs).length = 8 by simp [nums, H8.out]]; kernel_rfl) ?_)
      | (refine Great.wpList_runTo rfl (some 12) rfl (.pointer (some ⟨w2.heap.size, 0, none⟩)) (w2.alloc (.cells (Array.replicate 8 (.int .u32 0)) 88)) (by kernel_rfl) ?_)
      | (refine wpList_store_row rfl 88 (.tmp 12) (.tmp 83) rfl w2.heap.size (nums .u32 hs).toArray rfl rfl 88 (Array.replicate 8 (.int .u32 0)) (heap_alloc_new _ _) (by rw [show (nums .u32 hs).toArray.size = 8 by simp [nums, H8.out]]; kernel_rfl) (by simp [nums, H8.out]) (all_nums _ _) ?_; rw [setRow_alloc]; obtain ⟨w3, hw3⟩ : ∃ w3, w2.alloc (.cells (nums .u32 hs).toArray 88) = w3 := ⟨_, rfl⟩; rw [hw3]))
     have hW3 : w3.heap[w.heap.size]? = some (.cells (wPad (wTo l 64)) 95 (0, 0)) := by rw [← hw3, heap_alloc_old _ _ (by rw [← hw2]; have := blk_lt HW1.out; simp; omega), ← hw2, heap_alloc_old _ _ (blk_lt HW1.out)]; exact HW1.out
     have hK3 : w3.heap[w1.heap.size]? = some (.cells kArr 95 (0, 0)) := by rw [← hw3, heap_alloc_old _ _ (by rw [← hw2]; simp), ← hw2]; exact heap_alloc_new _ _
     have hV3 : w3.heap[w2.heap.size]? = some (.cells (nums .u32 hs).toArray 88 (0, 0)) := by rw [← hw3]; exact heap_alloc_new _ _
     have hC3 : Ch (fun _ => False) w w3 := by rw [← hw3, ← hw2]; exact (HC1.out.alloc _).alloc _
     have lt1 : w.heap.size < w1.heap.size := blk_lt HW1.out
     have lt2 : w2.heap.size = w1.heap.size + 1 := by rw [← hw2]; simp
     have LT2 := Lib.hid lt2
     have HW3 := Lib.hid hW3
     have HK3 := Lib.hid hK3
     have HV3 := Lib.hid hV3
     have HC3 := Lib.hid hC3
     clear hw3 hw2 hW3 hK3 hV3 hC3 lt2 HC1 HW1 HB1 hr8
     go_loopw [13, 14, 15, 16, 17, 84] (fun _ _ _ _ _ i wr => ∃ k : Nat, k ≤ 64 ∧ i = .int .i64 k ∧ wr.heap[w2.heap.size]? = some (.cells (nums .u32 (rounds kst (wTo l 64) k hs)).toArray 88 (0, 0)) ∧ Ch (· = w2.heap.size) w3 wr) (fun _ _ _ _ _ i _ => (64 - intOf i).toNat)
     case atStart => exact ⟨0, by omega, rfl, HV3.out, Ch.refl _ _⟩
     case round =>
      obtain ⟨k, hk, rfl, hV, hC⟩ := hrel
      by_cases hlt : k < 64
      ·--[L3
       have hkc : wr.cell? ⟨w1.heap.size, k, none⟩ = some (.int .u32 (nt kst k)) := by rw [blk_cell (hC.blk HK3.out (by have := LT2.out; omega)), kArr_get k hlt]
       have hwc : wr.cell? ⟨w.heap.size, k, none⟩ = some (.int .u32 (nt (wTo l 64) k)) := by rw [blk_cell (hC.blk HW3.out (by have := LT2.out; omega)), wPad_get _ _ (by rw [wTo_length l 64 (by omega)]; omega)]
       obtain ⟨k0, k1⟩ := nt_w kst_w k
       obtain ⟨m0, m1⟩ := nt_w (wTo_w l hl HL.out 64) k
       have h8 := rounds_length kst (wTo l 64) hs H8.out k
       have hws := rounds_w kst (wTo l 64) hs H8.out hw k
       have hR : rounds kst (wTo l 64) (k + 1) hs = rnd (nt kst k) (nt (wTo l 64) k) (rounds kst (wTo l 64) k hs) := rfl
       obtain ⟨a, b, c', d, e, f, g, i, hv⟩ := list8 h8
       rw [hv] at hV hws hR
       have HR1 := Lib.hid hR
       have HV := Lib.hid hV
       have HC := Lib.hid hC
       have c0 : wr.cell? ⟨w2.heap.size, 0, none⟩ = some (.int .u32 a) := by rw [blk_cell hV]; rfl
       have c1 : wr.cell? ⟨w2.heap.size, 1, none⟩ = some (.int .u32 b) := by rw [blk_cell hV]; rfl
       have c2 : wr.cell? ⟨w2.heap.size, 2, none⟩ = some (.int .u32 c') := by rw [blk_cell hV]; rfl
       have c4 : wr.cell? ⟨w2.heap.size, 4, none⟩ = some (.int .u32 e) := by rw [blk_cell hV]; rfl
       have c5 : wr.cell? ⟨w2.heap.size, 5, none⟩ = some (.int .u32 f) := by rw [blk_cell hV]; rfl
       have c6 : wr.cell? ⟨w2.heap.size, 6, none⟩ = some (.int .u32 g) := by rw [blk_cell hV]; rfl
       have c7 : wr.cell? ⟨w2.heap.size, 7, none⟩ = some (.int .u32 i) := by rw [blk_cell hV]; rfl
       have WA : Hid (W32 a) := hws a (by simp)
       have WE : Hid (W32 e) := hws e (by simp)
       have Q := Lib.hid hws
       clear hV hC h8 hws hR hv
       generalize nt kst k = kk at *
       generalize nt (wTo l 64) k = ww at *
       go_wp2
       go_quiet (fail)
       go_wp2
       go_quiet ((go_at_call 63; refine quiet_of2 (turn_lit _ _ _ (by omega) (by omega) WE.out)))
       go_wp2
       go_quiet ((go_at_call 63; refine quiet_of2 (turn_lit _ _ _ (by omega) (by omega) WA.out)))
       go_wp2
       refine wp_region_quiet_tail 2 (by kernel_rfl) (by kernel_rfl) ?_
       simp only [List.take_succ_cons, List.take_zero, List.drop_succ_cons, List.drop_zero]
       repeat (go_big_quiet_step (fail))
       refine wpQuiet_nil ?_
       intro wq hw'
       obtain ⟨nd, hw''⟩ := hw'
       have HVq : Hid (wq.heap[w2.heap.size]? = some (.cells (nums .u32 [a, b, c', d, e, f, g, i]).toArray 88 (0, 0))) := by rw [hw'']; exact HV.out
       have HCq : Hid (Ch (· = w2.heap.size) w3 wq) := by rw [hw'']; simp only [World.drewN_drewN]; exact HC.out.drewN _
       have hsrc : ∀ j v, (nums .u32 [a, b, c', d, e, f, g])[j]? = some v → wq.cell? ((⟨w2.heap.size, 0, none⟩ : Addr).add j) = some v := by
        intro j v hv
        rw [add_plain, blk_cell HVq.out, show nums .u32 [a, b, c', d, e, f, g, i] = nums .u32 [a, b, c', d, e, f, g] ++ nums .u32 [i] from rfl]
        rw [List.getElem?_toArray, List.getElem?_append_left (List.getElem?_eq_some_iff.1 hv).1]
        exact hv
       have HSRC := Lib.hid hsrc
       clear hw'' hsrc c0 c1 c2 c4 c5 c6 c7 hkc hwc HV HC
       go_wp2_with (refine wpList_copy_row rfl (.tmp 145) (.tmp 146) 50 50 rfl 72 Tryd.underlying50 (by kernel_rfl) w2.heap.size 1 7 7 ⟨w2.heap.size, 0, none⟩ 7 8 rfl rfl (nums .u32 [a, b, c', d, e, f, g, i]).toArray 88 HVq.out (nums .u32 [a, b, c', d, e, f, g]) rfl HSRC.out (by simp [nums]) (by intro v hv; simp only [nums, List.mem_map] at hv; obtain ⟨x, _, rfl⟩ := hv; rfl) ?_; intro w4 hV4 hC4; have HV4 : Hid (w4.heap[w2.heap.size]? = some (.cells (nums .u32 [a, a, b, c', d, e, f, g]).toArray 88 (0, 0))) := hV4; have HC4 := Lib.hid (HCq.out.trans hC4); clear hV4 hC4 HVq HCq HSRC; (have c4 : w4.cell? ⟨w2.heap.size, 4, none⟩ = some (.int .u32 d) := by rw [blk_cell HV4.out]; rfl); (have c0 : w4.cell? ⟨w2.heap.size, 0, none⟩ = some (.int .u32 a) := by rw [blk_cell HV4.out]; rfl); have f4 : w4.frozen? ⟨w2.heap.size, 4, none⟩ = false := blk_frozen HV4.out _; have f0 : w4.frozen? ⟨w2.heap.size, 0, none⟩ = false := blk_frozen HV4.out _)
       go_roundw
       case rel =>
        refine ⟨k + 1, by omega, by go_num, ?_, (HC4.out.setCell (.inl rfl) _).setCell (.inl rfl) _⟩
        rw [blk_set (blk_set HV4.out _ _), HR1.out]
        simp only [nums, rnd, List.map_cons, List.map_nil, List.setIfInBounds_toArray, List.set_cons_succ, List.set_cons_zero]
        rw [one_eq, two_eq]
        rfl
       case measure => simp [intOf]; omega
       --L3]
      ·obtain rfl : k = 64 := by omega
       have HV := Lib.hid hV
       have HC := Lib.hid hC
       have h8 := Lib.hid (rounds_length kst (wTo l 64) hs H8.out 64)
       have hws := Lib.hid (rounds_w kst (wTo l 64) hs H8.out hw 64)
       have HBL : Hid (blk kst hs l = addTo hs (rounds kst (wTo l 64) 64 hs) 8) := by rw [addTo_8]; rfl
       generalize rounds kst (wTo l 64) 64 hs = v8 at *
       clear hV hC hlt hk
       go_wp2
       obtain ⟨w5, rfl⟩ : ∃ w5 : World, w5 = wr := ⟨_, rfl⟩
       have HB5 := Lib.hid (HC.out.blk (HC3.out.blk HB.out (fun h => h)) (by have := LT2.out; omega))
       go_loopw [18, 158] (fun _ i wr => ∃ k : Nat, k ≤ 8 ∧ i = .int .i64 k ∧ wr.heap[bs]? = some (.cells (sumCells (addTo hs v8 k) rest n) 90 (0, 0)) ∧ Ch (· = bs) w5 wr) (fun _ i _ => (8 - intOf i).toNat)
       case atStart => exact ⟨0, by omega, rfl, by rw [addTo_0 _ _ H8.out]; exact HB5.out, Ch.refl _ _⟩
       case round =>
        obtain ⟨k, hk, rfl, hB, hC⟩ := hrel
        by_cases hlt : k < 8
        ·have c1 : wr.cell? ⟨bs, k, none⟩ = some (.int .u32 (nt hs k)) := by rw [sum_get hB k (by rw [addTo_length]; exact hlt), addTo_at _ _ _ hlt]
         have c2 : wr.cell? ⟨w2.heap.size, k, none⟩ = some (.int .u32 (nt v8 k)) := by
          rw [blk_cell (hC.blk HV.out (by have := LT2.out; omega)), nt_get (by rw [h8.out]; exact hlt)]
          simp [nums, h8.out, hlt]
         have f1 : wr.frozen? ⟨bs, k, none⟩ = false := blk_frozen hB _
         have hset := Lib.hid (addTo_set hs v8 rest n k hlt)
         obtain ⟨m0, m1⟩ := nt_w hw k
         obtain ⟨k0, k1⟩ := nt_w hws.out k
         have HBk := Lib.hid hB
         have HCk := Lib.hid hC
         clear hB hC
         go_wp2
         refine wp_region_quiet_tail 12 (by kernel_rfl) (by kernel_rfl) ?_
         simp only [List.take_succ_cons, List.take_zero, List.drop_succ_cons, List.drop_zero]
         repeat (go_big_quiet_step (fail))
         refine wpQuiet_nil ?_
         intro wq hw'
         obtain ⟨nd, hw''⟩ := hw'
         subst hw''
         go_wp2
         go_roundw
         case rel =>
          refine ⟨k + 1, by omega, by go_num, ?_, (HCk.out.drewN nd).setCell (.inl rfl) _⟩
          rw [blk_set (w := wr.drewN nd) HBk.out, ← hset.out]
          rfl
         case measure => simp [intOf]; omega
        ·obtain rfl : k = 8 := by omega
         have HBk := Lib.hid hB
         have HCk := Lib.hid hC
         clear hB hC
         go_wp2
         go_end0
         refine ⟨rfl, by rw [HBL.out]; exact HBk.out, ?_⟩
         refine Ch.then_ (S' := (· = bs)) (Ch.then_ (S' := (· = w2.heap.size)) (HC3.out.imp fun _ h => h.elim) HC.out fun i hi e => ?_) HCk.out fun i _ e => e
         have := LT2.out
         omega
end Go.Proofs.YtejhjlfakfaegaaDoor
set_option linter.unusedSimpArgs false
set_option linter.unusedVariables false
namespace Go.Proofs.YtejhjlfakfaegaaDoor
open Go.RowKit Go.Proofs.YtejhjlfakfaegaaDoorW.PrintWords

theorem Ch.reads' {S : Nat → Prop} {w w' : World} (h : Ch S w w') {k : IntKind} {A : Option Addr} {n : Nat} {xs : List Int} (hr : ReadsInt w k A n xs) (hs : ∀ a, A = some a → 0 < n → ¬ S a.block) : ReadsInt w' k A n xs :=
 ⟨hr.1, hr.2.1, fun hn => by
  obtain ⟨ad, e, hc⟩ := hr.2.2 hn
  refine ⟨ad, e, fun j hj => h.cell (hc j hj) ?_⟩
  have : (ad.add j).block = ad.block := by unfold Addr.add; split <;> rfl
  rw [this]; exact hs ad e hn⟩
/-! ### append onto a row that may begin inside its block, whatever is appended -/
theorem wp_append_q {P : Program} {w : World} {o : Oper} {a : Act} {K : Act → World → Prop} {Q : Exit → Act → World → Prop} (base : Nat) (s x : Operand) (t e : TypeId) (k : IntKind) (bytes : Nat)
  (ho : o.op = .call { callee := .builtin .append, args := #[s, x], argTypes := #[t, t] })
  (ht : P.underlying t = some (.slice e)) (hinfo : (P.info? e).map (fun i => (i.zero, i.size, i.bytes)) = some (some (.int k 0), 1, bytes)) (hb0 : 0 < bytes)
  (v : Value) (xs ys : List Int) (A : Option Addr) (m c : Nat) (hs : a.eval s = v) (hx : a.eval x = .slice A m c)
  (HO : QRow w base e 1 v xs.length (nums k xs)) (HR : ReadsInt w k A m ys) (hbase : base ≤ w.heap.size) (hl : (xs.length + m) * bytes ≤ 140737488355328)
  (h : ∀ v' w', QRow w' base e 1 v' (xs ++ ys).length (nums k (xs ++ ys)) → w.grownBy w' v.ownBlock → (v'.ownBlock = v.ownBlock ∨ ∃ b, v'.ownBlock = some b ∧ w.heap.size ≤ b) → K (a.put o.dst v') w') :
  o.wp P a w K Q := by
 obtain ⟨i0, hi, hzz⟩ := Option.map_eq_some_iff.1 hinfo
 simp only [Prod.mk.injEq] at hzz
 obtain ⟨hz0, hz1, hz2⟩ := hzz
 have hm : ys.length = m := HR.1
 have hlen : xs.length + m ≤ 140737488355328 := Nat.le_trans (Nat.le_mul_of_pos_right _ hb0) hl
 have hrun : ∃ v1 w1, (Builtin.append_ #[t, t] o.type #[v, .slice A m c]).run P w = .ok v1 w1 ∧ QRow w1 base e 1 v1 (xs ++ ys).length (nums k (xs ++ ys)) ∧ w.grownBy w1 v.ownBlock ∧ (v1.ownBlock = v.ownBlock ∨ ∃ b, v1.ownBlock = some b ∧ w.heap.size ≤ b) := by
  rcases Nat.eq_zero_or_pos m with h0 | h0
  ·subst h0
   obtain rfl : ys = [] := List.eq_nil_of_length_eq_zero hm
   refine ⟨v, w, ?_, by simpa using HO, World.grownBy.refl w _, .inl rfl⟩
   obtain ⟨A', c', rfl, hc'⟩ := q_slice HO
   rcases A with _ | ad <;> rcases A' with _ | ad' <;> simp [Builtin.append_, run_underlying ht, sizeOf, typeInfo, hi, Builtin.lenOf, Builtin.firstCells, hc', storeCells, loadCells, loadCellsFrom]
  ·obtain ⟨ad, rfl, hc⟩ := HR.2.2 h0
   have hcells : ∀ j u, (nums k ys)[j]? = some u → w.cell? (ad.add j) = some u := by
    intro j u hu
    have hj : j < ys.length := by
     have := (List.getElem?_eq_some_iff.1 hu).1
     simpa [nums] using this
    have := hc j (by omega)
    simp [nums, List.getElem?_eq_getElem hj] at hu
    subst hu
    rw [this]
    simp [List.getD_eq_getElem?_getD, List.getElem?_eq_getElem hj]
   obtain ⟨v1, w1, hr, h2, h3, h4⟩ := q_append (P := P) w base t o.type e i0 (.int k 0) 1 bytes ht hi hz0 hz1 hz2 rfl (by omega) v xs.length (nums k xs) HO ad m c (nums k ys) (by simp [nums, hm]) hcells
    (by intro u hu; simp only [nums, List.mem_map] at hu; obtain ⟨q, _, rfl⟩ := hu; rfl) h0 (by simp only [maxLen]; omega) hl hbase
   exact ⟨v1, w1, hr, by simpa [nums, hm] using h2, h3, h4⟩
 obtain ⟨v1, w1, hr, hown, hg, hat⟩ := hrun
 unfold Oper.wp execOp
 simp only [ho, resolve, invoke, builtin, Sem.run_bind, Sem.run_pure, Result.andThen_ok, List.map_toArray, List.map_cons, List.map_nil, hs, hx, hr]
 exact h v1 w1 hown hg hat
theorem wpList_append_q {P : Program} {w : World} {ops : Array Oper} {rest : List Oper} {o : Oper} {a : Act} {Q : Exit → Act → World → Prop} (base : Nat) (hgd : o.guard = none) (s x : Operand) (t e : TypeId) (k : IntKind) (bytes : Nat)
  (ho : o.op = .call { callee := .builtin .append, args := #[s, x], argTypes := #[t, t] })
  (ht : P.underlying t = some (.slice e)) (hinfo : (P.info? e).map (fun i => (i.zero, i.size, i.bytes)) = some (some (.int k 0), 1, bytes)) (hb0 : 0 < bytes)
  (v : Value) (xs ys : List Int) (A : Option Addr) (m c : Nat) (hs : a.eval s = v) (hx : a.eval x = .slice A m c)
  (HO : QRow w base e 1 v xs.length (nums k xs)) (HR : ReadsInt w k A m ys) (hbase : base ≤ w.heap.size) (hl : (xs.length + m) * bytes ≤ 140737488355328)
  (h : ∀ v' w', QRow w' base e 1 v' (xs ++ ys).length (nums k (xs ++ ys)) → w.grownBy w' v.ownBlock → (v'.ownBlock = v.ownBlock ∨ ∃ b, v'.ownBlock = some b ∧ w.heap.size ≤ b) → wpList P ops Q rest (a.put o.dst v') w') :
  wpList P ops Q (o :: rest) a w :=
 wpList_plain hgd fun K hK => wp_append_q base s x t e k bytes ho ht hinfo hb0 v xs ys A m c hs hx HO HR hbase hl fun v' w' h1 h2 h3 => hK _ _ (h v' w' h1 h2 h3)
theorem step_append_q {P : Program} {w : World} {ops : Array Oper} {o : Oper} {a : Act} {K : Act → World → Prop} {Q : Exit → Act → World → Prop} {E : Prop} (base : Nat) (hgd : o.guard = none) (s x : Operand) (t e : TypeId) (k : IntKind) (bytes : Nat)
  (ho : o.op = .call { callee := .builtin .append, args := #[s, x], argTypes := #[t, t] })
  (ht : P.underlying t = some (.slice e)) (hinfo : (P.info? e).map (fun i => (i.zero, i.size, i.bytes)) = some (some (.int k 0), 1, bytes)) (hb0 : 0 < bytes)
  (v : Value) (xs ys : List Int) (A : Option Addr) (m c : Nat) (hs : a.eval s = v) (hx : a.eval x = .slice A m c)
  (HO : QRow w base e 1 v xs.length (nums k xs)) (HR : ReadsInt w k A m ys) (hbase : base ≤ w.heap.size) (hl : (xs.length + m) * bytes ≤ 140737488355328)
  (h : ∀ v' w', QRow w' base e 1 v' (xs ++ ys).length (nums k (xs ++ ys)) → w.grownBy w' v.ownBlock → (v'.ownBlock = v.ownBlock ∨ ∃ b, v'.ownBlock = some b ∧ w.heap.size ≤ b) → K (a.put o.dst v') w') :
  if Region.wanted o (yielded ops a.tmps) = true then Oper.wp P o a w K Q else E := by
 have hw : Region.wanted o (yielded ops a.tmps) = true := by simp [Region.wanted, hgd]
 rw [if_pos hw]
 exact wp_append_q base s x t e k bytes ho ht hinfo hb0 v xs ys A m c hs hx HO HR hbase hl h
theorem q_reads {w : World} {base : Nat} {e : TypeId} {k : IntKind} {A : Option Addr} {n c : Nat} {xs : List Int} (h : QRow w base e 1 (.slice A n c) n (nums k xs)) : ReadsInt w k A n xs := by
 have hl : xs.length = n := by have := h.1; simpa [nums] using this
 refine ⟨hl, q_max h, fun hn => ?_⟩
 obtain ⟨ad, rfl, hc⟩ := q_cells h hn
 refine ⟨ad, rfl, fun j hj => hc j _ ?_⟩
 simp [nums, List.getElem?_eq_getElem (show j < xs.length by omega), List.getD_eq_getElem?_getD]

/-! ### Taking in -/
theorem absorb_fuel (ks : List Int) : ∀ (n n' : Nat) (h m : List Int), m.length < 64 * (n + 1) → m.length < 64 * (n' + 1) → absorb ks n h m = absorb ks n' h m
 | 0, 0, h, m, _, _ => rfl
 | 0, n' + 1, h, m, h1, _ => by rw [absorb, absorb, if_neg (by omega)]
 | n + 1, 0, h, m, _, h2 => by rw [absorb, absorb, if_neg (by omega)]
 | n + 1, n' + 1, h, m, h1, h2 => by
  rw [absorb, absorb]
  by_cases hm : 64 ≤ m.length
  ·rw [if_pos hm, if_pos hm]
   exact absorb_fuel ks n n' _ _ (by simp; omega) (by simp; omega)
  ·rw [if_neg hm, if_neg hm]
def ab (h m : List Int) : List Int × List Int := absorb kst m.length h m
theorem ab_more (h m : List Int) (hm : 64 ≤ m.length) : ab h m = ab (blk kst h (m.take 64)) (m.drop 64) := by
 unfold ab
 rw [show m.length = (m.length - 1) + 1 by omega, absorb, if_pos hm]
 exact absorb_fuel _ _ _ _ _ (by simp; omega) (by simp; omega)
theorem ab_less (h m : List Int) (hm : m.length < 64) : ab h m = (h, m) := by
 unfold ab
 cases hl : m.length with
 | zero => rfl
 | succ n => rw [absorb, if_neg (by omega)]
theorem blk_length (ks h b : List Int) : (blk ks h b).length = 8 := by simp [blk, addAll]
theorem blk_w (ks h b : List Int) : ∀ x ∈ blk ks h b, W32 x := by
 intro x hx
 simp only [blk, addAll, List.mem_map] at hx
 obtain ⟨i, _, rfl⟩ := hx
 exact ad_w _ _
theorem Bs.append {a b : List Int} (ha : Bs a) (hb : Bs b) : Bs (a ++ b) := fun x hx => (List.mem_append.1 hx).elim (ha x) (hb x)
theorem Bs.drop {a : List Int} (ha : Bs a) (n : Nat) : Bs (a.drop n) := fun x hx => ha x (List.mem_of_mem_drop hx)
theorem Bs.take {a : List Int} (ha : Bs a) (n : Nat) : Bs (a.take n) := fun x hx => ha x (List.mem_of_mem_take hx)

/-- a Sum in memory -/
structure SumAt (w : World) (base bs : Nat) (h : List Int) (rest : Value) (r : List Int) (n : Int) : Prop where
 here : w.heap[bs]? = some (.cells (sumCells h rest n) 90 (0, 0))
 own : QRow w base 5 1 rest r.length (nums .u8 r)
 low : base ≤ bs
 h8 : h.length = 8
 hw : ∀ x ∈ h, W32 x
 rb : Bs r
 ne : rest.ownBlock ≠ some bs
 n0 : 0 ≤ n
 n1 : n < 1000000000
theorem sum_setrest (h : List Int) (rest v : Value) (n : Int) (h8 : h.length = 8) : (sumCells h rest n).setIfInBounds 8 v = sumCells h v n := by
 obtain ⟨a, b, c, d, e, f, g, i, rfl⟩ := list8 h8
 rfl
theorem sum_setn (h : List Int) (rest : Value) (n m : Int) (h8 : h.length = 8) : (sumCells h rest n).setIfInBounds 9 (.int .u64 m) = sumCells h rest m := by
 obtain ⟨a, b, c, d, e, f, g, i, rfl⟩ := list8 h8
 rfl
theorem sum_rest (h : List Int) (rest : Value) (n : Int) (h8 : h.length = 8) : (sumCells h rest n)[8]? = some rest := by
 obtain ⟨a, b, c, d, e, f, g, i, rfl⟩ := list8 h8
 rfl
theorem sum_n (h : List Int) (rest : Value) (n : Int) (h8 : h.length = 8) : (sumCells h rest n)[9]? = some (.int .u64 n) := by
 obtain ⟨a, b, c, d, e, f, g, i, rfl⟩ := list8 h8
 rfl

set_option maxHeartbeats 4000000 in
theorem write_any (base bs : Nat) (h : List Int) (rest : Value) (r : List Int) (n : Int) (A : Option Addr) (c : Nat) (l : List Int) (w : World)
  (hs : SumAt w base bs h rest r n) (hr : ReadsInt w .u8 A l.length l) (hl : Bs l) (hne : ∀ a, A = some a → 0 < l.length → a.block ≠ bs ∧ some a.block ≠ rest.ownBlock) (hn : n + l.length < 1000000000) (hrl : r.length < 64) :
  Calls Tryd.prog 48 #[.pointer (some ⟨bs, 0, none⟩), .slice A l.length c] w fun e w' =>
   e = .returned (.tuple #[]) ∧ ∃ rest', SumAt w' base bs (ab h (r ++ l)).1 rest' (ab h (r ++ l)).2 (n + l.length) ∧ Ch (fun i => i = bs ∨ some i = rest.ownBlock) w w' ∧ (rest'.ownBlock = rest.ownBlock ∨ ∃ b, rest'.ownBlock = some b ∧ w.heap.size ≤ b) := by
 obtain ⟨A', c', hv, hc'⟩ := q_slice hs.own
 have hlow : base ≤ w.heap.size := by have := blk_lt hs.here; have := hs.low; omega
 have c9 : w.cell? ⟨bs, 9, none⟩ = some (.int .u64 n) := by rw [blk_cell hs.here, sum_n _ _ _ hs.h8]
 have f9 : w.frozen? ⟨bs, 9, none⟩ = false := blk_frozen hs.here _
 have n0 := hs.n0
 have n1 := hs.n1
 generalize hm : l.length = m at *
 have HM := Lib.hid hm
 have HS := Lib.hid hs
 have HR := Lib.hid hr
 have HN := Lib.hid hne
 clear hs hr hne hm
 have HV := Lib.hid hv
 have h8' : ((w.setCell ⟨bs, 9, none⟩ (.int .u64 (n + m))).heap[bs]? = some (.cells (sumCells h rest (n + m)) 90 (0, 0))) := by rw [blk_set HS.out.here, sum_setn _ _ _ _ HS.out.h8]
 have c8 : (w.setCell ⟨bs, 9, none⟩ (.int .u64 (n + m))).cell? ⟨bs, 8, none⟩ = some (.slice A' r.length c') := by rw [blk_cell h8', sum_rest _ _ _ HS.out.h8, hv]
 have H8 := Lib.hid h8'
 obtain ⟨W, hW⟩ : ∃ W, w.setCell ⟨bs, 9, none⟩ (.int .u64 (n + m)) = W := ⟨_, rfl⟩
 have hq0 : QRow W base 5 1 (.slice A' r.length c') r.length (nums .u8 r) := by
  rw [← hW, ← hv]
  exact q_move HS.out.own fun k hk => Below.heap_setCell _ _ _ _ (fun e => HS.out.ne (by rw [hk, e]))
 have hr0 : ReadsInt W .u8 A m l := by
  rw [← hW]
  exact (Ch.setCell (S := (· = bs)) (Ch.refl _ w) (.inl rfl) _).reads' HR.out (fun a e hp h => (HN.out a e hp).1 h)
 have hC0 : Hid (Ch (fun i => i = bs ∨ some i = rest.ownBlock) w W) := by rw [← hW]; exact (Ch.refl _ w).setCell (.inl (.inl rfl)) _
 have hb0 : base ≤ W.heap.size := by rw [← hW]; simpa [World.setCell] using hlow
 have hH : W.heap[bs]? = some (.cells (sumCells h rest (n + m)) 90 (0, 0)) := by rw [← hW]; exact h8'
 have hl0 : (r.length + m) * 1 ≤ 140737488355328 := by omega
 have HH := Lib.hid hH
 have HNE : Hid ((Value.slice A' r.length c').ownBlock ≠ some bs) := by rw [← hv]; exact HS.out.ne
 have c8 : W.cell? ⟨bs, 8, none⟩ = some (.slice A' r.length c') := by rw [← hW]; exact c8
 have HQ0 := Lib.hid hq0
 have HR0 := Lib.hid hr0
 obtain ⟨N, hNN⟩ : ∃ N, (r ++ l).length = N := ⟨_, rfl⟩
 have HNN := Lib.hid hNN
 clear h8' hv hH hq0 hr0 hNN
 go_enter Tryd.func48, Tryd.ntmps48
 go_wp2_with (at_builtin; refine wpList_append_q base rfl _ _ 23 5 .u8 1 rfl Tryd.underlying23 info_u8 (by decide) (.slice A' r.length c') _ _ _ _ _ rfl rfl HQ0.out HR0.out hb0 hl0 ?_; intro v1 w1 hq hg hat; rw [HNN.out] at hq; obtain ⟨A1, c1, rfl, hc1⟩ := q_slice hq; (have hH1 : Hid (w1.heap[bs]? = some (.cells (sumCells h rest (n + m)) 90 (0, 0))) := blk_grown HH.out hg (fun e => HNE.out e.symm)); (have c8 : w1.cell? ⟨bs, 8, none⟩ = some rest := by rw [blk_cell hH1.out, sum_rest _ _ _ HS.out.h8]); (have f8 : w1.frozen? ⟨bs, 8, none⟩ = false := blk_frozen hH1.out _); have HQ := Lib.hid hq; have HG := Lib.hid hg; have HAT := Lib.hid hat; clear hq hg hat)
 obtain ⟨w2, hw2⟩ : ∃ w2, w1.setCell ⟨bs, 8, none⟩ (.slice A1 N c1) = w2 := ⟨_, rfl⟩
 have hS2 : SumAt w2 base bs h (.slice A1 N c1) (r ++ l) (n + m) := by
  rw [← hw2]
  refine ⟨by rw [blk_set hH1.out, sum_setrest _ _ _ _ HS.out.h8], ?_, HS.out.low, HS.out.h8, HS.out.hw, HS.out.rb.append hl, ?_, by omega, hn⟩
  ·rw [HNN.out]
   refine q_move HQ.out fun k hk => Below.heap_setCell _ _ _ _ fun (e : k = bs) => ?_
   rcases HAT.out with hat | ⟨b, hb, hlt⟩
   ·exact HNE.out (by rw [← hat, hk, e])
   ·rw [hb] at hk; injection hk with hk; have := blk_lt HH.out; omega
  ·intro e
   rcases HAT.out with hat | ⟨b, hb, hlt⟩
   ·exact HNE.out (by rw [← hat, e])
   ·rw [hb] at e; injection e with e; have := blk_lt HH.out; omega
 have hC2 : Ch (fun i => i = bs ∨ some i = rest.ownBlock) w w2 := by
  rw [← hw2]
  refine (hC0.out.grown HG.out fun k hk => .inl (.inr ?_)).setCell (.inl (.inl rfl)) _
  rw [HV.out, hk]
 have hA2 : (Value.slice A1 N c1).ownBlock = rest.ownBlock ∨ ∃ b, (Value.slice A1 N c1).ownBlock = some b ∧ w.heap.size ≤ b := by
  rcases HAT.out with hat | ⟨b, hb, hlt⟩
  ·exact .inl (by rw [hat, HV.out])
  ·refine .inr ⟨b, hb, ?_⟩
   have := hC0.out.size
   omega
 rw [hw2]
 have HS2 := Lib.hid hS2
 have HC2 := Lib.hid hC2
 have HA2 := Lib.hid hA2
 clear hS2 hC2 hA2 hw2
 go_loopg [] N (fun k wr => ∃ h' r' rest', r'.length = k ∧ SumAt wr base bs h' rest' r' (n + m) ∧ ab h' r' = ab h (r ++ l) ∧ Ch (fun i => i = bs ∨ some i = rest.ownBlock) w wr ∧ (rest'.ownBlock = rest.ownBlock ∨ ∃ b, rest'.ownBlock = some b ∧ w.heap.size ≤ b))
 case atStart => exact ⟨h, r ++ l, _, HNN.out, HS2.out, rfl, HC2.out, HA2.out⟩
 case round =>
  obtain ⟨h', r', rest', hlen, hS', hab, hC, hA⟩ := hrel
  clear HS2 HC2 HA2 HQ HG HAT c8 f8 c9 f9 hH1 HH HQ0 HR0 hC0 HNE H8 HV hW
  obtain ⟨A2, c2, rfl, hc2⟩ := q_slice hS'.own
  have c8 : wr.cell? ⟨bs, 8, none⟩ = some (.slice A2 gk c2) := by rw [blk_cell hS'.here, sum_rest _ _ _ hS'.h8, hlen]
  have HSK := Lib.hid hS'
  have HAB := Lib.hid hab
  have HC := Lib.hid hC
  have HA := Lib.hid hA
  have HLN := Lib.hid hlen
  clear hS' hab hC hA hlen
  by_cases hlt : 64 ≤ gk
  ·obtain ⟨ad2, hA2, _⟩ := (q_reads HSK.out.own).2.2 (by rw [HLN.out]; omega)
   subst hA2
   have hg2 : gk ≤ c2 := by have := HLN.out; omega
   have h64 : 64 ≤ c2 := by omega
   have hr2 : ReadsInt wr .u8 (some ad2) 64 (r'.take 64) := by
    have := reads_sub (q_reads HSK.out.own) 0 64 (by rw [HLN.out]; omega)
    simpa [Addr.add] using this
   have hb2 := HSK.out.rb.take 64
   have hnb : ad2.block ≠ bs := fun e => HSK.out.ne (by simp [Value.ownBlock, e])
   obtain ⟨i0, hi0, hz0, hz1, hz2⟩ := info_parts info_u8
   have hcut := cut_from (P := Tryd.prog) 23 5 .i64 Tryd.underlying23 hi0 1 hz1 (some ad2) gk c2 64 (by omega) (by omega)
   have hdrop := q_drop HSK.out.own (k := 64) (by rw [HLN.out]; omega)
   rw [show (64 : Int).toNat = 64 from rfl] at hcut
   rw [HLN.out] at hdrop
   obtain ⟨A3, hA3⟩ : ∃ A3, (if c2 = 64 then some ad2 else (some ad2).map (·.add (64 * 1))) = A3 := ⟨_, rfl⟩
   rw [hA3] at hcut hdrop
   have HDR := Lib.hid hdrop
   have HR2 := Lib.hid hr2
   have HB2 := Lib.hid hb2
   have hob : Hid ((Value.slice A3 (gk - 64) (c2 - 64)).ownBlock = (Value.slice (some ad2) gk c2).ownBlock) := by
    show (Value.slice A3 (gk - 64) (c2 - 64)).ownBlock = (Value.slice (some ad2) gk c2).ownBlock
    rw [← hA3]
    have : ∀ a : Addr, (a.add 64).block = a.block := fun a => rfl
    split <;> simp [Value.ownBlock, this]
   clear hdrop hr2 hb2 hA3 hi0 hz0 hz1 hz2
   go_wp2_with fail
   refine (block_any bs h' _ _ _ c2 (r'.take 64) wr HSK.out.here HSK.out.h8 HSK.out.hw HR2.out HB2.out hnb h64).mono ?_
   rintro e w3 ⟨rfl, hh3, hC3⟩
   have c8 : w3.cell? ⟨bs, 8, none⟩ = some (.slice (some ad2) gk c2) := by rw [blk_cell hh3, sum_rest _ _ _ (blk_length _ _ _), HLN.out]
   have f8 : w3.frozen? ⟨bs, 8, none⟩ = false := blk_frozen hh3 _
   have HH3 := Lib.hid hh3
   have HC3 := Lib.hid hC3
   clear hh3 hC3
   go_wp2
   go_roundg (gk - 64)
   case measure => omega
   case rel =>
    refine ⟨blk kst h' (r'.take 64), r'.drop 64, _, by rw [List.length_drop, HLN.out], ⟨by rw [blk_set HH3.out, sum_setrest _ _ _ _ (blk_length _ _ _)], ?_, HSK.out.low, blk_length _ _ _, blk_w _ _ _, HSK.out.rb.drop 64, ?_, HSK.out.n0, HSK.out.n1⟩, ?_, ?_, ?_⟩
    ·rw [List.length_drop, HLN.out, show nums .u8 (r'.drop 64) = (nums .u8 r').drop (64 * 1) by simp [nums, List.map_drop]]
     refine q_move HDR.out fun k hk => ?_
     rw [hob.out] at hk
     have hkb : k ≠ bs := fun e => HSK.out.ne (by rw [HLN.out, hk, e])
     exact (Below.heap_setCell _ _ _ _ hkb).trans (HC3.out.block k (q_lt HSK.out.own k (by rw [HLN.out]; exact hk)) hkb)
    ·rw [hob.out]
     have := HSK.out.ne
     rwa [HLN.out] at this
    ·rw [← ab_more _ _ (by rw [HLN.out]; omega), HAB.out]
    ·exact (HC.out.then_ HC3.out (fun i _ e => .inl e)).setCell (.inl (.inl rfl)) _
    ·rw [hob.out]
     have := HA.out
     rwa [HLN.out] at this
  ·go_wp2
   go_end0
   have hab : ab h' r' = (h', r') := ab_less _ _ (by rw [HLN.out]; omega)
   rw [HAB.out] at hab
   rw [hab]
   exact ⟨rfl, _, HSK.out, HC.out, HA.out⟩
end Go.Proofs.YtejhjlfakfaegaaDoor
set_option linter.unusedSimpArgs false
set_option linter.unusedVariables false
namespace Go.Proofs.YtejhjlfakfaegaaDoor
open Go.RowKit Go.Proofs.YtejhjlfakfaegaaDoorW.PrintWords

theorem h0s_w : ∀ x ∈ h0s, W32 x := by unfold W32; decide +kernel
set_option maxHeartbeats 1000000 in
theorem new_any (w : World) :
  Calls Tryd.prog 47 #[] w fun e w' => e = .returned (.pointer (some ⟨w.heap.size, 0, none⟩)) ∧ SumAt w' w.heap.size w.heap.size h0s (.slice none 0 0) [] 0 ∧ Below w.heap.size w w' := by
 go_enter Tryd.func47, Tryd.ntmps47
 go_wp2
 go_ret
 refine ⟨rfl, ⟨heap_alloc_new _ _, ?_, Nat.le_refl _, rfl, h0s_w, (fun x hx => by cases hx), (by simp [Value.ownBlock]), (by omega), (by omega)⟩, (Below.refl _ _).alloc (Nat.le_refl _) _⟩
 exact q_of_own (own_nil _ _ _ _)

theorem SumAt.keep {w w' : World} {base bs : Nat} {h : List Int} {rest : Value} {r : List Int} {n : Int} (hs : SumAt w base bs h rest r n) (hC : Ch (fun _ => False) w w') : SumAt w' base bs h rest r n :=
 ⟨hC.blk hs.here (fun h => h), q_move hs.own fun k hk => hC.block k (q_lt hs.own k hk) (fun h => h), hs.low, hs.h8, hs.hw, hs.rb, hs.ne, hs.n0, hs.n1⟩
theorem index8 (h : List Int) (h8 : h.length = 8) (k : Nat) (hk : k < 8) : ∀ W : World, (Instr.index 88 (.agg (nums .u32 h).toArray) (.int .i64 (k : Int))).run Tryd.prog W = .ok (.int .u32 (nt h k)) W := by
 obtain ⟨a, b, c, d, e, f, g, i, rfl⟩ := list8 h8
 intro W
 rcases k with _|_|_|_|_|_|_|_|k
 all_goals first | omega | kernel_rfl
def outTo (h : List Int) (k : Nat) : List Int := (List.range k).flatMap fun i => (putBytes (nt h i)).drop 4
theorem outTo_succ (h : List Int) (k : Nat) : outTo h (k + 1) = outTo h k ++ (putBytes (nt h k)).drop 4 := by simp [outTo, List.range_succ]
theorem outTo_length (h : List Int) : ∀ k, (outTo h k).length = 4 * k
 | 0 => rfl
 | k + 1 => by rw [outTo_succ, List.length_append, outTo_length h k, List.length_drop, putBytes_length]; omega
theorem put_tail (x : Int) (w : World) : ReadsInt (w.alloc (.cells (putTo x 8) 5)) .u8 (some ⟨w.heap.size, 4, none⟩) 4 ((putBytes x).drop 4) := by
 have h := reads_sub (xs := putBytes x) (k := .u8) (n := 8) (ad := ⟨w.heap.size, 0, none⟩) (w := w.alloc (.cells (putTo x 8) 5)) ?_ 4 4 (by omega)
 ·have e : ((putBytes x).drop 4).take 4 = (putBytes x).drop 4 := List.take_of_length_le (by simp [putBytes_length])
  rw [e] at h
  exact h
 ·have ho := own_lit w w.heap.size 5 .u8 (putBytes x) (Nat.le_refl _) (by rw [putBytes_length]; omega)
  rw [← putTo_8, putBytes_length] at ho
  obtain ⟨A, c, he, hr⟩ := own_reads ho
  injection he with he
  subst he
  exact hr
theorem made_zeros (k : IntKind) (m : Nat) : (madeCells #[Value.int k 0] m).toList = nums k (List.replicate m 0) := by
 apply List.ext_getElem
 ·simp [nums, madeCells]
 ·intro i h1 h2
  simp [nums, madeCells, Nat.mod_one]
theorem ten_cells {W : World} {g : Nat} {x0 x1 x2 x3 x4 x5 x6 x7 x8 x9 : Value} {T : TypeId} (h : W.heap[g]? = some (.cells #[x0, x1, x2, x3, x4, x5, x6, x7, x8, x9] T (0, 0))) :
  (∀ j, W.frozen? ⟨g, j, none⟩ = false) ∧ W.cell? ⟨g, 0, none⟩ = some x0 ∧ W.cell? ⟨g, 1, none⟩ = some x1 ∧ W.cell? ⟨g, 2, none⟩ = some x2 ∧ W.cell? ⟨g, 3, none⟩ = some x3 ∧ W.cell? ⟨g, 4, none⟩ = some x4 ∧ W.cell? ⟨g, 5, none⟩ = some x5 ∧ W.cell? ⟨g, 6, none⟩ = some x6 ∧ W.cell? ⟨g, 7, none⟩ = some x7 ∧ W.cell? ⟨g, 8, none⟩ = some x8 ∧ W.cell? ⟨g, 9, none⟩ = some x9 := by
 refine ⟨fun j => blk_frozen h j, ?_⟩
 simp only [blk_cell h]
 exact ⟨rfl, rfl, rfl, rfl, rfl, rfl, rfl, rfl, rfl, rfl⟩
theorem set10 {W : World} {g : Nat} {T : TypeId} {x0 x1 x2 x3 x4 x5 x6 x7 x8 x9 y0 y1 y2 y3 y4 y5 y6 y7 y8 y9 : Value} (h : W.heap[g]? = some (.cells #[x0, x1, x2, x3, x4, x5, x6, x7, x8, x9] T (0, 0))) : ((((((((((W.setCell ⟨g, 0, none⟩ y0).setCell ⟨g, 1, none⟩ y1).setCell ⟨g, 2, none⟩ y2).setCell ⟨g, 3, none⟩ y3).setCell ⟨g, 4, none⟩ y4).setCell ⟨g, 5, none⟩ y5).setCell ⟨g, 6, none⟩ y6).setCell ⟨g, 7, none⟩ y7).setCell ⟨g, 8, none⟩ y8).setCell ⟨g, 9, none⟩ y9).heap[g]? = some (.cells #[y0, y1, y2, y3, y4, y5, y6, y7, y8, y9] T (0, 0)) := by
 have e := blk_set (blk_set (blk_set (blk_set (blk_set (blk_set (blk_set (blk_set (blk_set (blk_set h 0 y0) 1 y1) 2 y2) 3 y3) 4 y4) 5 y5) 6 y6) 7 y7) 8 y8) 9 y9
 simp only [List.setIfInBounds_toArray, List.set_cons_succ, List.set_cons_zero] at e
 exact e
theorem set_far (W : World) {g k : Nat} (h : k ≠ g) (i : Nat) (y : Value) {o : Option Obj} (e : W.heap[k]? = o) : (W.setCell ⟨g, i, none⟩ y).heap[k]? = o := (Below.heap_setCell W ⟨g, i, none⟩ y k h).trans e
theorem set10_far {W : World} {g k : Nat} {y0 y1 y2 y3 y4 y5 y6 y7 y8 y9 : Value} (h : k ≠ g) {o : Option Obj} (e : W.heap[k]? = o) : ((((((((((W.setCell ⟨g, 0, none⟩ y0).setCell ⟨g, 1, none⟩ y1).setCell ⟨g, 2, none⟩ y2).setCell ⟨g, 3, none⟩ y3).setCell ⟨g, 4, none⟩ y4).setCell ⟨g, 5, none⟩ y5).setCell ⟨g, 6, none⟩ y6).setCell ⟨g, 7, none⟩ y7).setCell ⟨g, 8, none⟩ y8).setCell ⟨g, 9, none⟩ y9).heap[k]? = o := by
 refine set_far _ h 9 y9 ?_
 refine set_far _ h 8 y8 ?_
 refine set_far _ h 7 y7 ?_
 refine set_far _ h 6 y6 ?_
 refine set_far _ h 5 y5 ?_
 refine set_far _ h 4 y4 ?_
 refine set_far _ h 3 y3 ?_
 refine set_far _ h 2 y2 ?_
 refine set_far _ h 1 y1 ?_
 refine set_far _ h 0 y0 ?_
 exact e
theorem set10_ch {S : Nat → Prop} {w W : World} {g : Nat} {y0 y1 y2 y3 y4 y5 y6 y7 y8 y9 : Value} (h : Ch S w W) (hg : S g ∨ w.heap.size ≤ g) : Ch S w ((((((((((W.setCell ⟨g, 0, none⟩ y0).setCell ⟨g, 1, none⟩ y1).setCell ⟨g, 2, none⟩ y2).setCell ⟨g, 3, none⟩ y3).setCell ⟨g, 4, none⟩ y4).setCell ⟨g, 5, none⟩ y5).setCell ⟨g, 6, none⟩ y6).setCell ⟨g, 7, none⟩ y7).setCell ⟨g, 8, none⟩ y8).setCell ⟨g, 9, none⟩ y9) := by
 exact (Ch.setCell (Ch.setCell (Ch.setCell (Ch.setCell (Ch.setCell (Ch.setCell (Ch.setCell (Ch.setCell (Ch.setCell (Ch.setCell h (p := ⟨g, 0, none⟩) hg y0) (p := ⟨g, 1, none⟩) hg y1) (p := ⟨g, 2, none⟩) hg y2) (p := ⟨g, 3, none⟩) hg y3) (p := ⟨g, 4, none⟩) hg y4) (p := ⟨g, 5, none⟩) hg y5) (p := ⟨g, 6, none⟩) hg y6) (p := ⟨g, 7, none⟩) hg y7) (p := ⟨g, 8, none⟩) hg y8) (p := ⟨g, 9, none⟩) hg y9)
theorem rows2_two {W : World} {g n1 n2 c1 c2 : Nat} {A1 A2 : Option Addr} {T : TypeId} {l1 l2 : List Int} (h : W.heap[g]? = some (.cells #[.slice A1 n1 c1, .slice A2 n2 c2] T (0, 0))) (h1 : ReadsInt W .u8 A1 n1 l1) (h2 : ReadsInt W .u8 A2 n2 l2) :
  Rows2 W (some ⟨g, 0, none⟩) 2 [l1, l2] := by
 refine ⟨rfl, by omega, fun _ => ⟨_, rfl, fun j hj => ?_⟩⟩
 obtain rfl := h1.1
 obtain rfl := h2.1
 rw [add_plain, blk_cell h]
 match j, hj with
 | 0, _ => exact ⟨A1, c1, rfl, h1⟩
 | 1, _ => exact ⟨A2, c2, rfl, h2⟩
theorem make_zeros (m : Nat) (hm : m ≤ 100000) : ∀ W : World, (Instr.makeSlice 23 (.int .i64 (m : Int)) (.int .i64 (m : Int))).run Tryd.prog W = .ok (.slice (some ⟨W.heap.size, 0, none⟩) m m) (W.alloc (.cells (madeCells #[.int .u8 0] m) 5)) :=
 print_make 23 5 .u8 1 Tryd.underlying23 info_u8 (by decide) m (by omega)
set_option maxHeartbeats 4000000 in
theorem digest_any (base bs : Nat) (h : List Int) (rest : Value) (r : List Int) (n : Int) (w : World) (hs : SumAt w base bs h rest r n) (hrl : r.length < 64) (hn : n < 100000000) :
  Calls Tryd.prog 49 #[.pointer (some ⟨bs, 0, none⟩)] w fun e w' =>
   ∃ v, e = .returned v ∧ w'.ownsRow w.heap.size 5 1 v 32 (nums .u8 (out32 (ab h (r ++ 128 :: (List.replicate ((119 - r.length) % 64) 0 ++ putBytes (8 * n)))).1)) ∧ Below w.heap.size w w' := by
 obtain ⟨A', c', hv, hc'⟩ := q_slice hs.own
 obtain ⟨a, b, c, d, e, f, g, i, hh⟩ := list8 hs.h8
 have hr0 : ReadsInt w .u8 A' r.length r := by have := hs.own; rw [hv] at this; exact q_reads this
 have c0 : w.cell? ⟨bs, 0, none⟩ = some (.int .u32 a) := by rw [blk_cell hs.here, hh]; rfl
 have c1 : w.cell? ⟨bs, 1, none⟩ = some (.int .u32 b) := by rw [blk_cell hs.here, hh]; rfl
 have c2 : w.cell? ⟨bs, 2, none⟩ = some (.int .u32 c) := by rw [blk_cell hs.here, hh]; rfl
 have c3 : w.cell? ⟨bs, 3, none⟩ = some (.int .u32 d) := by rw [blk_cell hs.here, hh]; rfl
 have c4 : w.cell? ⟨bs, 4, none⟩ = some (.int .u32 e) := by rw [blk_cell hs.here, hh]; rfl
 have c5 : w.cell? ⟨bs, 5, none⟩ = some (.int .u32 f) := by rw [blk_cell hs.here, hh]; rfl
 have c6 : w.cell? ⟨bs, 6, none⟩ = some (.int .u32 g) := by rw [blk_cell hs.here, hh]; rfl
 have c7 : w.cell? ⟨bs, 7, none⟩ = some (.int .u32 i) := by rw [blk_cell hs.here, hh]; rfl
 have c8 : w.cell? ⟨bs, 8, none⟩ = some (.slice A' r.length c') := by rw [blk_cell hs.here, sum_rest _ _ _ hs.h8, hv]
 have c9 : w.cell? ⟨bs, 9, none⟩ = some (.int .u64 n) := by rw [blk_cell hs.here, sum_n _ _ _ hs.h8]
 have hbw := blk_lt hs.here
 have HS := Lib.hid hs
 have HR0 := Lib.hid hr0
 have HH := Lib.hid hh
 obtain ⟨m, hm⟩ : ∃ m, r.length = m := ⟨_, rfl⟩
 rw [hm] at c8 hc' hrl
 have HM := Lib.hid hm
 clear hs hr0 hh hv hm
 go_enter Tryd.func49, Tryd.ntmps49
 go_upto_region 1 with fail
 have hmk : ∀ w', Ch (fun _ => False) w w' → Ch (fun _ => False) w w' ∧ w'.cell? ⟨bs, 0, none⟩ = some (.int .u32 a) ∧ w'.cell? ⟨bs, 1, none⟩ = some (.int .u32 b) ∧ w'.cell? ⟨bs, 2, none⟩ = some (.int .u32 c) ∧ w'.cell? ⟨bs, 3, none⟩ = some (.int .u32 d) ∧ w'.cell? ⟨bs, 4, none⟩ = some (.int .u32 e) ∧ w'.cell? ⟨bs, 5, none⟩ = some (.int .u32 f) ∧ w'.cell? ⟨bs, 6, none⟩ = some (.int .u32 g) ∧ w'.cell? ⟨bs, 7, none⟩ = some (.int .u32 i) ∧ w'.cell? ⟨bs, 8, none⟩ = some (.slice A' m c') ∧ w'.cell? ⟨bs, 9, none⟩ = some (.int .u64 n) := fun w' hC =>
  ⟨hC, hC.cell c0 (fun h => h), hC.cell c1 (fun h => h), hC.cell c2 (fun h => h), hC.cell c3 (fun h => h), hC.cell c4 (fun h => h), hC.cell c5 (fun h => h), hC.cell c6 (fun h => h), hC.cell c7 (fun h => h), hC.cell c8 (fun h => h), hC.cell c9 (fun h => h)⟩
 have HMK := Lib.hid hmk
 clear hmk
 have hrc : ∀ w', Ch (fun _ => False) w w' → ReadsInt w' .u8 A' m r := fun w' hC => by have := HR0.out; rw [HM.out] at this; exact hC.reads this (fun _ _ h => h)
 have HRC := Lib.hid hrc
 clear hrc
 have hl0 : (([] : List Int).length + m) * 1 ≤ 140737488355328 := by simp; omega
 go_cut [3] (fun s3 wx => ∃ bt rest', s3 = .pointer (some ⟨bt, 0, none⟩) ∧ SumAt wx w.heap.size bt h rest' r n ∧ Ch (fun _ => False) w wx)
 case first =>
  --[D1
  go_region_held3 (fun w' => Ch (fun _ => False) w w' ∧ w'.cell? ⟨bs, 0, none⟩ = some (.int .u32 a) ∧ w'.cell? ⟨bs, 1, none⟩ = some (.int .u32 b) ∧ w'.cell? ⟨bs, 2, none⟩ = some (.int .u32 c) ∧ w'.cell? ⟨bs, 3, none⟩ = some (.int .u32 d) ∧ w'.cell? ⟨bs, 4, none⟩ = some (.int .u32 e) ∧ w'.cell? ⟨bs, 5, none⟩ = some (.int .u32 f) ∧ w'.cell? ⟨bs, 6, none⟩ = some (.int .u32 g) ∧ w'.cell? ⟨bs, 7, none⟩ = some (.int .u32 i) ∧ w'.cell? ⟨bs, 8, none⟩ = some (.slice A' m c') ∧ w'.cell? ⟨bs, 9, none⟩ = some (.int .u64 n))
   ((refine HMK.out _ ?_; (repeat (first | (with_reducible refine Ch.setCell ?_ (.inr (Nat.le_refl _)) _) | (with_reducible refine Ch.drew ?_) | (with_reducible refine Ch.alloc ?_ _))); first | (with_reducible exact Ch.refl _ _) | (with_reducible exact hC1)))
   ((refine step_append_q w.heap.size (by rfl) _ _ 23 5 .u8 1 (by rfl) Tryd.underlying23 info_u8 (by decide) (.slice none 0 0) [] r A' m c' (by rfl) (by rfl) (q_of_own (own_nil _ _ _ _)) (HRC.out _ (And.left (by assumption))) (Ch.size (S := fun _ => False) (And.left (by assumption))) hl0 ?_; intro v1 w1 hq hg hat; have hC1 : Ch (fun _ => False) w w1 := Ch.grown (And.left (by assumption)) hg (fun k hk => by cases hk); (try (have hT := blk_grown (show (World.drew (World.alloc w _)).heap[w.heap.size]? = some _ from heap_alloc_new w _) hg (Option.some_ne_none _); have HT := Lib.hid hT; obtain ⟨hfz, t0, t1, t2, t3, t4, t5, t6, t7, t8, t9⟩ := ten_cells hT; have z0 := hfz 0; have z1 := hfz 1; have z2 := hfz 2; have z3 := hfz 3; have z4 := hfz 4; have z5 := hfz 5; have z6 := hfz 6; have z7 := hfz 7; have z8 := hfz 8; have z9 := hfz 9; clear hT hfz c0 c1 c2 c3 c4 c5 c6 c7 c8 c9)); have HAT := Lib.hid hat; rw [List.nil_append, HM.out] at hq; obtain ⟨A1, k1, rfl, hk1⟩ := q_slice hq; have HQ := Lib.hid hq; clear hg hq hat))
  ·go_wp2_with fail
   go_meet
   have hH := HH.out
   refine ⟨w1.heap.size, .slice A1 m k1, rfl, ⟨by rw [hH]; exact heap_alloc_new _ _, ?_, ?_, HS.out.h8, HS.out.hw, HS.out.rb, ?_, HS.out.n0, HS.out.n1⟩, hC1.alloc _⟩
   ·rw [HM.out]
    exact q_move HQ.out fun k hk => heap_alloc_old _ _ (q_lt HQ.out k hk)
   ·exact hC1.size
   ·intro e
    have := q_lt HQ.out _ e
    omega
  ·go_wp2_with fail
   go_meet
   have hH := HH.out
   have hne : (Value.slice A1 m k1).ownBlock ≠ some w.heap.size := fun e => by
    obtain ⟨_, cells, hc⟩ := q_typed HQ.out _ e
    rw [HT.out] at hc
    cases hc
   refine ⟨w.heap.size, .slice A1 m k1, rfl, ⟨?_, ?_, Nat.le_refl _, HS.out.h8, HS.out.hw, HS.out.rb, hne, HS.out.n0, HS.out.n1⟩, ?_⟩
   ·rw [hH]
    exact set10 HT.out
   ·rw [HM.out]
    refine q_move HQ.out fun k hk => ?_
    exact set10_far (fun e => hne (by rw [hk, e])) rfl
   ·exact set10_ch hC1 (.inr (Nat.le_refl _))
  --D1]
 case rest =>
  obtain ⟨bt, rest', rfl, hS, hC⟩ := hcut
  clear c0 c1 c2 c3 c4 c5 c6 c7 c8 c9 HMK HRC HR0 hl0
  obtain ⟨A1, k1, rfl, hk1⟩ := q_slice hS.own
  have hpad : (1 + (119 - (m : Int)) % 64 : Int) = ((1 + (119 - m) % 64 : Nat) : Int) := by omega
  obtain ⟨p, hp⟩ : ∃ p, 1 + (119 - m) % 64 = p := ⟨_, rfl⟩
  rw [hp] at hpad
  have hmk := make_zeros p (by omega)
  have t8 : wc.cell? ⟨bt, 8, none⟩ = some (.slice A1 m k1) := by rw [blk_cell hS.here, sum_rest _ _ _ hS.h8, HM.out]
  have hp0 : 0 < p := by omega
  have hp1 : p ≤ 64 := by omega
  have HP := Lib.hid hp
  have HS1 := Lib.hid hS
  have HC1 := Lib.hid hC
  have htw := blk_lt hS.here
  obtain ⟨z, hz⟩ : ∃ z : Array Value, madeCells #[.int .u8 0] p = z := ⟨_, rfl⟩
  rw [hz] at hmk
  have hz0 : z[0]? = some (.int .u8 0) := by rw [← hz]; simp [madeCells, hp0]
  have HZ := Lib.hid hz
  have c9 : wc.cell? ⟨bs, 9, none⟩ = some (.int .u64 n) := by rw [blk_cell (hC.blk HS.out.here (fun h => h)), sum_n _ _ _ HS.out.h8]
  have hbw' : bs < wc.heap.size := Nat.lt_of_lt_of_le hbw hC.size
  have n0 := HS.out.n0
  -- the padding's first part
  obtain ⟨W1, hW1⟩ : ∃ W1, wc.alloc (.cells (z.setIfInBounds 0 (.int .u8 128)) 5) = W1 := ⟨_, rfl⟩
  have hzz : z.setIfInBounds 0 (.int .u8 128) = (nums .u8 (128 :: List.replicate (p - 1) 0)).toArray := by
   rw [← hz]
   obtain ⟨q, rfl⟩ : ∃ q, p = q + 1 := ⟨p - 1, by omega⟩
   apply Array.ext'
   rw [Array.toList_setIfInBounds, made_zeros, List.replicate_succ]
   simp [nums]
  have hpo : W1.ownsRow wc.heap.size 5 1 (.slice (some ⟨wc.heap.size, 0, none⟩) p p) p (nums .u8 (128 :: List.replicate (p - 1) 0)) := by
   rw [← hW1, hzz]
   have := own_lit wc wc.heap.size 5 .u8 (128 :: List.replicate (p - 1) 0) (Nat.le_refl _) (by simp; omega)
   simpa [show p - 1 + 1 = p by omega] using this
  have hC2 : Ch (fun _ => False) wc W1 := by rw [← hW1]; exact (Ch.refl _ _).alloc _
  have HPO := Lib.hid hpo
  have HC2 := Lib.hid hC2
  have c9 : W1.cell? ⟨bs, 9, none⟩ = some (.int .u64 n) := hC2.cell c9 (fun h => h)
  clear hp hS hC hz hzz hpo hC2
  go_wp2_with fail
  refine (put_own (8 * n) _ (by omega) (by omega)).mono ?_
  rintro e w2 ⟨v2, rfl, ho2, hb2⟩
  obtain ⟨A2, k2, rfl, hr2⟩ := own_reads ho2
  obtain ⟨A0, k0, he0, hr1⟩ := own_reads HPO.out
  injection he0 with he0 _ hk0
  subst he0 hk0
  have hr1' := hr1.below hb2
  have HO2 := Lib.hid ho2
  have HB2 := Lib.hid hb2
  have HR1 := Lib.hid hr1'
  have HR2 := Lib.hid hr2
  clear ho2 hb2 hr1 hr1' hr2
  go_wp2_with fail
  refine (joined_any _ _ _ [128 :: List.replicate (p - 1) 0, putBytes (8 * n)] _ (rows2_two (heap_alloc_new _ _) ?_ ?_) ?_).mono ?_
  ·have := HR1.out.below ((Below.refl _ _).alloc (Nat.le_refl _) (.cells #[.slice (some ⟨wc.heap.size, 0, none⟩) p p, .slice A2 8 k2] 23))
   simpa [show p - 1 + 1 = p by omega] using this
  ·have := HR2.out.below ((Below.refl _ _).alloc (Nat.le_refl _) (.cells #[.slice (some ⟨wc.heap.size, 0, none⟩) p p, .slice A2 8 k2] 23))
   simpa [putBytes_length] using this
  ·simp [putBytes_length]; omega
  rintro e w3 ⟨v3, rfl, ho3, hb3⟩
  obtain ⟨L, hL⟩ : ∃ L, [128 :: List.replicate (p - 1) 0, putBytes (8 * n)].flatten = L := ⟨_, rfl⟩
  rw [hL] at ho3
  obtain ⟨A3, k3, rfl, hr3⟩ := own_reads ho3
  have hLl : L.length = p + 8 := by rw [← hL]; simp [putBytes_length]; omega
  have hLb : Bs L := by
   rw [← hL]
   intro x hx
   simp only [List.flatten_cons, List.flatten_nil, List.append_nil, List.mem_append, List.mem_cons, List.mem_replicate] at hx
   rcases hx with (rfl | ⟨_, rfl⟩) | hx
   ·omega
   ·omega
   ·exact putBytes_bs _ x hx
  have hC3 : Ch (fun _ => False) wc w3 := ((HC2.out.trans (Ch.of_below HB2.out)).alloc (.cells #[.slice (some ⟨wc.heap.size, 0, none⟩) p p, .slice A2 8 k2] 23)).trans (Ch.of_below hb3)
  have hS3 : SumAt w3 w.heap.size bt h (.slice A1 r.length k1) r n := HS1.out.keep hC3
  have hne3 : ∀ a, A3 = some a → a.block ≠ bt ∧ some a.block ≠ (Value.slice A1 r.length k1).ownBlock := by
   intro a ha
   have hba : wc.heap.size ≤ a.block := by
    have := own_base ho3 a.block (by rw [ha]; rfl)
    have h1 := HC2.out.size
    have h2 := HB2.out.size
    simp at this
    omega
   refine ⟨by omega, fun e => ?_⟩
   have := q_lt HS1.out.own a.block e.symm
   omega
  have HS3 := Lib.hid hS3
  have HR3 := Lib.hid hr3
  have HNE3 := Lib.hid hne3
  have HC3 := Lib.hid hC3
  have HLL := Lib.hid hLl
  have HL := Lib.hid hL
  clear hS3 hr3 hne3 hC3 ho3 hb3 hL
  have hw := write_any w.heap.size bt h (.slice A1 r.length k1) r n A3 k3 L w3 HS3.out HR3.out hLb (fun a e _ => HNE3.out a e) (by omega) (by rw [HM.out]; exact hrl)
  have HW := Lib.hid hw
  clear hw hLl
  rw [HLL.out] at *
  go_wp2_with fail
  refine (HW.out).mono ?_
  rintro e w4 ⟨rfl, rest4, hS4, hC4, _⟩
  obtain ⟨h4, hh4⟩ : ∃ h4, (ab h (r ++ L)).1 = h4 := ⟨_, rfl⟩
  rw [hh4] at hS4
  have hC5 : Ch (fun _ => False) w w4 := by
   refine (HC1.out.trans HC3.out).then_ hC4 fun i hi e => ?_
   have hlo := HS1.out.low
   rcases e with e | e
   ·omega
   ·rcases HS1.out.own.2 with ⟨_, A', he, hA⟩ | ⟨g', off, cap, cur, he, hbg, _⟩
    ·rw [he] at e
     cases A' with
     | none => simp [Value.ownBlock] at e
     | some a' => have := (hA a' rfl).1; simp [Value.ownBlock] at e; omega
    ·rw [he] at e; simp [Value.ownBlock] at e; omega
  have h48 := hS4.h8
  have hix := fun (k : Nat) (hk : k < 8) => index8 h4 h48 k hk
  have hr4 := sum_range hS4.here
  have h4w := hS4.hw
  have HH4 := Lib.hid hh4
  have HR4 := Lib.hid hr4
  have H48 := Lib.hid h48
  have H4W := Lib.hid h4w
  have HIX := Lib.hid hix
  have HC5 := Lib.hid hC5
  clear hh4 hr4 h48 h4w hix hC5 hS4 hC4 HW c9 t8 hW1 hmk
  go_wp2_with (refine wpList_load_mid rfl 88 (.tmp 41) rfl bt 0 rfl (nums .u32 h4) (.array 8 72) HR4.out Tryd.underlying88 rfl (by rw [show (nums .u32 h4).length = 8 by simp [nums, H48.out]]; kernel_rfl) ?_)
  go_loopw [5, 7, 43] (fun v _ i wr => ∃ k : Nat, k ≤ 8 ∧ i = .int .i64 k ∧ wr.ownsRow w.heap.size 5 1 v (outTo h4 k).length (nums .u8 (outTo h4 k)) ∧ Ch (fun _ => False) w wr) (fun _ _ i _ => (8 - intOf i).toNat)
  case atStart => exact ⟨0, by omega, rfl, own_nil _ _ _ _, HC5.out⟩
  case round =>
   obtain ⟨k, hk, rfl, hown, hC⟩ := hrel
   by_cases hlt : k < 8
   ·have hidx := HIX.out k hlt
    obtain ⟨n0', n1'⟩ := nt_w H4W.out k
    have hsuc := Lib.hid (outTo_succ h4 k)
    have HO := Lib.hid hown
    have HC := Lib.hid hC
    have hl : ((outTo h4 k).length + 4) * 1 ≤ 140737488355328 := by rw [outTo_length]; omega
    generalize nt h4 k = x at *
    generalize outTo h4 k = ys at *
    clear hown hC
    go_wp2_with (first | (go_at_call 29; refine (put_any _ _ (by omega) (by omega)).mono ?_; rintro e w' ⟨rfl, rfl⟩) | (at_builtin; refine print_append_row (w0 := w) w.heap.size rfl _ _ 23 5 .u8 1 rfl Tryd.underlying23 info_u8 (by decide) _ _ ((putBytes x).drop 4) _ _ _ rfl rfl (HO.out.alloc _) (put_tail x _) (HC.out.below.alloc HC.out.size _) (Nat.le_trans HC.out.size (by simp)) hl ?_; intro v1 w1 hown1 hB1 _ _))
    go_roundw
    case rel => exact ⟨k + 1, by omega, by go_num, by rw [hsuc.out]; exact hown1, Ch.of_below hB1⟩
    case measure => simp [intOf]; omega
   ·obtain rfl : k = 8 := by omega
    have HO := Lib.hid hown
    have HC := Lib.hid hC
    clear hown hC
    go_wp2
    go_ret
    refine ⟨_, rfl, ?_, HC.out.below⟩
    have := HO.out
    rw [outTo_length] at this
    rw [show 128 :: (List.replicate ((119 - r.length) % 64) 0 ++ putBytes (8 * n)) = L by rw [← HL.out, HM.out, show (119 - m) % 64 = p - 1 by have := HP.out; omega]; simp, HH4.out]
    exact this

/-! ### Of -/
theorem ab_append (h m l : List Int) : ab h (m ++ l) = ab (ab h m).1 ((ab h m).2 ++ l) := by
 obtain ⟨n, hn⟩ : ∃ n, m.length < 64 * (n + 1) := ⟨m.length, by omega⟩
 induction n generalizing h m with
 | zero => rw [ab_less h m (by omega)]
 | succ n ih =>
  by_cases hm : 64 ≤ m.length
  ·rw [ab_more h (m ++ l) (by simp; omega), ab_more h m hm, List.take_append_of_le_length hm, List.drop_append_of_le_length hm]
   exact ih _ _ (by simp; omega)
  ·rw [ab_less h m (by omega)]
theorem ab_rest (h m : List Int) : (ab h m).2.length < 64 ∧ (ab h m).2.length = m.length % 64 := by
 obtain ⟨n, hn⟩ : ∃ n, m.length < 64 * (n + 1) := ⟨m.length, by omega⟩
 induction n generalizing h m with
 | zero => rw [ab_less h m (by omega)]; dsimp only; omega
 | succ n ih =>
  by_cases hm : 64 ≤ m.length
  ·rw [ab_more h m hm]
   have := ih (blk kst h (m.take 64)) (m.drop 64) (by simp; omega)
   rw [List.length_drop] at this
   omega
  ·rw [ab_less h m (by omega)]; dsimp only; omega
theorem sha_eq (m : List Int) : sha m = out32 (ab (ab h0s m).1 ((ab h0s m).2 ++ 128 :: (List.replicate ((119 - (ab h0s m).2.length) % 64) 0 ++ putBytes (8 * m.length)))).1 := by
 rw [← ab_append, (ab_rest h0s m).2]
 unfold sha
 show out32 (absorb kst (m.length + 64) h0s (padded m)).1 = _
 rw [absorb_fuel kst (m.length + 64) (padded m).length h0s (padded m) (by simp [padded, putBytes_length]; omega) (by omega)]
 rfl
set_option maxHeartbeats 1000000 in
theorem of_any (A : Option Addr) (n c : Nat) (ls : List (List Int)) (w : World) (hr : Rows2 w A n ls) (hs : ls.flatten.length < 100000000) (hb : ∀ l ∈ ls, Bs l) :
  Calls Tryd.prog 35 #[.slice A n c] w fun e w' => ∃ v, e = .returned v ∧ w'.ownsRow w.heap.size 5 1 v 32 (nums .u8 (sha ls.flatten)) ∧ Below w.heap.size w w' := by
 have HR := Lib.hid hr.2.2
 have HN := Lib.hid hr.1
 have hn := hr.2.1
 clear hr
 have HBB := Lib.hid hb
 clear hb
 go_enter Tryd.func35, Tryd.ntmps35
 go_wp2_with (go_at_call 47; refine (new_any _).mono ?_; rintro e w1 ⟨rfl, hS, hB⟩; have HS1 := Lib.hid hS; have HB1 := Lib.hid hB; clear hS hB)
 go_loopw [5, 9] (fun _ i wr => ∃ (k : Nat) (rest : Value), k ≤ n ∧ i = .int .i64 k ∧ SumAt wr w.heap.size w.heap.size (ab h0s (catTo ls k)).1 rest (ab h0s (catTo ls k)).2 (catTo ls k).length ∧ Ch (fun _ => False) w wr) (fun _ i _ => n - (intOf i).toNat)
 case atStart => exact ⟨0, _, by omega, rfl, HS1.out, Ch.of_below HB1.out⟩
 case round =>
  obtain ⟨k, rest, hk, rfl, hS, hC⟩ := hrel
  by_cases hlt : k < n
  ·obtain ⟨ad, hA, hcs⟩ := HR.out (by omega)
   obtain ⟨Aj, cj, hcell, hrd⟩ := hcs k hlt
   subst hA
   have hcell' := hC.cell hcell (fun h => h)
   have hrd' := hC.reads hrd (fun _ _ h => h)
   have hsz := catTo_row_le ls k (by rw [HN.out]; omega)
   have hbl : Bs (ls.getD k []) := by
    have hkl : k < ls.length := by rw [HN.out]; exact hlt
    rw [show ls.getD k [] = ls[k] by simp [List.getD_eq_getElem?_getD, List.getElem?_eq_getElem hkl]]
    exact HBB.out _ (List.getElem_mem hkl)
   have hfar : ∀ a, Aj = some a → 0 < (ls.getD k []).length → a.block < w.heap.size := by
    intro a ha hpos
    obtain ⟨a', ha', hcc⟩ := hrd.2.2 hpos
    rw [ha] at ha'
    injection ha' with ha'
    subst ha'
    have := World.block_lt_of_cell? w _ (hcc 0 hpos)
    simpa [Addr.add] using this
   have hlow : ∀ b, rest.ownBlock = some b → w.heap.size ≤ b := by
    intro b hb
    rcases hS.own.2 with ⟨_, A', he, hA⟩ | ⟨g', off, cap, cur, he, hbg, _⟩
    ·rw [he] at hb
     cases A' with
     | none => simp [Value.ownBlock] at hb
     | some a' => have := (hA a' rfl).1; simp [Value.ownBlock] at hb; omega
    ·rw [he] at hb; simp [Value.ownBlock] at hb; omega
   have hw := write_any w.heap.size w.heap.size _ rest _ _ Aj cj (ls.getD k []) wr hS hrd' hbl (fun a ha hp => ⟨by have := hfar a ha hp; omega, fun e => by have := hfar a ha hp; have := hlow _ e.symm; omega⟩) (by omega) (ab_rest _ _).1
   rw [← ab_append, ← catTo_succ ls k (by rw [HN.out]; omega)] at hw
   have HW := Lib.hid hw
   have HC := Lib.hid hC
   have HLO := Lib.hid hlow
   have hcl : ((catTo ls k).length : Int) + (ls.getD k []).length = ((catTo ls (k + 1)).length : Int) := by rw [catTo_succ ls k (by rw [HN.out]; omega)]; simp
   have HCL := Lib.hid hcl
   generalize ls.getD k [] = y at *
   clear hw hC hlow hcs hcell hrd hrd' hbl hfar hsz hcl hS
   go_wp2_with (go_at_call 48; refine (HW.out).mono ?_; rintro e w3 ⟨rfl, rest3, hS3, hC3, _⟩; have HS3 := Lib.hid hS3; have HC3 := Lib.hid hC3; clear hS3 hC3)
   go_roundw
   case rel =>
    refine ⟨k + 1, rest3, by omega, by go_num, by rw [← HCL.out]; exact HS3.out, HC.out.then_ HC3.out fun i hi e => ?_⟩
    rcases e with e | e
    ·omega
    ·have := HLO.out i e.symm; omega
   case measure => simp [intOf]; omega
  ·obtain rfl : k = n := by omega
   have HS := Lib.hid hS
   have HC := Lib.hid hC
   have hall : catTo ls k = ls.flatten := by simp [catTo, ← HN.out]
   have hd := digest_any w.heap.size w.heap.size _ rest _ _ wr hS (ab_rest _ _).1 (by rw [hall]; omega)
   rw [hall, ← sha_eq] at hd
   have HD := Lib.hid hd
   clear hS hC hd hall
   go_wp2_with (go_at_call 49; refine (HD.out).mono ?_; rintro e w2 ⟨v, rfl, ho, hb⟩; have HO := Lib.hid ho; have HB2 := Lib.hid hb; clear ho hb)
   go_ret
   refine ⟨_, rfl, ?_, (HC.out.trans (Ch.of_below HB2.out)).below⟩
   exact own_weaken HO.out HC.out.size
end Go.Proofs.YtejhjlfakfaegaaDoor
set_option linter.unusedSimpArgs false
set_option linter.unusedVariables false
namespace Go.Proofs.YtejhjlfakfaegaaDoor
open Go.RowKit Go.Proofs.YtejhjlfakfaegaaDoorW.PrintWords

theorem q_append2 {P : Program} (w : World) (base : Nat) (t ty e : TypeId) (i : TypeInfo) (z : Value) (size bytes : Nat) (ht : P.underlying t = some (.slice e)) (hi : P.info? e = some i) (hz : i.zero = some z)
  (hsize : i.size = size) (hby : i.bytes = bytes) (hzs : z.cells.size = size) (hsz : 0 < size)
  (v : Value) (n : Nat) (xs : List Value) (hown : QRow w base e size v n xs)
  (a : Addr) (m c : Nat) (news : List Value) (hl : news.length = m * size) (hnews : ∀ j u, news[j]? = some u → w.cell? (a.add j) = some u) (h1 : ∀ u ∈ news, u.oneCell' = true) (hm : 0 < m)
  (h63 : n + m ≤ maxLen) (hbytes : (n + m) * bytes ≤ 140737488355328) (hbase : base ≤ w.heap.size) :
  ∃ v' w', (Builtin.append_ #[t, t] ty #[v, .slice (some a) m c]).run P w = .ok v' w' ∧ QRow w' base e size v' (n + m) (xs ++ news) ∧ w.grownBy w' v.ownBlock ∧ (v'.ownBlock = v.ownBlock ∨ ∃ b, v'.ownBlock = some b ∧ w.heap.size ≤ b) ∧ QRow w' base e size v n xs := by
 have grows : ∀ (b : Addr) (cap : Nat), cap < n + m → (∀ j u, xs[j]? = some u → w.cell? (b.add j) = some u) → v = .slice (some b) n cap →
   ∃ v' w', (Builtin.append_ #[t, t] ty #[v, .slice (some a) m c]).run P w = .ok v' w' ∧ QRow w' base e size v' (n + m) (xs ++ news) ∧ w.grownBy w' v.ownBlock ∧ (v'.ownBlock = v.ownBlock ∨ ∃ b, v'.ownBlock = some b ∧ w.heap.size ≤ b) ∧ QRow w' base e size v n xs := by
  intro b cap hcap hcells hv
  obtain ⟨v', w', hr, ho, hg⟩ := run_append_arg_grows (P := P) (w := w) t ty e i z size bytes ht hi hz hsize hby hzs hsz b n cap xs hown.1 hcells a m c news hl hnews hcap h63 hbytes
  refine ⟨v', w', by rw [hv]; exact hr, q_lower (q_of_own ho) hbase, ⟨hg.os, hg.tape, hg.output, hg.size, fun k hk _ => hg.block k hk (by simp)⟩, ?_⟩
  obtain ⟨g', cap', he, hb, _⟩ := ho.form (by omega)
  exact ⟨.inr ⟨g', by rw [he]; simp [Value.ownBlock], hb⟩, q_move hown fun k hk => hg.block k (q_lt hown k hk) (by simp)⟩
 rcases hown.2 with ⟨h0, A, hv, hA⟩ | ⟨g, off, cap, cur, hv, hbg, hg, hnc, hcm, hcs, htake⟩
 ·cases A with
  | none =>
   subst h0
   have ho : w.ownsRow base e size v 0 xs := ⟨hown.1, .inl ⟨hv, rfl⟩⟩
   obtain ⟨v', w', hr, ho', hg, _, hat⟩ := run_append_own_at (P := P) w base t ty e i z size bytes ht hi hz hsize hby hzs hsz v 0 xs ho a m c news hl hnews h1 h63 hbytes hbase
   refine ⟨v', w', hr, q_of_own ho', hg, ?_, q_move hown fun k hk => by rw [hv] at hk; cases hk⟩
   rcases hat with hat | hat
   ·exact .inl hat
   ·exact .inr ⟨_, hat, Nat.le_refl _⟩
  | some b =>
   have hx : xs = [] := List.eq_nil_of_length_eq_zero (by rw [hown.1, h0, Nat.zero_mul])
   exact grows b 0 (by omega) (fun j u hu => by rw [hx] at hu; simp at hu) (by rw [hv, h0])
 ·by_cases hroom : n + m ≤ cap
  ·have hfit : off * size + n * size + news.length ≤ cur.size := by
    rw [hl, hcs, ← Nat.add_mul, ← Nat.add_mul]
    exact Nat.mul_le_mul_right _ (by omega)
   subst hsize
   have hr := run_append_room_cells (P := P) (w := w) t ty e i ht hi g (off * i.size) n cap a m c news hl hnews h1 hroom
    (fun j hj => by rw [cell_of_row w g _ cur e (0, 0) hg]; simp; omega) (fun j _ => blk_frozen hg _)
   obtain ⟨cur', h3, h4, h5⟩ := setCells_row news (off * i.size + n * i.size) w cur hg hfit
   obtain ⟨s1, s2, s3, s4⟩ := setCells_same g news (off * i.size + n * i.size) w
   refine ⟨_, _, by rw [hv]; exact hr, ⟨by rw [List.length_append, hown.1, hl, Nat.add_mul], .inr ⟨g, off, cap, cur', rfl, hbg, h3, hroom, hcm, by rw [h4, hcs], ?_⟩⟩,
    ⟨s1, s2, s3, by rw [s4]; exact Nat.le_refl _, fun k _ hk => setCells_far news _ k (fun he => hk (by rw [hv, he]; simp [Value.ownBlock]))⟩, .inl (by rw [hv]; rfl), ⟨hown.1, .inr ⟨g, off, cap, cur', hv, hbg, h3, hnc, hcm, by rw [h4, hcs], ?_⟩⟩⟩
   case refine_2 =>
    rw [h5, List.append_assoc, List.drop_append_of_le_length (by rw [List.length_take, Array.length_toList]; omega), List.drop_take]
    rw [show off * i.size + n * i.size - off * i.size = n * i.size by omega, htake]
    exact List.take_left' (by rw [hown.1])
   rw [h5, List.append_assoc, List.drop_append_of_le_length (by rw [List.length_take, Array.length_toList]; omega), List.drop_take]
   rw [show off * i.size + n * i.size - off * i.size = n * i.size by omega, htake]
   rw [← List.append_assoc]
   exact List.take_left' (by rw [List.length_append, hown.1, hl, Nat.add_mul])
  ·refine grows ⟨g, off * size, none⟩ cap (by omega) (fun j u hu => ?_) hv
   rw [add_at, cell_of_row w g _ cur e (0, 0) hg]
   rw [← htake, List.getElem?_take] at hu
   split at hu
   ·rw [List.getElem?_drop] at hu
    rw [← Array.getElem?_toList]
    exact hu
   ·cases hu
theorem wp_append_q2 {P : Program} {w : World} {o : Oper} {a : Act} {K : Act → World → Prop} {Q : Exit → Act → World → Prop} (base : Nat) (s x : Operand) (t e : TypeId) (k : IntKind) (bytes : Nat)
  (ho : o.op = .call { callee := .builtin .append, args := #[s, x], argTypes := #[t, t] })
  (ht : P.underlying t = some (.slice e)) (hinfo : (P.info? e).map (fun i => (i.zero, i.size, i.bytes)) = some (some (.int k 0), 1, bytes)) (hb0 : 0 < bytes)
  (v : Value) (xs ys : List Int) (A : Option Addr) (m c : Nat) (hs : a.eval s = v) (hx : a.eval x = .slice A m c)
  (HO : QRow w base e 1 v xs.length (nums k xs)) (HR : ReadsInt w k A m ys) (hbase : base ≤ w.heap.size) (hl : (xs.length + m) * bytes ≤ 140737488355328)
  (h : ∀ v' w', QRow w' base e 1 v' (xs ++ ys).length (nums k (xs ++ ys)) → w.grownBy w' v.ownBlock → (v'.ownBlock = v.ownBlock ∨ ∃ b, v'.ownBlock = some b ∧ w.heap.size ≤ b) → QRow w' base e 1 v xs.length (nums k xs) → K (a.put o.dst v') w') :
  o.wp P a w K Q := by
 obtain ⟨i0, hi, hzz⟩ := Option.map_eq_some_iff.1 hinfo
 simp only [Prod.mk.injEq] at hzz
 obtain ⟨hz0, hz1, hz2⟩ := hzz
 have hm : ys.length = m := HR.1
 have hlen : xs.length + m ≤ 140737488355328 := Nat.le_trans (Nat.le_mul_of_pos_right _ hb0) hl
 have hrun : ∃ v1 w1, (Builtin.append_ #[t, t] o.type #[v, .slice A m c]).run P w = .ok v1 w1 ∧ QRow w1 base e 1 v1 (xs ++ ys).length (nums k (xs ++ ys)) ∧ w.grownBy w1 v.ownBlock ∧ (v1.ownBlock = v.ownBlock ∨ ∃ b, v1.ownBlock = some b ∧ w.heap.size ≤ b) ∧ QRow w1 base e 1 v xs.length (nums k xs) := by
  rcases Nat.eq_zero_or_pos m with h0 | h0
  ·subst h0
   obtain rfl : ys = [] := List.eq_nil_of_length_eq_zero hm
   refine ⟨v, w, ?_, by simpa using HO, World.grownBy.refl w _, .inl rfl, HO⟩
   obtain ⟨A', c', rfl, hc'⟩ := q_slice HO
   rcases A with _ | ad <;> rcases A' with _ | ad' <;> simp [Builtin.append_, run_underlying ht, sizeOf, typeInfo, hi, Builtin.lenOf, Builtin.firstCells, hc', storeCells, loadCells, loadCellsFrom]
  ·obtain ⟨ad, rfl, hc⟩ := HR.2.2 h0
   have hcells : ∀ j u, (nums k ys)[j]? = some u → w.cell? (ad.add j) = some u := by
    intro j u hu
    have hj : j < ys.length := by
     have := (List.getElem?_eq_some_iff.1 hu).1
     simpa [nums] using this
    have := hc j (by omega)
    simp [nums, List.getElem?_eq_getElem hj] at hu
    subst hu
    rw [this]
    simp [List.getD_eq_getElem?_getD, List.getElem?_eq_getElem hj]
   obtain ⟨v1, w1, hr, h2, h3, h4, h5⟩ := q_append2 (P := P) w base t o.type e i0 (.int k 0) 1 bytes ht hi hz0 hz1 hz2 rfl (by omega) v xs.length (nums k xs) HO ad m c (nums k ys) (by simp [nums, hm]) hcells
    (by intro u hu; simp only [nums, List.mem_map] at hu; obtain ⟨q, _, rfl⟩ := hu; rfl) h0 (by simp only [maxLen]; omega) hl hbase
   exact ⟨v1, w1, hr, by simpa [nums, hm] using h2, h3, h4, h5⟩
 obtain ⟨v1, w1, hr, hown, hg, hat, hold⟩ := hrun
 unfold Oper.wp execOp
 simp only [ho, resolve, invoke, builtin, Sem.run_bind, Sem.run_pure, Result.andThen_ok, List.map_toArray, List.map_cons, List.map_nil, hs, hx, hr]
 exact h v1 w1 hown hg hat hold
theorem step_append_q2 {P : Program} {w : World} {ops : Array Oper} {o : Oper} {a : Act} {K : Act → World → Prop} {Q : Exit → Act → World → Prop} {E : Prop} (base : Nat) (hgd : o.guard = none) (s x : Operand) (t e : TypeId) (k : IntKind) (bytes : Nat)
  (ho : o.op = .call { callee := .builtin .append, args := #[s, x], argTypes := #[t, t] })
  (ht : P.underlying t = some (.slice e)) (hinfo : (P.info? e).map (fun i => (i.zero, i.size, i.bytes)) = some (some (.int k 0), 1, bytes)) (hb0 : 0 < bytes)
  (v : Value) (xs ys : List Int) (A : Option Addr) (m c : Nat) (hs : a.eval s = v) (hx : a.eval x = .slice A m c)
  (HO : QRow w base e 1 v xs.length (nums k xs)) (HR : ReadsInt w k A m ys) (hbase : base ≤ w.heap.size) (hl : (xs.length + m) * bytes ≤ 140737488355328)
  (h : ∀ v' w', QRow w' base e 1 v' (xs ++ ys).length (nums k (xs ++ ys)) → w.grownBy w' v.ownBlock → (v'.ownBlock = v.ownBlock ∨ ∃ b, v'.ownBlock = some b ∧ w.heap.size ≤ b) → QRow w' base e 1 v xs.length (nums k xs) → K (a.put o.dst v') w') :
  if Region.wanted o (yielded ops a.tmps) = true then Oper.wp P o a w K Q else E := by
 have hw : Region.wanted o (yielded ops a.tmps) = true := by simp [Region.wanted, hgd]
 rw [if_pos hw]
 exact wp_append_q2 base s x t e k bytes ho ht hinfo hb0 v xs ys A m c hs hx HO HR hbase hl h
end Go.Proofs.YtejhjlfakfaegaaDoor
set_option linter.unusedSimpArgs false
set_option linter.unusedVariables false
namespace Go.Proofs.YtejhjlfakfaegaaDoor
open Go.RowKit Go.Proofs.YtejhjlfakfaegaaDoorW.PrintWords
theorem rd_own {w : World} {base : Nat} {e : TypeId} {k : IntKind} {A : Option Addr} {n c : Nat} {xs : List Int} (h : w.ownsRow base e 1 (.slice A n c) n (nums k xs)) : ReadsInt w k A n xs := q_reads (q_of_own h)
theorem own_kept {w w' : World} {base : Nat} {e : TypeId} {size n : Nat} {v : Value} {xs : List Value} (h : w.ownsRow base e size v n xs) (hb : Below w.heap.size w w') : w'.ownsRow base e size v n xs :=
 own_move h fun k hk => hb.block k (own_lt h k hk)
end Go.Proofs.YtejhjlfakfaegaaDoor
set_option linter.unusedSimpArgs false
set_option linter.unusedVariables false
namespace Go.Proofs.YtejhjlfakfaegaaDoor
open Go.RowKit Go.Proofs.YtejhjlfakfaegaaDoorW.PrintWords

theorem run_convert_own (w : World) (t e : TypeId) (ht : Tryd.prog.underlying t = some (.slice e)) (he : Tryd.prog.underlying e = some (.int .u8)) (g n c : Nat) (cs : Array Value) (T : TypeId) (fz : Nat × Nat) (h : w.heap[g]? = some (.cells cs T fz)) :
  (convert t t (.slice (some ⟨g, 0, none⟩) n c)).run Tryd.prog w = .ok (.slice (some ⟨g, 0, none⟩) n c) (w.freeze ⟨g, cs.size, none⟩ 1) := by
 have hs : w.shape? g = some (T, cs.size) := by simp [World.shape?, h]
 simp [convert, run_underlying ht, run_underlying he, markStringish, shape, Sem.run, hs]
theorem frz_here (w : World) (g n : Nat) (cs : Array Value) (T : TypeId) (fz : Nat × Nat) (h : w.heap[g]? = some (.cells cs T fz)) : ∃ fz', (w.freeze ⟨g, n, none⟩ 1).heap[g]? = some (.cells cs T fz') := by
 unfold World.freeze
 rw [if_neg (by decide)]
 obtain ⟨lo, hi⟩ := fz
 refine ⟨(if lo == hi then (n, n + 1) else (min lo n, max hi (n + 1))), ?_⟩
 show (w.heap.modify _ _)[g]? = _
 rw [Array.getElem?_modify, if_pos rfl, h]
 rfl
theorem Ch.freeze {S : Nat → Prop} {a w : World} (h : Ch S a w) {p : Addr} (hp : S p.block ∨ a.heap.size ≤ p.block) (n : Nat) : Ch S a (w.freeze p n) := by
 refine h.then_ (S' := (· = p.block)) ?_ (fun i hi e => by subst e; rcases hp with hp | hp; exact hp; omega)
 unfold World.freeze
 split
 ·exact Ch.refl _ _
 ·exact ⟨rfl, rfl, rfl, by simp, fun k hk hn => by show (w.heap.modify _ _)[k]? = _; rw [Array.getElem?_modify, if_neg (fun e => hn e.symm)]⟩
end Go.Proofs.YtejhjlfakfaegaaDoor
set_option linter.unusedSimpArgs false
set_option linter.unusedVariables false
namespace Go.Proofs.YtejhjlfakfaegaaDoor
open Go.RowKit Go.Proofs.YtejhjlfakfaegaaDoorW.PrintWords

/-- a literal of bytes, converted to its own type -/
def frz (W : World) (l : List Int) : World := (W.alloc (.cells (nums .u8 l).toArray 5)).freeze ⟨W.heap.size, l.length, none⟩ 1
theorem frz_run (W : World) (l : List Int) (n c : Nat) : Sem.run Tryd.prog (convert 23 23 (.slice (some ⟨W.heap.size, 0, none⟩) n c)) (W.alloc (.cells (nums .u8 l).toArray 5)) = .ok (.slice (some ⟨W.heap.size, 0, none⟩) n c) (frz W l) := by
 have := run_convert_own (W.alloc (.cells (nums .u8 l).toArray 5)) 23 5 Tryd.underlying23 Tryd.underlying5 W.heap.size n c (nums .u8 l).toArray 5 (0, 0) (heap_alloc_new _ _)
 rw [this]
 simp [frz, nums]
theorem frz_ch (W : World) (l : List Int) : Ch (fun _ => False) W (frz W l) := ((Ch.refl _ _).alloc _).freeze (.inr (Nat.le_refl _)) _
theorem frz_size (W : World) (l : List Int) : (frz W l).heap.size = W.heap.size + 1 := by
 unfold frz World.freeze
 split <;> simp
theorem frz_reads (W : World) (l : List Int) (h : l.length ≤ 9223372036854775807) : ReadsInt (frz W l) .u8 (some ⟨W.heap.size, 0, none⟩) l.length l := by
 obtain ⟨fz', hf⟩ := frz_here (W.alloc (.cells (nums .u8 l).toArray 5)) W.heap.size l.length _ _ _ (heap_alloc_new _ _)
 refine ⟨rfl, h, fun _ => ⟨_, rfl, fun j hj => ?_⟩⟩
 rw [add_plain]
 unfold frz
 rw [cell_of_row _ _ _ _ _ _ hf]
 simp [nums, List.getElem?_eq_getElem hj, List.getD_eq_getElem?_getD]
theorem lit_reads (W : World) (l : List Int) (h : l.length ≤ 9223372036854775807) : ReadsInt (W.alloc (.cells (nums .u8 l).toArray 5)) .u8 (some ⟨W.heap.size, 0, none⟩) l.length l :=
 rd_own (own_lit W 0 5 .u8 l (by omega) h)
theorem reads_take {w : World} {k : IntKind} {ad : Addr} {n m : Nat} {xs : List Int} (h : ReadsInt w k (some ad) n xs) (hm : m ≤ n) : ReadsInt w k (some ad) m (xs.take m) := by
 have := reads_sub h 0 m (by omega)
 simpa [Addr.add] using this
end Go.Proofs.YtejhjlfakfaegaaDoor
set_option linter.unusedSimpArgs false
set_option linter.unusedVariables false
namespace Go.Proofs.YtejhjlfakfaegaaDoor
open Go.RowKit Go.Proofs.YtejhjlfakfaegaaDoorW.PrintWords
theorem rows2_one1 {W : World} {g n1 c1 : Nat} {A1 : Option Addr} {T : TypeId} {l1 : List Int} (h : W.heap[g]? = some (.cells #[.slice A1 n1 c1] T (0, 0))) (h1 : ReadsInt W .u8 A1 n1 l1) :
  Rows2 W (some ⟨g, 0, none⟩) 1 [l1] := by
 refine ⟨rfl, by omega, fun _ => ⟨_, rfl, fun j hj => ?_⟩⟩
 obtain rfl := h1.1
 obtain rfl : j = 0 := by omega
 rw [add_plain, blk_cell h]
 exact ⟨A1, c1, rfl, h1⟩
end Go.Proofs.YtejhjlfakfaegaaDoor
set_option linter.unusedSimpArgs false
set_option linter.unusedVariables false
namespace Go.Proofs.YtejhjlfakfaegaaDoor
open Go.RowKit Go.Proofs.YtejhjlfakfaegaaDoorW.PrintWords

def numOf8 : Value → Int
 | .int _ n => n
 | _ => 0
set_option maxRecDepth 100000 in
theorem b16_of {W : World} {r : Reach} {base : Nat} {v : Value} (h : Value.okWide Tryd.prog W r base 22 v) : ∃ l : List Int, v = .agg (nums .u8 l).toArray ∧ l.length = 16 ∧ Bs l := by
 simp only [Value.okWide, Tryd.underlying22] at h
 obtain ⟨cs, rfl, hsz, ts, hts, _, hall⟩ := h
 have ht : Tryd.prog.cellTypes Tryd.prog.depth 22 = some (List.replicate 16 5) := by kernel_rfl
 rw [ht] at hts
 injection hts with hts
 subst hts
 have hsz' : cs.size = 16 := by rw [hsz]; kernel_rfl
 have hcell : ∀ i (hi : i < cs.size), ∃ n, cs[i] = .int .u8 n ∧ 0 ≤ n ∧ n < 256 := by
  intro i hi
  obtain ⟨u, hu, hok⟩ := hall i cs[i] (Array.getElem?_eq_getElem hi)
  have hu5 : u = 5 := by
   simp only [List.length_replicate, List.getElem?_replicate] at hu
   split at hu
   ·exact (Option.some.inj hu).symm
   ·cases hu
  subst hu5
  simp only [Cell.okWide, Tryd.underlying5] at hok
  revert hok
  generalize cs[i] = x
  cases x <;> simp only [Cell.ok, Tryd.underlying5, false_implies, implies_true]
  rename_i k n
  rintro ⟨rfl, hk⟩
  refine ⟨n, rfl, ?_⟩
  simp [IntKind.has, IntKind.min, IntKind.max, IntKind.bits, IntKind.signed] at hk
  omega
 refine ⟨cs.toList.map numOf8, ?_, by simpa using hsz', ?_⟩
 ·congr 1
  apply Array.ext'
  rw [List.toList_toArray]
  unfold nums
  rw [List.map_map]
  apply List.ext_getElem
  ·simp
  ·intro i h1 h2
   obtain ⟨n, hn, _⟩ := hcell i (by simpa using h1)
   simp [hn, numOf8]
 ·intro x hx
  simp only [List.mem_map] at hx
  obtain ⟨y, hy, rfl⟩ := hx
  obtain ⟨i, hi, rfl⟩ := List.getElem_of_mem hy
  obtain ⟨n, hn, h0, h1⟩ := hcell i (by simpa using hi)
  simp [hn, numOf8]
  exact ⟨h0, h1⟩
end Go.Proofs.YtejhjlfakfaegaaDoor
