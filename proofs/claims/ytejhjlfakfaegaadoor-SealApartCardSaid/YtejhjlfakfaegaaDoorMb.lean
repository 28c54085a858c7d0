/- The reference's Turn and block. The reference's Digest. The reference's limbs: at, times. The reference's above, cube. The reference's cube. The reference's constants are the program's: by reckoning. The reference's primes and Ks. The reference's Ks; what the digest of the reference is. -/
import Derived.Test.YtejhjlfakfaegaaDoorMa
set_option linter.unusedSimpArgs false
set_option linter.unusedVariables false
namespace Go.Proofs.YtejhjlfakfaegaaDoor
open Go.RowKit Go.Proofs.YtejhjlfakfaegaaDoorW.PrintWords

set_option maxHeartbeats 400000 in
theorem rturn_any (x : Int) (n : Nat) (w : World) (h0 : 0 < n) (h : n < 32) (hx : W32 x) :
  Calls Tryd.prog 61 #[.int .u32 x, .int .u64 n] w fun e w' => e = .returned (.int .u32 (rot n x)) ∧ w' = w := by
 obtain ⟨hx0, hx1⟩ := hx
 have e1 : (32 - (n : Int)).toNat = 32 - n := by omega
 have e2 : (32 - (n : Int)) % 18446744073709551616 = 32 - (n : Int) := by omega
 go_enter Tryd.func61, Tryd.ntmps61
 go_wp2
 go_ret
 refine ⟨?_, rfl⟩
 show Ending.returned (Value.int .u32 (bits BinOp.or IntKind.u32 (x / 2 ^ n) _)) = _
 rfl
theorem rturn_lit (x : Int) (n : Int) (w : World) (h0 : 0 < n) (h : n < 32) (hx : W32 x) :
  Calls Tryd.prog 61 #[.int .u32 x, .int .u64 n] w fun e w' => e = .returned (.int .u32 (rot n.toNat x)) ∧ w' = w := by
 obtain ⟨k, rfl⟩ := Int.eq_ofNat_of_zero_le (show 0 ≤ n by omega)
 exact rturn_any x k w (by omega) (by omega) hx

theorem or4 (a b c d : Int) (ha : 0 ≤ a ∧ a < 256) (hb : 0 ≤ b ∧ b < 256) (hc : 0 ≤ c ∧ c < 256) (hd : 0 ≤ d ∧ d < 256) :
  bits .or .u32 (bits .or .u32 (bits .or .u32 (a * 16777216) (b * 65536)) (c * 256)) d = ((a * 256 + b) * 256 + c) * 256 + d := by
 obtain ⟨a, rfl⟩ := Int.eq_ofNat_of_zero_le ha.1
 obtain ⟨b, rfl⟩ := Int.eq_ofNat_of_zero_le hb.1
 obtain ⟨c, rfl⟩ := Int.eq_ofNat_of_zero_le hc.1
 obtain ⟨d, rfl⟩ := Int.eq_ofNat_of_zero_le hd.1
 rw [show (a : Int) * 16777216 = ((a * 16777216 : Nat) : Int) by omega, show (b : Int) * 65536 = ((b * 65536 : Nat) : Int) by omega, show (c : Int) * 256 = ((c * 256 : Nat) : Int) by omega]
 rw [u32_or_nat _ _ (by omega) (by omega), nat_join 24 _ _ (by omega) (by omega), u32_or_nat _ _ (by omega) (by omega), nat_join 16 _ _ (by omega) (by omega), u32_or_nat _ _ (by omega) (by omega), nat_join 8 _ _ (by omega) (by omega)]
 omega
theorem be4_nt (l : List Int) (k : Nat) (h : 4 * k + 4 ≤ l.length) : be ((l.drop (4 * k)).take 4) = ((nt l (4 * k) * 256 + nt l (4 * k + 1)) * 256 + nt l (4 * k + 2)) * 256 + nt l (4 * k + 3) := by
 have e : (l.drop (4 * k)).take 4 = [nt l (4 * k), nt l (4 * k + 1), nt l (4 * k + 2), nt l (4 * k + 3)] := by
  apply List.ext_getElem?
  intro i
  rw [List.getElem?_take, List.getElem?_drop]
  rcases i with _|_|_|_|i
  ·simp [nt_get (show 4 * k < l.length by omega)]
  ·simp [nt_get (show 4 * k + 1 < l.length by omega)]
  ·simp [nt_get (show 4 * k + 2 < l.length by omega)]
  ·simp [nt_get (show 4 * k + 3 < l.length by omega)]
  ·simp; omega
 rw [e]
 simp [be]
theorem idx4 (k i : Nat) (h : 4 * k + i < 64) : IntKind.i64.wrap (4 * (k : Int) + i) = 4 * (k : Int) + i ∧ 0 ≤ 4 * (k : Int) + i ∧ 4 * (k : Int) + i < 64 ∧ (4 * (k : Int) + i).toNat = 4 * k + i := by
 refine ⟨IntWalk.i64_in _ (by omega), by omega, by omega, by omega⟩
theorem one_reads {W : World} {g : Nat} {k : IntKind} {x : Int} {T : TypeId} (h : W.heap[g]? = some (.cells #[.int k x] T (0, 0))) : ReadsInt W k (some ⟨g, 0, none⟩) 1 [x] := by
 refine ⟨rfl, by omega, fun _ => ⟨_, rfl, fun j hj => ?_⟩⟩
 obtain rfl : j = 0 := by omega
 rw [add_plain, blk_cell h]
 rfl
theorem wrap32 {x : Int} (h : W32 x) : IntKind.u32.wrap x = x := by rw [IntKind.wrap_u32]; obtain ⟨h0, h1⟩ := h; omega
theorem q_drew {w : World} {base : Nat} {e : TypeId} {size n : Nat} {v : Value} {xs : List Value} (h : QRow w base e size v n xs) : QRow w.drew base e size v n xs := q_move h fun _ _ => rfl
theorem q_alloc {w : World} {base : Nat} {e : TypeId} {size n : Nat} {v : Value} {xs : List Value} (h : QRow w base e size v n xs) (o : Obj) : QRow (w.alloc o) base e size v n xs := q_move h fun k hk => heap_alloc_old w o (q_lt h k hk)
theorem q_at {w : World} {base : Nat} {e : TypeId} {k : IntKind} {ad : Addr} {n m c : Nat} {xs : List Int} (h : QRow w base e 1 (.slice (some ad) n c) m (nums k xs)) (hn : m = n) {j : Nat} (hj : j < n) : w.cell? (ad.add j) = some (.int k (nt xs j)) := by
 subst hn
 obtain ⟨_, e1, h1⟩ := (q_reads h).2.2 (by omega)
 injection e1 with e1
 subst e1
 exact h1 j hj
theorem info_u32 : (Tryd.prog.info? 72).map (fun i => (i.zero, i.size, i.bytes)) = some (some (.int .u32 0), 1, 4) := by kernel_rfl
/-- the words so far, both ways of making them in one count -/
def wAll (b : List Int) (k : Nat) : List Int := if k ≤ 16 then w16 b k else wTo b k
theorem wAll_length (b : List Int) (k : Nat) : (wAll b k).length = k := by
 unfold wAll
 split
 ·exact w16_length b k
 ·exact wTo_length b k (by omega)
theorem wAll_lo (b : List Int) (k : Nat) (h : k < 16) : wAll b (k + 1) = wAll b k ++ [be ((b.drop (4 * k)).take 4)] := by
 unfold wAll
 rw [if_pos (by omega), if_pos (by omega), w16_succ]
theorem wAll_hi (b : List Int) (k : Nat) (h : 16 ≤ k) : wAll b (k + 1) = wAll b k ++ [wNext (wAll b k)] := by
 have e : wAll b k = wTo b k := by
  unfold wAll
  split
  ·obtain rfl : k = 16 := by omega
   rfl
  ·rfl
 rw [e]
 unfold wAll
 rw [if_neg (by omega), wTo_succ b k h]
theorem wAll_w (b : List Int) (hb : Bs b) (h : b.length = 64) (k : Nat) : ∀ x ∈ wAll b k, W32 x := by
 unfold wAll
 split
 ·exact w16_w b hb h k (by omega)
 ·exact wTo_w b hb h k
set_option maxHeartbeats 4000000 in
set_option maxRecDepth 100000 in
theorem rblock_any (Ah Ab Ak : Option Addr) (ch cb ck : Nat) (hs l ks : List Int) (w : World)
  (hh : ReadsInt w .u32 Ah 8 hs) (hb : ReadsInt w .u8 Ab 64 l) (hk : ReadsInt w .u32 Ak 64 ks) (hw : ∀ x ∈ hs, W32 x) (hl : Bs l) (hkw : ∀ x ∈ ks, W32 x) :
  Calls Tryd.prog 53 #[.slice Ah 8 ch, .slice Ab 64 cb, .slice Ak 64 ck] w fun e w' =>
   ∃ v, e = .returned v ∧ w'.ownsRow w.heap.size 72 1 v 8 (nums .u32 (blk ks hs l)) ∧ Below w.heap.size w w' := by
 obtain ⟨ah, rfl, hch⟩ := hh.2.2 (by omega)
 obtain ⟨ab', rfl, hcb⟩ := hb.2.2 (by omega)
 obtain ⟨ak, rfl, hck⟩ := hk.2.2 (by omega)
 have HH := Lib.hid hch
 have HB := Lib.hid hcb
 have HK := Lib.hid hck
 have L8 := Lib.hid hh.1
 have L64 := Lib.hid hb.1
 have K64 := Lib.hid hk.1
 clear hh hb hk hch hcb hck
 go_enter Tryd.func53, Tryd.ntmps53
 go_wp2
 go_loopw [7, 8, 9, 10] (fun v i _ _ wr => ∃ k : Nat, k ≤ 64 ∧ i = .int .i64 k ∧ QRow wr w.heap.size 72 1 v (wAll l k).length (nums .u32 (wAll l k)) ∧ Ch (fun _ => False) w wr) (fun _ i _ _ _ => (64 - intOf i).toNat)
 case atStart => exact ⟨0, by omega, rfl, q_of_own (World.ownsRow_made w _ 0 (Nat.le_refl _) (by unfold maxLen; omega) rfl), (Ch.refl _ _).alloc _⟩
 case round =>
  obtain ⟨k, hk, rfl, hown, hB⟩ := hrel
  by_cases hlt : k < 64
  ·have hln := wAll_length l k
   rw [hln] at hown
   obtain ⟨A, c, rfl, hkc⟩ := q_slice hown
   have hl64 : Hid (((wAll l k).length + 1) * 4 ≤ 140737488355328) := by rw [hln]; exact Lib.hid (by omega)
   have HO : Hid (QRow wr w.heap.size 72 1 (.slice A k c) (wAll l k).length (nums .u32 (wAll l k))) := by rw [hln]; exact Lib.hid hown
   have HLN : Hid (∀ x, (wAll l k ++ [x]).length = k + 1) := fun x => by simp [hln]
   by_cases h16 : k < 16
   ·--[R1
    have q := hl.at
    have c0 := HB.out (4 * k) (by omega)
    have c1 := HB.out (4 * k + 1) (by omega)
    have c2 := HB.out (4 * k + 2) (by omega)
    have c3 := HB.out (4 * k + 3) (by omega)
    change w.cell? _ = some (.int .u8 (nt l (4 * k))) at c0
    change w.cell? ⟨ab'.block, ab'.off + (4 * k + 1), none⟩ = some (.int .u8 (nt l (4 * k + 1))) at c1
    change w.cell? ⟨ab'.block, ab'.off + (4 * k + 2), none⟩ = some (.int .u8 (nt l (4 * k + 2))) at c2
    change w.cell? ⟨ab'.block, ab'.off + (4 * k + 3), none⟩ = some (.int .u8 (nt l (4 * k + 3))) at c3
    have hor := or4 _ _ _ _ (q (4 * k)) (q (4 * k + 1)) (q (4 * k + 2)) (q (4 * k + 3))
    rw [← be4_nt l k (by rw [L64.out]; omega)] at hor
    obtain ⟨a0, a1⟩ := q (4 * k)
    obtain ⟨b0, b1⟩ := q (4 * k + 1)
    obtain ⟨d0, d1⟩ := q (4 * k + 2)
    obtain ⟨e0, e1⟩ := q (4 * k + 3)
    have hsuc := Lib.hid (wAll_lo l k h16)
    have HOR := Lib.hid hor
    have HBW := Lib.hid hB
    obtain ⟨i0, i1, i2, i3⟩ := idx4 k 0 (by omega)
    obtain ⟨j0, j1, j2, j3⟩ := idx4 k 1 (by omega)
    obtain ⟨m0, m1, m2, m3⟩ := idx4 k 2 (by omega)
    obtain ⟨n0, n1, n2, n3⟩ := idx4 k 3 (by omega)
    simp only [Int.natCast_zero, Int.add_zero, Nat.add_zero] at i0 i1 i2 i3
    change IntKind.i64.wrap (4 * (k : Int) + 1) = 4 * (k : Int) + 1 at j0
    change IntKind.i64.wrap (4 * (k : Int) + 2) = 4 * (k : Int) + 2 at m0
    change IntKind.i64.wrap (4 * (k : Int) + 3) = 4 * (k : Int) + 3 at n0
    change 0 ≤ 4 * (k : Int) + 1 at j1
    change 0 ≤ 4 * (k : Int) + 2 at m1
    change 0 ≤ 4 * (k : Int) + 3 at n1
    change 4 * (k : Int) + 1 < 64 at j2
    change 4 * (k : Int) + 2 < 64 at m2
    change 4 * (k : Int) + 3 < 64 at n2
    change (4 * (k : Int) + 1).toNat = 4 * k + 1 at j3
    change (4 * (k : Int) + 2).toNat = 4 * k + 2 at m3
    change (4 * (k : Int) + 3).toNat = 4 * k + 3 at n3
    generalize nt l (4 * k) = x0 at *
    generalize nt l (4 * k + 1) = x1 at *
    generalize nt l (4 * k + 2) = x2 at *
    generalize nt l (4 * k + 3) = x3 at *
    have r0 : IntKind.u32.wrap x0 = x0 := wrap32 ⟨by omega, by omega⟩
    have r1 : IntKind.u32.wrap x1 = x1 := wrap32 ⟨by omega, by omega⟩
    have r2 : IntKind.u32.wrap x2 = x2 := wrap32 ⟨by omega, by omega⟩
    have r3 : IntKind.u32.wrap x3 = x3 := wrap32 ⟨by omega, by omega⟩
    have s0 : IntKind.u32.wrap (x0 * 16777216) = x0 * 16777216 := wrap32 ⟨by omega, by omega⟩
    have s1 : IntKind.u32.wrap (x1 * 65536) = x1 * 65536 := wrap32 ⟨by omega, by omega⟩
    have s2 : IntKind.u32.wrap (x2 * 256) = x2 * 256 := wrap32 ⟨by omega, by omega⟩
    generalize be (List.take 4 (List.drop (4 * k) l)) = bw at *
    generalize wAll l k = ys at *
    clear hown hB q hln
    have HMK : Hid (∀ w', Ch (fun _ => False) w w' → Ch (fun _ => False) w w' ∧ w'.cell? (ab'.add (4 * k)) = some (.int .u8 x0) ∧ w'.cell? ⟨ab'.block, ab'.off + (4 * k + 1), none⟩ = some (.int .u8 x1) ∧ w'.cell? ⟨ab'.block, ab'.off + (4 * k + 2), none⟩ = some (.int .u8 x2) ∧ w'.cell? ⟨ab'.block, ab'.off + (4 * k + 3), none⟩ = some (.int .u8 x3)) := fun w' hC =>
     ⟨hC, hC.cell c0 (fun h => h), hC.cell c1 (fun h => h), hC.cell c2 (fun h => h), hC.cell c3 (fun h => h)⟩
    clear c0 c1 c2 c3
    go_wp2
    go_region_held3 (fun w' => Ch (fun _ => False) w w' ∧ w'.cell? (ab'.add (4 * k)) = some (.int .u8 x0) ∧ w'.cell? ⟨ab'.block, ab'.off + (4 * k + 1), none⟩ = some (.int .u8 x1) ∧ w'.cell? ⟨ab'.block, ab'.off + (4 * k + 2), none⟩ = some (.int .u8 x2) ∧ w'.cell? ⟨ab'.block, ab'.off + (4 * k + 3), none⟩ = some (.int .u8 x3))
     ((refine HMK.out _ ?_; (repeat (first | (with_reducible refine Ch.drew ?_) | (with_reducible refine Ch.alloc ?_ _))); first | (with_reducible exact HBW.out) | (with_reducible exact And.left (by assumption)) | (with_reducible exact hC1)))
     ((refine step_append_q w.heap.size (by rfl) _ _ 50 72 .u32 4 (by rfl) Tryd.underlying50 info_u32 (by decide) (.slice A k c) ys [bw] (some ⟨wr.heap.size, 0, none⟩) 1 1 (by rfl) (by rfl) (q_move HO.out fun k hk => heap_alloc_old wr _ (q_lt HO.out k hk)) (one_reads (show (World.drew (World.alloc wr _)).heap[wr.heap.size]? = some _ from heap_alloc_new wr _)) (Ch.size (S := fun _ => False) (And.left (by assumption))) hl64.out ?_; intro v1 w1 hq hg hat; have hC1 : Ch (fun _ => False) w w1 := Ch.grown (And.left (by assumption)) hg (fun k hk => .inr (q_typed HO.out k hk).1); rw [HLN.out] at hq; obtain ⟨A1, k1, rfl, hk1⟩ := q_slice hq; have HQ := Lib.hid hq; clear hg hq hat))
    go_wp2_with fail
    go_roundw
    case rel =>
     refine ⟨k + 1, by omega, by go_num, ?_, by assumption⟩
     rw [hsuc.out, HLN.out]
     exact HQ.out
    case measure => simp [intOf]; omega
    --R1]
   ·--[R2
    obtain ⟨ad, rfl, hcs⟩ := (q_reads hown).2.2 (by omega)
    have hsuc := Lib.hid (wAll_hi l k (by omega))
    have hws := wAll_w l hl L64.out k
    have hwn := wNext_eq (wAll l k) k hln
    generalize wNext (wAll l k) = bw at *
    generalize wAll l k = ys at *
    have W15 := nt_w hws (k - 15)
    have W2 := nt_w hws (k - 2)
    have W16 := nt_w hws (k - 16)
    have W7 := nt_w hws (k - 7)
    have c15 := hcs (k - 15) (by omega)
    have c2 := hcs (k - 2) (by omega)
    change wr.cell? _ = some (.int .u32 (nt ys (k - 15))) at c15
    change wr.cell? _ = some (.int .u32 (nt ys (k - 2))) at c2
    have HBW := Lib.hid hB
    have HMK : Hid (∀ w', Ch (fun _ => False) w w' → QRow w' w.heap.size 72 1 (.slice (some ad) k c) ys.length (nums .u32 ys) → Ch (fun _ => False) w w' ∧ QRow w' w.heap.size 72 1 (.slice (some ad) k c) ys.length (nums .u32 ys) ∧ w'.cell? (ad.add (k - 16)) = some (.int .u32 (nt ys (k - 16))) ∧ w'.cell? (ad.add (k - 7)) = some (.int .u32 (nt ys (k - 7)))) := fun w' hC hq =>
     ⟨hC, hq, q_at hq hln (by omega), q_at hq hln (by omega)⟩
    generalize nt ys (k - 15) = x15 at *
    generalize nt ys (k - 2) = x2 at *
    generalize nt ys (k - 16) = x16 at *
    generalize nt ys (k - 7) = x7 at *
    have HWN := Lib.hid hwn
    obtain ⟨a0, a1⟩ := W15
    obtain ⟨b0, b1⟩ := W2
    obtain ⟨d0, d1⟩ := W16
    obtain ⟨e0, e1⟩ := W7
    have f7 : (7 : Int) ≤ k := by omega
    have f2 : (2 : Int) ≤ k := by omega
    have f15 : (15 : Int) ≤ k := by omega
    have f16 : (16 : Int) ≤ k := by omega
    have i0 : IntKind.i64.wrap ((k : Int) - 15) = (k : Int) - 15 := IntWalk.i64_in _ (by omega)
    have i1 : 0 ≤ (k : Int) - 15 := by omega
    have i2 : (k : Int) - 15 < k := by omega
    have i3 : ((k : Int) - 15).toNat = k - 15 := by omega
    have j0 : IntKind.i64.wrap ((k : Int) - 2) = (k : Int) - 2 := IntWalk.i64_in _ (by omega)
    have j1 : 0 ≤ (k : Int) - 2 := by omega
    have j2 : (k : Int) - 2 < k := by omega
    have j3 : ((k : Int) - 2).toNat = k - 2 := by omega
    have m0 : IntKind.i64.wrap ((k : Int) - 16) = (k : Int) - 16 := IntWalk.i64_in _ (by omega)
    have m1 : 0 ≤ (k : Int) - 16 := by omega
    have m2 : (k : Int) - 16 < k := by omega
    have m3 : ((k : Int) - 16).toNat = k - 16 := by omega
    have n0 : IntKind.i64.wrap ((k : Int) - 7) = (k : Int) - 7 := IntWalk.i64_in _ (by omega)
    have n1 : 0 ≤ (k : Int) - 7 := by omega
    have n2 : (k : Int) - 7 < k := by omega
    have n3 : ((k : Int) - 7).toNat = k - 7 := by omega
    clear hown hB hln hws hwn hcs
    have HX := Lib.hid (show W32 x15 from ⟨a0, a1⟩)
    have HY := Lib.hid (show W32 x2 from ⟨b0, b1⟩)
    go_wp2
    clear c15 c2
    go_region_held3 (fun w' => Ch (fun _ => False) w w' ∧ QRow w' w.heap.size 72 1 (.slice (some ad) k c) ys.length (nums .u32 ys) ∧ w'.cell? (ad.add (k - 16)) = some (.int .u32 x16) ∧ w'.cell? (ad.add (k - 7)) = some (.int .u32 x7))
     ((refine HMK.out _ ?_ ?_; ((repeat (first | (with_reducible refine Ch.drew ?_) | (with_reducible refine Ch.alloc ?_ _))); first | (with_reducible exact HBW.out) | (with_reducible exact And.left (by assumption)) | (with_reducible exact hC1)); ((repeat (first | (with_reducible refine q_drew ?_) | (with_reducible refine q_alloc ?_ _))); first | (with_reducible exact HO.out) | (with_reducible exact And.left (And.right (by assumption))) | (with_reducible exact hold))))
     ((first | (go_at_call 61; refine (rturn_lit _ _ _ (by omega) (by omega) (by first | exact HX.out | exact HY.out)).mono ?_; rintro e w' ⟨rfl, rfl⟩) | (refine step_append_q2 w.heap.size (by rfl) _ _ 50 72 .u32 4 (by rfl) Tryd.underlying50 info_u32 (by decide) (.slice (some ad) k c) ys [_] (some ⟨wr.heap.size, 0, none⟩) 1 1 (by rfl) (by rfl) (And.left (And.right (by assumption))) (one_reads (show (World.drew (World.alloc wr _)).heap[wr.heap.size]? = some _ from heap_alloc_new wr _)) (Ch.size (S := fun _ => False) (And.left (by assumption))) hl64.out ?_; intro v1 w1 hq hg hat hold; have hC1 : Ch (fun _ => False) w w1 := Ch.grown (And.left (by assumption)) hg (fun k hk => .inr (q_typed HO.out k hk).1); rw [HLN.out] at hq; obtain ⟨A1, k1, rfl, hk1⟩ := q_slice hq; have HQ := Lib.hid hq; clear hg hq hat)))
    all_goals (
     go_wp2_with fail
     go_roundw
     case rel =>
      refine ⟨k + 1, by omega, by go_num, ?_, hC1⟩
      rw [hsuc.out, HLN.out]
      refine Eq.mp ?_ HQ.out
      rw [HWN.out]
      congr 5
      simp only [IntKind.wrap_u32, sg0, sg1, xr]
      omega
     case measure => simp [intOf]; omega)
    --R2]
  ·--[R3
   obtain rfl : k = 64 := by omega
   have hln := wAll_length l 64
   have hW : wAll l 64 = words l := rfl
   have hww := wAll_w l hl L64.out 64
   rw [hln] at hown
   obtain ⟨A, c, rfl, hkc⟩ := q_slice hown
   obtain ⟨aw, rfl, hcs⟩ := (q_reads hown).2.2 (by omega)
   rw [hW] at hcs hww
   have HWC := Lib.hid hcs
   have HWW := Lib.hid hww
   have HBW := Lib.hid hB
   have HBLK : Hid (blk ks hs l = addAll hs (rounds ks (words l) 64 hs)) := Lib.hid rfl
   have HWS := Lib.hid hw
   generalize words l = ws at *
   have d0 := hB.cell (HH.out 0 (by omega)) (fun h => h)
   have d1 := hB.cell (HH.out 1 (by omega)) (fun h => h)
   have d2 := hB.cell (HH.out 2 (by omega)) (fun h => h)
   have d3 := hB.cell (HH.out 3 (by omega)) (fun h => h)
   have d4 := hB.cell (HH.out 4 (by omega)) (fun h => h)
   have d5 := hB.cell (HH.out 5 (by omega)) (fun h => h)
   have d6 := hB.cell (HH.out 6 (by omega)) (fun h => h)
   have d7 := hB.cell (HH.out 7 (by omega)) (fun h => h)
   obtain ⟨a, b, c', d, e, f, g, i, rfl⟩ := list8 L8.out
   change wr.cell? ah = some (.int .u32 a) at d0
   change wr.cell? ⟨ah.block, ah.off + 1, none⟩ = some (.int .u32 b) at d1
   change wr.cell? ⟨ah.block, ah.off + 2, none⟩ = some (.int .u32 c') at d2
   change wr.cell? ⟨ah.block, ah.off + 3, none⟩ = some (.int .u32 d) at d3
   change wr.cell? ⟨ah.block, ah.off + 4, none⟩ = some (.int .u32 e) at d4
   change wr.cell? ⟨ah.block, ah.off + 5, none⟩ = some (.int .u32 f) at d5
   change wr.cell? ⟨ah.block, ah.off + 6, none⟩ = some (.int .u32 g) at d6
   change wr.cell? ⟨ah.block, ah.off + 7, none⟩ = some (.int .u32 i) at d7
   clear hlt hk hown hB hln hW hww hcs hw
   go_wp2
   go_quiet (fail)
   go_wp2
   go_quiet (fail)
   go_wp2
   obtain ⟨w5, rfl⟩ : ∃ w5 : World, w5 = wr := ⟨_, rfl⟩
   go_loopw [11, 12, 13, 14, 15, 16, 17, 18, 19, 20, 21] (fun t11 t12 t13 t14 t15 t16 t17 t18 t19 _ _ w2 => ∃ (k : Nat) (v0 v1 v2 v3 v4 v5 v6 v7 : Int), k ≤ 64 ∧ t19 = .int .i64 k ∧ t11 = .int .u32 v0 ∧ t12 = .int .u32 v1 ∧ t13 = .int .u32 v2 ∧ t14 = .int .u32 v3 ∧ t15 = .int .u32 v4 ∧ t16 = .int .u32 v5 ∧ t17 = .int .u32 v6 ∧ t18 = .int .u32 v7 ∧ rounds ks ws k [a, b, c', d, e, f, g, i] = [v0, v1, v2, v3, v4, v5, v6, v7] ∧ Ch (fun _ => False) w5 w2) (fun _ _ _ _ _ _ _ _ k _ _ _ => (64 - intOf k).toNat)
   case atStart => exact ⟨0, a, b, c', d, e, f, g, i, by omega, rfl, rfl, rfl, rfl, rfl, rfl, rfl, rfl, rfl, rfl, by first | exact Ch.refl _ _ | exact Ch.drewN (Ch.refl _ _) _ | exact Ch.drewN (Ch.drewN (Ch.refl _ _) _) _⟩
   case round =>
    obtain ⟨k, v0, v1, v2, v3, v4, v5, v6, v7, hk, rfl, rfl, rfl, rfl, rfl, rfl, rfl, rfl, rfl, hR, hC⟩ := hrel
    by_cases hlt : k < 64
    ·--[R4
     have ck := (HBW.out.trans hC).cell (HK.out k hlt) (fun h => h)
     have cw := hC.cell (HWC.out k hlt) (fun h => h)
     obtain ⟨k0, k1⟩ := nt_w hkw k
     obtain ⟨m0, m1⟩ := nt_w HWW.out k
     have hws := rounds_w ks ws [a, b, c', d, e, f, g, i] rfl HWS.out k
     have hS : rounds ks ws (k + 1) [a, b, c', d, e, f, g, i] = rnd (nt ks k) (nt ws k) [v0, v1, v2, v3, v4, v5, v6, v7] := by rw [← hR]; rfl
     rw [hR] at hws
     change wr.cell? _ = some (.int .u32 (nt ks k)) at ck
     change wr.cell? _ = some (.int .u32 (nt ws k)) at cw
     have HS := Lib.hid hS
     have HC := Lib.hid hC
     have WA : Hid (W32 v0) := hws v0 (by simp)
     have WE : Hid (W32 v4) := hws v4 (by simp)
     have W1 : Hid (W32 v1) := hws v1 (by simp)
     have W2 : Hid (W32 v2) := hws v2 (by simp)
     have W3 : Hid (W32 v3) := hws v3 (by simp)
     have W5 : Hid (W32 v5) := hws v5 (by simp)
     have W6 : Hid (W32 v6) := hws v6 (by simp)
     have W7 : Hid (W32 v7) := hws v7 (by simp)
     clear hR hC hws hS d0 d1 d2 d3 d4 d5 d6 d7
     generalize nt ks k = kk at *
     generalize nt ws k = ww at *
     go_wp2
     go_quiet ((go_at_call 61; refine Calls.quiet_of ((rturn_lit _ _ _ (by omega) (by omega) (by first | exact WE.out | exact WA.out)).mono (fun _ _ h => ⟨h.1, 0, h.2⟩))))
     go_wp2_with (go_at_call 61; refine (rturn_lit _ _ _ (by omega) (by omega) (by first | exact WE.out | exact WA.out)).mono ?_; rintro e w' ⟨rfl, rfl⟩)
     refine ⟨⟨_, _, _, _, _, _, _, _, _, ⟨k + 1, by omega, rfl, _, rfl, _, rfl, _, rfl, _, rfl, _, rfl, _, rfl, _, rfl, _, rfl, ?_, HC.out.drewN _⟩, rfl, rfl, rfl, rfl, rfl, rfl, rfl, rfl, rfl⟩, by simp [intOf]; omega⟩
     rw [HS.out]
     simp only [rnd]
     rw [one_eq, two_eq]
     rfl
     --R4]
    ·--[R5
     obtain rfl : k = 64 := by omega
     have HB2 : Hid (blk ks [a, b, c', d, e, f, g, i] l = [ad a v0, ad b v1, ad c' v2, ad d v3, ad e v4, ad f v5, ad g v6, ad i v7]) := by rw [HBLK.out, hR]; exact Lib.hid rfl
     have d0 := hC.cell d0 (fun h => h)
     have d1 := hC.cell d1 (fun h => h)
     have d2 := hC.cell d2 (fun h => h)
     have d3 := hC.cell d3 (fun h => h)
     have d4 := hC.cell d4 (fun h => h)
     have d5 := hC.cell d5 (fun h => h)
     have d6 := hC.cell d6 (fun h => h)
     have d7 := hC.cell d7 (fun h => h)
     have HC := Lib.hid (HBW.out.trans hC)
     clear hR hC hlt hk HBLK
     have HSZ := Lib.hid HC.out.size
     go_wp2
     refine wp_region_quiet_tail 40 (by kernel_rfl) (by kernel_rfl) ?_
     simp only [List.take_succ_cons, List.take_zero, List.drop_succ_cons, List.drop_zero]
     repeat (go_big_quiet_step (fail))
     refine wpQuiet_nil ?_
     intro wq hw'
     have HCq : Hid (Ch (fun _ => False) w wq) := by obtain ⟨nd, hw''⟩ := hw'; rw [hw'']; exact HC.out.drewN _
     clear hw' HC
     go_wp2
     go_ret
     refine ⟨_, rfl, ?_, (HCq.out.alloc _).below⟩
     rw [HB2.out]
     exact own_lit wq w.heap.size 72 .u32 [ad a v0, ad b v1, ad c' v2, ad d v3, ad e v4, ad f v5, ad g v6, ad i v7] HCq.out.size (by simp)
     --R5]
   --R3]
end Go.Proofs.YtejhjlfakfaegaaDoor
set_option linter.unusedSimpArgs false
set_option linter.unusedVariables false
namespace Go.Proofs.YtejhjlfakfaegaaDoor
open Go.RowKit Go.Proofs.YtejhjlfakfaegaaDoorW.PrintWords

/-- behind the first i blocks -/
def hAt (ks m : List Int) : Nat → List Int
 | 0 => h0s
 | i + 1 => blk ks (hAt ks m i) ((m.drop (64 * i)).take 64)
theorem hAt_length (ks m : List Int) : ∀ i, (hAt ks m i).length = 8
 | 0 => rfl
 | i + 1 => blk_length _ _ _
theorem hAt_w (ks m : List Int) : ∀ i, ∀ x ∈ hAt ks m i, W32 x
 | 0 => h0s_w
 | i + 1 => blk_w _ _ _
theorem hAt_absorb (ks m : List Int) : ∀ (n i : Nat), 64 * i ≤ m.length → m.length < 64 * (i + n + 1) → (absorb ks n (hAt ks m i) (m.drop (64 * i))).1 = hAt ks m (m.length / 64)
 | 0, i, h0, h1 => by
  rw [show m.length / 64 = i by omega]
  rfl
 | n + 1, i, h0, h1 => by
  unfold absorb
  by_cases h : 64 ≤ (m.drop (64 * i)).length
  ·rw [if_pos h, List.drop_drop]
   rw [List.length_drop] at h
   exact hAt_absorb ks m n (i + 1) (by omega) (by omega)
  ·rw [if_neg h]
   rw [List.length_drop] at h
   rw [show m.length / 64 = i by omega]
theorem padded_length (m : List Int) : (padded m).length = 64 * ((padded m).length / 64) := by
 have : (padded m).length = m.length + 1 + ((119 - m.length % 64) % 64 + 8) := by simp [padded, putBytes_length]; omega
 omega
theorem sha_hAt (m : List Int) : sha m = out32 (hAt kst (padded m) ((padded m).length / 64)) := by
 unfold sha
 have := hAt_absorb kst (padded m) (m.length + 64) 0 (by omega) (by simp [padded, putBytes_length]; omega)
 rw [← this]
 rfl
theorem pad_stop (n j : Nat) (h : j ≤ (119 - n % 64) % 64) : ((n + 1 + j) % 64 = 56) ↔ j = (119 - n % 64) % 64 := by omega
theorem put_take (N : Int) (p : Nat) (h : p < 8) : (putBytes N).take (8 - p) = (putBytes N).take (8 - (p + 1)) ++ [N / 2 ^ (8 * p) % 256] := by
 rcases p with _|_|_|_|_|_|_|_|p
 all_goals first | omega | rfl
theorem padded_bs (b : List Int) (h : Bs b) : Bs (padded b) := by
 intro x hx
 simp only [padded, List.mem_append, List.mem_cons, List.mem_replicate] at hx
 rcases hx with h1 | rfl | ⟨_, rfl⟩ | h1
 ·exact h x h1
 ·omega
 ·omega
 ·exact putBytes_bs _ x h1
theorem four_reads {W : World} {g : Nat} {k : IntKind} {x y z u : Int} {T : TypeId} (h : W.heap[g]? = some (.cells #[.int k x, .int k y, .int k z, .int k u] T (0, 0))) : ReadsInt W k (some ⟨g, 0, none⟩) 4 [x, y, z, u] := by
 refine ⟨rfl, by omega, fun _ => ⟨_, rfl, fun j hj => ?_⟩⟩
 rw [add_plain, blk_cell h]
 match j, hj with
 | 0, _ => rfl
 | 1, _ => rfl
 | 2, _ => rfl
 | 3, _ => rfl
theorem put_low (x : Int) : (putBytes x).drop 4 = [x / 16777216 % 256, x / 65536 % 256, x / 256 % 256, x % 256] := by
 simp [putBytes, putAt, List.range_succ]
def lenV : Value → Nat
 | .slice _ n _ => n
 | _ => 0
set_option maxHeartbeats 4000000 in
set_option maxRecDepth 100000 in
theorem rdigest_any (Ak Ab : Option Addr) (ck cb n : Nat) (ks b : List Int) (w : World)
  (hk : ReadsInt w .u32 Ak 64 ks) (hb : ReadsInt w .u8 Ab n b) (hn : n < 1000000) (hkw : ∀ x ∈ ks, W32 x) (hl : Bs b) :
  Calls Tryd.prog 43 #[.slice Ak 64 ck, .slice Ab n cb] w fun e w' =>
   ∃ v, e = .returned v ∧ QRow w' w.heap.size 5 1 v 32 (nums .u8 (out32 (hAt ks (padded b) ((padded b).length / 64)))) ∧ Below w.heap.size w w' := by
 have HK := Lib.hid hk
 have HL := Lib.hid hb.1
 have hbk : ∀ a, Ab = some a → 0 < n → a.block < w.heap.size := by
  intro a ha hpos
  obtain ⟨a', ha', hcc⟩ := hb.2.2 hpos
  rw [ha] at ha'
  injection ha' with ha'
  subst ha'
  have := World.block_lt_of_cell? w _ (hcc 0 hpos)
  simpa [Addr.add] using this
 have HB := Lib.hid (((Ch.refl (fun _ => False) w).alloc (.cells #[] 5)).reads' hb (fun _ _ _ h => h))
 clear hk hb hbk
 have z0 : Hid ((([] : List Int).length + n) * 1 ≤ 140737488355328) := Lib.hid (by simp; omega)
 have z1 : Hid ((b.length + 1) * 1 ≤ 140737488355328) := Lib.hid (by rw [HL.out]; omega)
 have z2 : Hid (([] ++ b).length = n) := Lib.hid (by simp [HL.out])
 have z3 : Hid ((b ++ [128]).length = n + 1) := Lib.hid (by simp [HL.out])
 have hmade : QRow (w.alloc (.cells #[] 5)) w.heap.size 5 1 (.slice (some ⟨w.heap.size, 0, none⟩) 0 0) ([] : List Int).length (nums .u8 []) := q_of_own (World.ownsRow_made w _ 0 (Nat.le_refl _) (by unfold maxLen; omega) rfl)
 have HMADE := Lib.hid hmade
 clear hmade
 go_enter Tryd.func43, Tryd.ntmps43
 go_wp2_with (first
  | (refine wpList_append_q w.heap.size rfl _ _ 23 5 .u8 1 rfl Tryd.underlying23 info_u8 (by decide) (.slice (some ⟨w.heap.size, 0, none⟩) 0 0) [] b Ab n cb rfl rfl HMADE.out HB.out (by simp) z0.out ?_; intro v1 w1 hq hg hat; have hC1 : Hid (Ch (fun _ => False) w w1) := Lib.hid (Ch.grown ((Ch.refl _ _).alloc _) hg (fun k hk => .inr (q_typed HMADE.out k hk).1)); rw [z2.out, List.nil_append] at hq; obtain ⟨A1, k1, rfl, hk1⟩ := q_slice hq; have HQ := Lib.hid hq; clear hg hq hat)
  | (refine wpList_append_q w.heap.size rfl _ _ 23 5 .u8 1 rfl Tryd.underlying23 info_u8 (by decide) (.slice A1 n k1) b [128] (some ⟨w1.heap.size, 0, none⟩) 1 1 rfl rfl (by rw [HL.out]; exact q_alloc HQ.out _) (one_reads (heap_alloc_new w1 _)) (Ch.size (hC1.out.alloc _)) z1.out ?_; intro v2 w2 hq2 hg2 hat2; have hC2 : Hid (Ch (fun _ => False) w w2) := Lib.hid (Ch.grown (hC1.out.alloc _) hg2 (fun k hk => .inr (q_typed HQ.out k hk).1)); rw [z3.out] at hq2; obtain ⟨A2, k2, rfl, hk2⟩ := q_slice hq2; have HQ2 := Lib.hid hq2; clear hg2 hq2 hat2))
 go_loopw [5] (fun m wr => ∃ (j L : Nat) (A : Option Addr) (c : Nat), j ≤ (119 - n % 64) % 64 ∧ L = n + 1 + j ∧ m = .slice A L c ∧ QRow wr w.heap.size 5 1 m (b ++ 128 :: List.replicate j 0).length (nums .u8 (b ++ 128 :: List.replicate j 0)) ∧ Ch (fun _ => False) w wr) (fun m _ => n + 1 + 64 - lenV m)
 case atStart => exact ⟨0, n + 1, A2, k2, by omega, rfl, rfl, by rw [show b ++ 128 :: List.replicate 0 0 = b ++ [128] from rfl, z3.out]; exact HQ2.out, hC2.out⟩
 case round =>
  clear HQ2 hC2 HQ hC1 z0 z1 z2 HMADE
  obtain ⟨j, L, A, c, hj, hL, rfl, hq, hC⟩ := hrel
  have hst := pad_stop n j hj
  rw [← hL] at hst
  have HLL := Lib.hid hL
  by_cases hlt : j = (119 - n % 64) % 64
  ·--[D2
   have hb1 : (((L : Int) % 64) != 56) = false := by have := hst.2 hlt; simp; omega
   have HPM : Hid (padded b = b ++ 128 :: List.replicate j 0 ++ putBytes (8 * n)) := Lib.hid (by unfold padded; rw [HL.out, ← hlt]; simp)
   have HQ := Lib.hid hq
   have HC := Lib.hid hC
   have HPL : Hid ((b ++ 128 :: List.replicate j 0).length = L) := Lib.hid (by simp [HL.out]; omega)
   clear hq hC hst hL
   generalize b ++ 128 :: List.replicate j 0 = ys at *
   go_wp2
   generalize hN : (n : Int) * 8 = N
   have hN8 : (8 * (n : Int)) = N := by omega
   rw [hN8] at HPM
   have n0 : 0 ≤ N := by omega
   have n1 : N < 8000000 := by omega
   obtain ⟨w5, rfl⟩ : ∃ w5 : World, w5 = wr := ⟨_, rfl⟩
   go_loopw [5, 7] (fun m i wr => ∃ (q S : Nat) (A : Option Addr) (c : Nat), q ≤ 8 ∧ i = .int .i64 ((q : Int) - 1) ∧ m = .slice A S c ∧ S = (ys ++ (putBytes N).take (8 - q)).length ∧ QRow wr w.heap.size 5 1 m (ys ++ (putBytes N).take (8 - q)).length (nums .u8 (ys ++ (putBytes N).take (8 - q))) ∧ Ch (fun _ => False) w wr) (fun _ i _ => (intOf i + 1).toNat)
   case atStart => exact ⟨8, L, A, c, by omega, rfl, rfl, by simp [HPL.out], by simpa using HQ.out, HC.out⟩
   case round =>
    obtain ⟨q, S, A3, c3, hq8, rfl, rfl, hS, hq, hC⟩ := hrel
    have HQ3 := Lib.hid hq
    have HC3 := Lib.hid hC
    have HS3 := Lib.hid hS
    have hlen8 : (ys ++ (putBytes N).take (8 - q)).length = L + (8 - q) := by simp [HPL.out, putBytes_length]
    have HL8 := Lib.hid hlen8
    clear hq hC hlen8 hS
    rcases q with _ | p
    ·--[D4
     rw [show (((0 : Nat) : Int) - 1) = -1 from rfl]
     have hS0 : S ≤ 9223372036854775 := by have h1 := HS3.out; have h2 := HL8.out; have := HLL.out; omega
     have hM : ys ++ (putBytes N).take (8 - 0) = padded b := by rw [HPM.out, List.take_of_length_le (by rw [putBytes_length]; omega)]
     rw [hM] at HS3 HQ3
     have hT := padded_length b
     have HMB : Hid (Bs (padded b)) := Lib.hid (padded_bs b hl)
     generalize hMM : padded b = M at *
     have HMM := Lib.hid hMM
     obtain ⟨t, ht⟩ : ∃ t, M.length / 64 = t := ⟨_, rfl⟩
     have HT := Lib.hid ht
     have hST : S = 64 * t := by rw [HS3.out, ← ht]; exact hT
     have HST := Lib.hid hST
     clear HPM HPL HLL hM HL8 n0 n1 hN hN8 ht hb1 hlt HQ HC z3 hT hMM
     go_wp2
     obtain ⟨w7, rfl⟩ : ∃ w7 : World, w7 = wr := ⟨_, rfl⟩
     obtain ⟨w6, hw6⟩ : ∃ w6 : World, w6 = w7.alloc (.cells (nums .u32 h0s).toArray 72) := ⟨_, rfl⟩
     have HQh : Hid (QRow w6 w.heap.size 72 1 (.slice (some ⟨w7.heap.size, 0, none⟩) 8 8) 8 (nums .u32 h0s)) := by rw [hw6]; exact q_of_own (own_lit w7 w.heap.size 72 .u32 h0s HC3.out.size (by simp [h0s]))
     have HQM : Hid (QRow w6 w.heap.size 5 1 (.slice A3 S c3) S (nums .u8 M)) := by rw [hw6, HS3.out]; have := HQ3.out; rw [HS3.out] at this; exact q_alloc this _
     have HC6 : Hid (Ch (fun _ => False) w w6) := by rw [hw6]; exact HC3.out.alloc _
     have HW6 := Lib.hid hw6
     clear hw6 HQ3 HC3
     go_loopw [8, 9] (fun h i wr => ∃ k : Nat, k ≤ t ∧ i = .int .i64 ((64 * k : Nat) : Int) ∧ QRow wr w.heap.size 72 1 h 8 (nums .u32 (hAt ks M k)) ∧ Ch (fun _ => False) w6 wr) (fun _ i _ => (S - intOf i).toNat)
     case atStart => exact ⟨0, by omega, rfl, by have := HQh.out; rw [HW6.out] at this; exact this, by rw [HW6.out]; exact Ch.refl _ _⟩
     case round =>
      obtain ⟨k, hk, rfl, hqh, hC⟩ := hrel
      by_cases hlt : k < t
      ·--[D5
       have hqm : QRow wr w.heap.size 5 1 (.slice A3 S c3) S (nums .u8 M) := q_move HQM.out fun j hj => hC.block j (q_lt HQM.out j hj) id
       obtain ⟨A8, c8, rfl, _⟩ := q_slice hqh
       obtain ⟨am, rfl, _⟩ := (q_reads hqm).2.2 (by have := HST.out; omega)
       have hqc := (q_slice HQM.out)
       have hrm := reads_sub (q_reads hqm) (64 * k) 64 (by have := HST.out; omega)
       have hrh := q_reads hqh
       have hrk := (HC6.out.trans hC).reads' HK.out (fun _ _ _ h => h)
       have hcon := rblock_any A8 (some (am.add (64 * k))) Ak c8 (c3 - 64 * k) ck (hAt ks M k) ((M.drop (64 * k)).take 64) ks wr hrh hrm hrk (hAt_w ks M k) (HMB.out.sub _ _) hkw
       have hsc : S ≤ c3 := by
        obtain ⟨_, _, e, h⟩ := hqc
        injection e with e1 e2 e3
        omega
       have HCON : Hid (Calls Tryd.prog 53 #[.slice A8 8 c8, .slice (some (am.add (64 * k))) 64 (c3 - 64 * k), .slice Ak 64 ck] wr fun e w' => ∃ v, e = .returned v ∧ w'.ownsRow wr.heap.size 72 1 v 8 (nums .u32 (hAt ks M (k + 1))) ∧ Below wr.heap.size wr w') := hcon
       have HCk := Lib.hid hC
       have hks : 64 * k + 64 ≤ S := by have := HST.out; omega
       clear hcon hrk hrh hrm hqc hqm hqh hC hST
       generalize hF : 64 * k = F at *
       have HF := Lib.hid hF
       clear hF
       have i0 : IntKind.i64.wrap ((F : Int) + 64) = (F : Int) + 64 := IntWalk.i64_in _ (by omega)
       have i1 : (F : Int) < S := by omega
       have i2 : (F : Int) + 64 ≤ S := by omega
       have i3 : (F : Int) + 64 ≤ c3 := by omega
       have i4 : ((F : Int) + 64).toNat = F + 64 := by omega
       have i5 : 0 ≤ (F : Int) + 64 := by omega
       have i6 : (F : Int) ≤ (F : Int) + 64 := by omega
       have i7 : F + 64 - F = 64 := by omega
       have i8 : ¬ c3 = F := by omega
       have i9 : ¬ c3 - F = 0 := by omega
       go_wp2_with (go_at_call 53; refine (HCON.out).mono ?_; rintro e w3 ⟨v, rfl, ho, hb⟩; obtain ⟨A9, c9, rfl⟩ := own_slice ho; have HO := Lib.hid ho; have HB3 := Lib.hid hb; clear ho hb)
       go_roundw
       case rel => exact ⟨k + 1, by omega, by have := HF.out; go_num, q_lower (q_of_own HO.out) (Nat.le_trans HC6.out.size HCk.out.size), HCk.out.trans (Ch.of_below HB3.out)⟩
       case measure => simp [intOf]; omega
       --D5]
      ·--[D6
       obtain rfl : k = t := by omega
       obtain ⟨w8, rfl⟩ : ∃ w8 : World, w8 = wr := ⟨_, rfl⟩
       have HMM2 : Hid (hAt ks (padded b) ((padded b).length / 64) = hAt ks M k) := by rw [HMM.out, HT.out]; exact Lib.hid rfl
       have HC8 := Lib.hid (HC6.out.trans hC)
       have h8 := hAt_length ks M k
       have hw8 := hAt_w ks M k
       generalize hAt ks M k = hh at *
       have HQH := Lib.hid hqh
       have H8 := Lib.hid h8
       obtain ⟨A8, c8, rfl, _⟩ := q_slice hqh
       obtain ⟨ah, rfl, _⟩ := (q_reads hqh).2.2 (by omega)
       have hS1 : ((64 * k : Nat) : Int) = (S : Int) := by omega
       rw [hS1]
       clear hqh h8 hC hlt hk hS1 hST HMM HT HW6 HQM HC6 HQh
       go_wp2
       go_loopw [10, 11] (fun o i wr => ∃ (k : Nat) (A : Option Addr) (c : Nat), k ≤ 8 ∧ i = .int .i64 k ∧ o = .slice A (4 * k) c ∧ QRow wr w8.heap.size 5 1 o (outTo hh k).length (nums .u8 (outTo hh k)) ∧ Ch (fun _ => False) w8 wr) (fun _ i _ => (8 - intOf i).toNat)
       case atStart => exact ⟨0, some ⟨w8.heap.size, 0, none⟩, 0, by omega, rfl, rfl, q_of_own (World.ownsRow_made w8 _ 0 (Nat.le_refl _) (by unfold maxLen; omega) rfl), (Ch.refl _ _).alloc _⟩
       case round =>
        obtain ⟨k, A, c, hk, rfl, rfl, hq, hC⟩ := hrel
        by_cases hlt : k < 8
        ·--[D7
         have hcell : w8.cell? (ah.add k) = some (.int .u32 (nt hh k)) := q_at HQH.out rfl hlt
         obtain ⟨x0, x1⟩ := nt_w hw8 k
         have hsuc := Lib.hid (outTo_succ hh k)
         have HLO := Lib.hid (outTo_length hh (k + 1))
         have HZ := Lib.hid (outTo_length hh k)
         have z4 : Hid (((outTo hh k).length + 4) * 1 ≤ 140737488355328) := Lib.hid (by rw [outTo_length]; omega)
         have HQk := Lib.hid hq
         have HCk := Lib.hid hC
         have HMK : Hid (∀ w', Ch (fun _ => False) w8 w' → Ch (fun _ => False) w8 w' ∧ w'.cell? (ah.add k) = some (.int .u32 (nt hh k))) := Lib.hid fun w' hC => ⟨hC, hC.cell hcell (fun h => h)⟩
         clear hq hC hcell
         generalize nt hh k = x at *
         generalize outTo hh k = zs at *
         generalize hzt : outTo hh (k + 1) = zt at *
         have HZT := Lib.hid hzt
         clear hzt
         go_wp2
         go_region_held3 (fun w' => Ch (fun _ => False) w8 w' ∧ w'.cell? (ah.add k) = some (.int .u32 x))
          ((refine HMK.out _ ?_; (repeat (first | (with_reducible refine Ch.drew ?_) | (with_reducible refine Ch.alloc ?_ _))); first | (with_reducible exact HCk.out) | (with_reducible exact And.left (by assumption)) | (with_reducible exact hC1)))
          ((refine step_append_q w8.heap.size (by rfl) _ _ 23 5 .u8 1 (by rfl) Tryd.underlying23 info_u8 (by decide) (.slice A (4 * k) c) zs [_, _, _, _] (some ⟨wr.heap.size, 0, none⟩) 4 4 (by rfl) (by rfl) (q_move HQk.out fun k hk => heap_alloc_old wr _ (q_lt HQk.out k hk)) (four_reads (show (World.drew (World.alloc wr _)).heap[wr.heap.size]? = some _ from heap_alloc_new wr _)) (Ch.size (S := fun _ => False) (And.left (by assumption))) z4.out ?_; intro v1 w1 hq hg hat; have hC1 : Ch (fun _ => False) w8 w1 := Ch.grown (And.left (by assumption)) hg (fun k hk => .inr (q_typed HQk.out k hk).1); obtain ⟨A1, k1, rfl, hk1⟩ := q_slice hq; have HQ := Lib.hid hq; clear hg hq hat))
         go_wp2_with fail
         refine ⟨⟨k + 1, A1, k1, by omega, by go_num, by rw [show zs.length + 4 = 4 * (k + 1) by have := HZ.out; omega], ?_, hC1⟩, by simp [intOf]; omega⟩
         rw [HZT.out, hsuc.out, put_low]
         have := HQ.out
         simp only [IntKind.wrap_u8, List.length_append, List.length_cons, List.length_nil] at this ⊢
         exact this
         --D7]
        ·--[D8
         obtain rfl : k = 8 := by omega
         have HQ := Lib.hid hq
         have HC := Lib.hid hC
         have h32 : Hid (outTo hh 8 = out32 hh) := Lib.hid rfl
         have hln : Hid ((outTo hh 8).length = 32) := Lib.hid (outTo_length hh 8)
         clear hq hC
         go_wp2
         go_ret
         refine ⟨_, rfl, ?_, (HC8.out.trans HC.out).below⟩
         rw [HMM2.out, ← h32.out]
         have := q_lower HQ.out HC8.out.size
         rw [hln.out] at this
         exact this
         --D8]
       --D6]
     --D4]
    ·--[D3
     rw [show (((p + 1 : Nat) : Int) - 1) = (p : Int) by omega]
     have i0 : IntKind.i64.wrap (8 * (p : Int)) = 8 * (p : Int) := IntWalk.i64_in _ (by omega)
     have i1 : IntKind.u64.wrap (8 * (p : Int)) = 8 * (p : Int) := by rw [IntKind.wrap_u64]; omega
     have i2 : (8 * (p : Int)).toNat = 8 * p := by omega
     have i3 : IntKind.u8.wrap (N / 2 ^ (8 * p)) = N / 2 ^ (8 * p) % 256 := IntKind.wrap_u8 _
     have i4 : 0 ≤ 8 * (p : Int) := by omega
     have i5 : 8 * (p : Int) < 64 := by omega
     have hdn := put_take N p (by omega)
     have z4 : Hid (((ys ++ (putBytes N).take (8 - (p + 1))).length + 1) * 1 ≤ 140737488355328) := Lib.hid (by have := HL8.out; have := HLL.out; omega)
     have z5 : Hid ((ys ++ (putBytes N).take (8 - (p + 1))) ++ [N / 2 ^ (8 * p) % 256] = ys ++ (putBytes N).take (8 - p)) := Lib.hid (by rw [hdn, List.append_assoc])
     have z6 : Hid ((ys ++ (putBytes N).take (8 - p)).length = S + 1) := Lib.hid (by rw [hdn, ← List.append_assoc, List.length_append, ← HS3.out]; rfl)
     clear hdn
     generalize ys ++ (putBytes N).take (8 - (p + 1)) = zs at *
     generalize hzt : ys ++ (putBytes N).take (8 - p) = zt at *
     go_wp2_with (refine wpList_append_q w.heap.size rfl _ _ 23 5 .u8 1 rfl Tryd.underlying23 info_u8 (by decide) (.slice A3 S c3) zs [N / 2 ^ (8 * p) % 256] (some ⟨wr.heap.size, 0, none⟩) 1 1 rfl rfl (q_alloc HQ3.out _) (one_reads (heap_alloc_new wr _)) (Ch.size (HC3.out.alloc _)) z4.out ?_; intro v4 w4 hq4 hg4 hat4; have hC4 : Hid (Ch (fun _ => False) w w4) := Lib.hid (Ch.grown (HC3.out.alloc _) hg4 (fun k hk => .inr (q_typed HQ3.out k hk).1)); rw [z5.out, z6.out] at hq4; obtain ⟨A4, k4, rfl, hk4⟩ := q_slice hq4; have HQ4 := Lib.hid hq4; clear hg4 hq4 hat4)
     go_roundw
     case rel => exact ⟨p, S + 1, A4, k4, by omega, by go_num, rfl, by rw [hzt, z6.out], by rw [hzt, z6.out]; exact HQ4.out, hC4.out⟩
     case measure => simp [intOf]
     --D3]
   --D2]
  ·--[D1
   have hm : ¬ L % 64 = 56 := fun e => hlt (hst.1 e)
   have HQ := Lib.hid hq
   have HC := Lib.hid hC
   have hlen : (b ++ 128 :: List.replicate j 0).length = L := by simp [HL.out]; omega
   have z4 : Hid (((b ++ 128 :: List.replicate j 0).length + 1) * 1 ≤ 140737488355328) := Lib.hid (by rw [hlen]; omega)
   have z5 : Hid ((b ++ 128 :: List.replicate j 0) ++ [0] = b ++ 128 :: List.replicate (j + 1) 0) := Lib.hid (by simp [List.replicate_succ'])
   have z6 : Hid ((b ++ 128 :: List.replicate (j + 1) 0).length = L + 1) := Lib.hid (by simp [HL.out]; omega)
   clear hq hC hst hlen
   generalize b ++ 128 :: List.replicate j 0 = ys at *
   have hb1 : (((L : Int) % 64) != 56) = true := by simp; omega
   clear hL
   go_wp2_with (refine wpList_append_q w.heap.size rfl _ _ 23 5 .u8 1 rfl Tryd.underlying23 info_u8 (by decide) (.slice A L c) ys [0] (some ⟨wr.heap.size, 0, none⟩) 1 1 rfl rfl (q_alloc HQ.out _) (one_reads (heap_alloc_new wr _)) (Ch.size (HC.out.alloc _)) z4.out ?_; intro v4 w4 hq4 hg4 hat4; have hC4 : Hid (Ch (fun _ => False) w w4) := Lib.hid (Ch.grown (HC.out.alloc _) hg4 (fun k hk => .inr (q_typed HQ.out k hk).1)); rw [z5.out, z6.out] at hq4; obtain ⟨A4, k4, rfl, hk4⟩ := q_slice hq4; have HQ4 := Lib.hid hq4; clear hg4 hq4 hat4)
   go_roundw
   case rel => exact ⟨j + 1, L + 1, A4, k4, by omega, by rw [HLL.out]; omega, rfl, by rw [z6.out]; exact HQ4.out, hC4.out⟩
   case measure => simp only [lenV]; have := HLL.out; omega
   --D1]
end Go.Proofs.YtejhjlfakfaegaaDoor
set_option linter.unusedSimpArgs false
set_option linter.unusedVariables false
namespace Go.Proofs.YtejhjlfakfaegaaDoor
open Go.RowKit Go.Proofs.YtejhjlfakfaegaaDoorW.PrintWords

def W64 (x : Int) : Prop := 0 ≤ x ∧ x < 18446744073709551616
theorem nt_w64 {l : List Int} (h : ∀ x ∈ l, W64 x) (k : Nat) : W64 (nt l k) := by
 by_cases hk : k < l.length
 ·rw [nt_get hk]; exact h _ (List.getElem_mem hk)
 ·simp [nt, List.getD_eq_getElem?_getD, List.getElem?_eq_none (Nat.le_of_not_lt hk), W64]
theorem set_w64 {l : List Int} (h : ∀ x ∈ l, W64 x) (k : Nat) {y : Int} (hy : W64 y) : ∀ x ∈ l.set k y, W64 x := fun x hx => by
 rcases List.mem_or_eq_of_mem_set hx with h1 | rfl
 ·exact h x h1
 ·exact hy
theorem mod_w64 (x : Int) : W64 (x % 18446744073709551616) := by unfold W64; omega
theorem info_u64 : (Tryd.prog.info? 34).map (fun i => (i.zero, i.size, i.bytes)) = some (some (.int .u64 0), 1, 8) := by kernel_rfl
theorem own_here {w : World} {base : Nat} {e : TypeId} {k : IntKind} {g n c : Nat} {xs : List Int} (h : w.ownsRow base e 1 (.slice (some ⟨g, 0, none⟩) n c) n (nums k xs)) (j : Nat) (hj : j < n) : w.cell? ⟨g, j, none⟩ = some (.int k (nt xs j)) ∧ w.frozen? ⟨g, j, none⟩ = false ∧ base ≤ g := by
 obtain ⟨A', c', he, hr⟩ := own_reads h
 injection he with he
 subst he
 obtain ⟨ad, ha, hc⟩ := hr.2.2 (by omega)
 injection ha with ha
 subst ha
 have := hc j hj
 rw [add_plain] at this
 refine ⟨this, ?_⟩
 rcases h.2 with ⟨h', _⟩ | ⟨g', cap', cur, h', hb, hh, _⟩
 ·cases h'
 ·have e : g = g' := by injection h' with h'; injection h' with h'; injection h' with h'
  subst e
  exact ⟨by simp [World.frozen?, hh], hb⟩
theorem at_any (A : Option Addr) (n c k : Nat) (l : List Int) (w : World) (h : ReadsInt w .u64 A n l) (hk : k < 1000) (hn : n < 1000000) :
  Calls Tryd.prog 60 #[.slice A n c, .int .i64 k] w fun e w' => e = .returned (.int .u64 (nt l k)) ∧ w' = w := by
 by_cases hkn : k < n
 ·obtain ⟨ad, rfl, hc⟩ := h.2.2 (by omega)
  have c0 : w.cell? (ad.add k) = some (.int .u64 (nt l k)) := hc k hkn
  have i0 : (k : Int) < n := by omega
  clear h hc
  generalize nt l k = x at *
  go_enter Tryd.func60, Tryd.ntmps60
  go_wp2
  go_ret
  exact ⟨rfl, rfl⟩
 ·have i0 : ¬ (k : Int) < n := by omega
  have hz : nt l k = 0 := by
   have := h.1
   simp [nt, List.getD_eq_getElem?_getD, List.getElem?_eq_none (show l.length ≤ k by omega)]
  rw [hz]
  clear h hz
  go_enter Tryd.func60, Tryd.ntmps60
  go_wp2
  go_ret
  exact ⟨rfl, rfl⟩

def inn (a b : List Int) (i : Nat) : Nat → List Int → List Int
 | 0, o => o
 | j + 1, o => (inn a b i j o).set (i + j) ((nt (inn a b i j o) (i + j) + nt a i * nt b j) % 18446744073709551616)
def outer (a b : List Int) : Nat → List Int → List Int
 | 0, o => o
 | i + 1, o => inn a b i b.length (outer a b i o)
def carry1 (o : List Int) (k : Nat) : List Int := o.set (k + 1) ((nt o (k + 1) + nt o k / 262144) % 18446744073709551616)
def carry : Nat → List Int → List Int
 | 0, o => o
 | k + 1, o => (carry1 (carry k o) k).set k (nt (carry1 (carry k o) k) k % 262144)
def timesM (a b : List Int) : List Int := carry (a.length + b.length - 1) (outer a b a.length (List.replicate (a.length + b.length) 0))
theorem inn_length (a b : List Int) (i : Nat) (o : List Int) : ∀ j, (inn a b i j o).length = o.length
 | 0 => rfl
 | j + 1 => by rw [inn, List.length_set, inn_length a b i o j]
theorem outer_length (a b : List Int) (o : List Int) : ∀ i, (outer a b i o).length = o.length
 | 0 => rfl
 | i + 1 => by rw [outer, inn_length, outer_length a b o i]
theorem inn_w (a b : List Int) (i : Nat) (o : List Int) (h : ∀ x ∈ o, W64 x) : ∀ j, ∀ x ∈ inn a b i j o, W64 x
 | 0 => h
 | j + 1 => set_w64 (inn_w a b i o h j) _ (mod_w64 _)
theorem outer_w (a b : List Int) (o : List Int) (h : ∀ x ∈ o, W64 x) : ∀ i, ∀ x ∈ outer a b i o, W64 x
 | 0 => h
 | i + 1 => inn_w a b i _ (outer_w a b o h i) _
theorem carry1_w (o : List Int) (k : Nat) (h : ∀ x ∈ o, W64 x) : ∀ x ∈ carry1 o k, W64 x := set_w64 h _ (mod_w64 _)
theorem carry_w (o : List Int) (h : ∀ x ∈ o, W64 x) : ∀ k, ∀ x ∈ carry k o, W64 x
 | 0 => h
 | k + 1 => set_w64 (carry1_w _ k (carry_w o h k)) _ (by have := nt_w64 (carry1_w _ k (carry_w o h k)) k; unfold W64 at *; omega)
theorem timesM_w (a b : List Int) : ∀ x ∈ timesM a b, W64 x := carry_w _ (outer_w _ _ _ (fun x hx => by rw [List.eq_of_mem_replicate hx]; unfold W64; omega) _) _
set_option maxHeartbeats 4000000 in
set_option maxRecDepth 100000 in
theorem times_any (Aa Ab : Option Addr) (ca cb na nb : Nat) (a b : List Int) (w : World)
  (ha : ReadsInt w .u64 Aa na a) (hb : ReadsInt w .u64 Ab nb b) (hna : 0 < na) (hnb : 0 < nb) (hsm : na + nb < 100) (haw : ∀ x ∈ a, W64 x) (hbw : ∀ x ∈ b, W64 x) :
  Calls Tryd.prog 59 #[.slice Aa na ca, .slice Ab nb cb] w fun e w' =>
   ∃ v, e = .returned v ∧ w'.ownsRow w.heap.size 34 1 v (na + nb) (nums .u64 (timesM a b)) ∧ Below w.heap.size w w' := by
 obtain ⟨aa, rfl, hca⟩ := ha.2.2 hna
 obtain ⟨ab', rfl, hcb⟩ := hb.2.2 hnb
 have HA := Lib.hid hca
 have HB := Lib.hid hcb
 have LA := Lib.hid ha.1
 have LB := Lib.hid hb.1
 have HAW := Lib.hid haw
 have HBW := Lib.hid hbw
 clear ha hb hca hcb haw hbw
 have z0 : IntKind.i64.wrap ((na : Int) + nb) = (na : Int) + nb := IntWalk.i64_in _ (by omega)
 go_enter Tryd.func59, Tryd.ntmps59
 go_wp2
 go_loopw [5, 6] (fun o i wr => ∃ k : Nat, k ≤ na + nb ∧ i = .int .i64 k ∧ wr.ownsRow w.heap.size 34 1 o k (nums .u64 (List.replicate k 0)) ∧ Below w.heap.size w wr) (fun _ i _ => (na + nb - intOf i).toNat)
 case atStart => exact ⟨0, by omega, rfl, World.ownsRow_made w _ 0 (Nat.le_refl _) (by unfold maxLen; omega) rfl, (Below.refl _ _).alloc (Nat.le_refl _) _⟩
 case round =>
  obtain ⟨k, hk, rfl, hown, hBl⟩ := hrel
  by_cases hlt : k < na + nb
  ·--[T1
   obtain ⟨A, c, rfl⟩ := own_slice hown
   have i0 : (k : Int) < (na : Int) + nb := by omega
   have z4 : Hid (((List.replicate k (0 : Int)).length + 1) * 8 ≤ 140737488355328) := Lib.hid (by simp; omega)
   have z5 : Hid (List.replicate k (0 : Int) ++ [0] = List.replicate (k + 1) 0) := Lib.hid (by simp [List.replicate_succ'])
   have HO : Hid (wr.ownsRow w.heap.size 34 1 (.slice A k c) (List.replicate k (0 : Int)).length (nums .u64 (List.replicate k 0))) := by rw [List.length_replicate]; exact Lib.hid hown
   have z6 : Hid ((List.replicate (k + 1) (0 : Int)).length = k + 1) := Lib.hid (by simp)
   have HBl := Lib.hid hBl
   clear hown hBl
   generalize List.replicate k (0 : Int) = zs at *
   go_wp2_with (at_builtin; (refine print_append_num (w0 := w) w.heap.size rfl _ _ 70 34 .u64 8 rfl Tryd.underlying70 info_u64 (by decide) (.slice A k c) zs 0 rfl rfl HO.out (HBl.out) HBl.out.size z4.out ?_; intro v1 w1 hown hB1 hg hat; rw [z5.out, z6.out] at hown; have HO1 := Lib.hid hown; have HB1 := Lib.hid hB1; obtain ⟨A1, c1, rfl⟩ := own_slice hown); clear hown hB1 hg hat)
   go_roundw
   case rel => exact ⟨k + 1, by omega, by go_num, HO1.out, HB1.out⟩
   case measure => simp [intOf]; omega
   --T1]
  ·obtain rfl : k = na + nb := by omega
   have hn0 : (List.replicate (na + nb) (0 : Int)).length = na + nb := by simp
   obtain ⟨g, c, hv, hg0, _⟩ := hown.form (by omega)
   subst hv
   have hbg : w.heap.size ≤ g := (own_here hown 0 (by omega)).2.2
   have hzw : ∀ x ∈ List.replicate (na + nb) (0 : Int), W64 x := fun x hx => by rw [List.eq_of_mem_replicate hx]; unfold W64; omega
   have HM : Hid (timesM a b = carry (na + nb - 1) (outer a b na (List.replicate (na + nb) 0))) := by unfold timesM; rw [LA.out, LB.out]; exact Lib.hid rfl
   have HO := Lib.hid hown
   have HC := Lib.hid (Ch.of_below (S := fun _ => False) hBl)
   have HZW := Lib.hid hzw
   have HN0 := Lib.hid hn0
   clear hown hBl hzw hlt hk hn0
   generalize List.replicate (na + nb) (0 : Int) = zs at *
   go_wp2
   obtain ⟨w5, rfl⟩ : ∃ w5 : World, w5 = wr := ⟨_, rfl⟩
   go_loopw [7, 8] (fun i _ wr => ∃ k : Nat, k ≤ na ∧ i = .int .i64 k ∧ wr.ownsRow w.heap.size 34 1 (.slice (some ⟨g, 0, none⟩) (na + nb) c) (na + nb) (nums .u64 (outer a b k zs)) ∧ Ch (fun _ => False) w wr) (fun i _ _ => (na - intOf i).toNat)
   case atStart => exact ⟨0, by omega, rfl, HO.out, HC.out⟩
   case round =>
    obtain ⟨i, hi, rfl, hown, hC⟩ := hrel
    by_cases hlt : i < na
    ·--[T2
     have i0 : (i : Int) < na := by omega
     have how := outer_w a b zs HZW.out i
     have hsuc : Hid (outer a b (i + 1) zs = inn a b i nb (outer a b i zs)) := by rw [← LB.out]; exact Lib.hid rfl
     have HO := Lib.hid hown
     have HC := Lib.hid hC
     have HOW := Lib.hid how
     clear hown hC how
     generalize outer a b i zs = os at *
     go_wp2
     go_loopw [8] (fun j wr => ∃ k : Nat, k ≤ nb ∧ j = .int .i64 k ∧ wr.ownsRow w.heap.size 34 1 (.slice (some ⟨g, 0, none⟩) (na + nb) c) (na + nb) (nums .u64 (inn a b i k os)) ∧ Ch (fun _ => False) w wr) (fun j _ => (nb - intOf j).toNat)
     case atStart => exact ⟨0, by omega, rfl, HO.out, HC.out⟩
     case round =>
      obtain ⟨j, hj, rfl, hown, hC⟩ := hrel
      by_cases hlt2 : j < nb
      ·--[T3
       have c0 := hC.cell (HA.out i hlt) (fun h => h)
       have c1 := hC.cell (HB.out j hlt2) (fun h => h)
       change wr.cell? _ = some (.int .u64 (nt a i)) at c0
       change wr.cell? _ = some (.int .u64 (nt b j)) at c1
       obtain ⟨c2, f2, _⟩ := own_here hown (i + j) (by omega)
       obtain ⟨a0, a1⟩ := nt_w64 HAW.out i
       obtain ⟨b0, b1⟩ := nt_w64 HBW.out j
       obtain ⟨o0, o1⟩ := nt_w64 (inn_w a b i os HOW.out j) (i + j)
       have hst := (own_store hown ((i + j : Nat) : Int) ((nt (inn a b i j os) (i + j) + nt a i * nt b j) % 18446744073709551616)).1
       have hin : inn a b i (j + 1) os = (inn a b i j os).set (i + j) ((nt (inn a b i j os) (i + j) + nt a i * nt b j) % 18446744073709551616) := rfl
       rw [Int.toNat_natCast, ← hin] at hst
       have i1 : IntKind.i64.wrap ((i : Int) + j) = (i : Int) + j := IntWalk.i64_in _ (by omega)
       have i2 : 0 ≤ (i : Int) + j := by omega
       have i3 : (i : Int) + j < (na : Int) + nb := by omega
       have i4 : ((i : Int) + j).toNat = i + j := by omega
       have i5 : (j : Int) < nb := by omega
       have HST := Lib.hid hst
       have HC := Lib.hid hC
       have HO := Lib.hid hown
       clear hst hin hown hC
       generalize nt a i = x at *
       generalize nt b j = y at *
       generalize nt (inn a b i j os) (i + j) = z at *
       go_wp2
       refine wp_region_quiet_tail 21 (by kernel_rfl) (by kernel_rfl) ?_
       simp only [List.take_succ_cons, List.take_zero, List.drop_succ_cons, List.drop_zero]
       repeat (go_big_quiet_step (fail))
       refine wpQuiet_nil ?_
       intro _ hw'
       obtain ⟨nd, hw''⟩ := hw'
       subst hw''
       go_wp2
       refine ⟨⟨j + 1, by omega, by go_num, ?_, (HC.out.drewN nd).setCell (.inr hbg) _⟩, by simp [intOf]; omega⟩
       rw [show IntKind.u64.wrap (z + IntKind.u64.wrap (x * y)) = (z + x * y) % 18446744073709551616 by simp only [IntKind.wrap_u64]; omega]
       exact HST.out
       --T3]
      ·obtain rfl : j = nb := by omega
       have i5 : ¬ (j : Int) < j := by omega
       have HO := Lib.hid hown
       have HC := Lib.hid hC
       clear hown hC
       go_wp2
       refine ⟨⟨i + 1, by omega, by go_num, by rw [hsuc.out]; exact HO.out, HC.out⟩, by simp [intOf]; omega⟩
     --T2]
    ·--[T4
     obtain rfl : i = na := by omega
     have how := outer_w a b zs HZW.out i
     have hol := outer_length a b zs i
     rw [HN0.out] at hol
     have HO := Lib.hid hown
     have HC := Lib.hid hC
     have HOW := Lib.hid how
     have HOL := Lib.hid hol
     clear hown hC how hol hlt hi
     generalize outer a b i zs = os at *
     go_wp2
     obtain ⟨w6, rfl⟩ : ∃ w6 : World, w6 = wr := ⟨_, rfl⟩
     go_loopw [9] (fun k wr => ∃ q : Nat, q ≤ i + nb - 1 ∧ k = .int .i64 q ∧ wr.ownsRow w.heap.size 34 1 (.slice (some ⟨g, 0, none⟩) (i + nb) c) (i + nb) (nums .u64 (carry q os)) ∧ Ch (fun _ => False) w wr) (fun k _ => (i + nb - intOf k).toNat)
     case atStart => exact ⟨0, by omega, rfl, HO.out, HC.out⟩
     case round =>
      obtain ⟨k, hk, rfl, hown, hC⟩ := hrel
      have i1 : IntKind.i64.wrap ((k : Int) + 1) = (k : Int) + 1 := IntWalk.i64_in _ (by omega)
      by_cases hlt2 : k < i + nb - 1
      ·--[T5
       obtain ⟨c1, f1, _⟩ := own_here hown (k + 1) (by omega)
       obtain ⟨c2, f2, _⟩ := own_here hown k (by omega)
       obtain ⟨o0, o1⟩ := nt_w64 (carry_w os HOW.out k) (k + 1)
       obtain ⟨p0, p1⟩ := nt_w64 (carry_w os HOW.out k) k
       have hst := (own_store hown ((k + 1 : Nat) : Int) ((nt (carry k os) (k + 1) + nt (carry k os) k / 262144) % 18446744073709551616)).1
       rw [Int.toNat_natCast] at hst
       change World.ownsRow _ _ _ _ _ _ (nums .u64 (carry1 (carry k os) k)) at hst
       obtain ⟨c3, f3, _⟩ := own_here hst k (by omega)
       have hsame : nt (carry1 (carry k os) k) k = nt (carry k os) k := by simp [carry1, nt, List.getD_eq_getElem?_getD, List.getElem?_set]
       have hst2 := (own_store hst ((k : Nat) : Int) (nt (carry1 (carry k os) k) k % 262144)).1
       rw [Int.toNat_natCast] at hst2
       change World.ownsRow _ _ _ _ _ _ (nums .u64 (carry (k + 1) os)) at hst2
       rw [hsame] at hst2 c3
       have i2 : 0 ≤ (k : Int) + 1 := by omega
       have i3 : (k : Int) + 1 < (i : Int) + nb := by omega
       have i4 : ((k : Int) + 1).toNat = k + 1 := by omega
       have i5 : (k : Int) < (i : Int) + nb := by omega
       have HST := Lib.hid hst2
       have HC := Lib.hid hC
       have HO := Lib.hid hown
       have C3 := Lib.hid c3
       have F3 := Lib.hid f3
       clear hst hst2 hown hC hsame c3 f3
       generalize nt (carry k os) (k + 1) = x at *
       generalize nt (carry k os) k = y at *
       go_wp2
       refine wp_region_quiet_tail 15 (by kernel_rfl) (by kernel_rfl) ?_
       simp only [List.take_succ_cons, List.take_zero, List.drop_succ_cons, List.drop_zero]
       repeat (go_big_quiet_step (fail))
       refine wpQuiet_nil ?_
       intro _ hw'
       obtain ⟨nd, hw''⟩ := hw'
       subst hw''
       go_wp2
       refine ⟨⟨k + 1, by omega, by go_num, ?_, ((HC.out.drewN nd).setCell (.inr hbg) _).setCell (.inr hbg) _⟩, by simp [intOf]; omega⟩
       rw [show IntKind.u64.wrap (x + y / 262144) = (x + y / 262144) % 18446744073709551616 by simp only [IntKind.wrap_u64]]
       exact HST.out
       --T5]
      ·obtain rfl : k = i + nb - 1 := by omega
       have i6 : ¬ (((i + nb - 1 : Nat) : Int) + 1) < (i : Int) + nb := by omega
       rw [← HM.out] at hown
       have HO := Lib.hid hown
       have HC := Lib.hid hC
       clear hown hC
       generalize i + nb - 1 = q at *
       go_wp2
       go_ret
       exact ⟨_, rfl, HO.out, HC.out.below⟩
     --T4]
end Go.Proofs.YtejhjlfakfaegaaDoor
set_option linter.unusedSimpArgs false
set_option linter.unusedVariables false
namespace Go.Proofs.YtejhjlfakfaegaaDoor
open Go.RowKit Go.Proofs.YtejhjlfakfaegaaDoorW.PrintWords

def cmpM (p q : List Int) : Nat → Bool
 | 0 => false
 | k + 1 => if nt p k = nt q k then cmpM p q k else decide (nt q k < nt p k)
def limbs (y : Int) : List Int := [y % 262144, y / 262144]
def wantM (n : Int) : List Int := [0, 0, 0, 0, 0, n * 64 % 262144, n * 64 / 262144]
def aboveM (y n : Int) : Bool := cmpM (timesM (timesM (limbs y) (limbs y)) (limbs y)) (wantM n) 9
theorem reads_own {w : World} {base : Nat} {e : TypeId} {k : IntKind} {A : Option Addr} {n c : Nat} {xs : List Int} (h : w.ownsRow base e 1 (.slice A n c) n (nums k xs)) : ReadsInt w k A n xs := q_reads (q_of_own h)
theorem limbs_w (y : Int) (h0 : 0 ≤ y) (h1 : y < 1099511627776) : ∀ x ∈ limbs y, W64 x := by
 intro x hx
 simp only [limbs, List.mem_cons, List.not_mem_nil, or_false] at hx
 unfold W64
 rcases hx with rfl | rfl <;> omega
theorem two_reads {W : World} {g : Nat} {k : IntKind} {x y : Int} {T : TypeId} (h : W.heap[g]? = some (.cells #[.int k x, .int k y] T (0, 0))) : ReadsInt W k (some ⟨g, 0, none⟩) 2 [x, y] := by
 refine ⟨rfl, by omega, fun _ => ⟨_, rfl, fun j hj => ?_⟩⟩
 rw [add_plain, blk_cell h]
 match j, hj with
 | 0, _ => rfl
 | 1, _ => rfl
theorem own_alloc' {w : World} {base : Nat} {e : TypeId} {size n : Nat} {v : Value} {xs : List Value} (h : w.ownsRow base e size v n xs) (o : Obj) : (w.alloc o).ownsRow base e size v n xs := own_weaken (h.alloc o) (Nat.le_refl _)
theorem cmp_yes (p q : List Int) (k : Nat) (h : nt p k = nt q k) : cmpM p q (k + 1) = cmpM p q k := by simp [cmpM, h]
theorem cmp_no (p q : List Int) (k : Nat) (h : ¬ nt p k = nt q k) : cmpM p q (k + 1) = decide (nt q k < nt p k) := by simp [cmpM, h]
set_option maxHeartbeats 1000000 in
set_option maxRecDepth 100000 in
theorem above_any (y n : Int) (w : World) (h0 : 0 ≤ y) (h1 : y < 1099511627776) (n0 : 0 ≤ n) (n1 : n < 100000) :
  Calls Tryd.prog 52 #[.int .u64 y, .int .u64 n] w fun e w' => e = .returned (.bool (aboveM y n)) ∧ Below w.heap.size w w' := by
 have HL : Hid (ReadsInt (w.alloc (.cells #[.int .u64 (y % 262144), .int .u64 (y / 262144)] 34)) .u64 (some ⟨w.heap.size, 0, none⟩) 2 (limbs y)) := two_reads (heap_alloc_new w _)
 have HLW := Lib.hid (limbs_w y h0 h1)
 have HT1 := Lib.hid (times_any _ _ 2 2 2 2 _ _ _ HL.out HL.out (by omega) (by omega) (by omega) HLW.out HLW.out)
 have HC0 : Hid (Ch (fun _ => False) w (w.alloc (.cells #[.int .u64 (y % 262144), .int .u64 (y / 262144)] 34))) := (Ch.refl _ _).alloc _
 go_enter Tryd.func52, Tryd.ntmps52
 go_wp2_with (first
  | (go_at_call 59; with_reducible refine (HT1.out).mono ?_; rintro e w1 ⟨v, rfl, ho, hb⟩; obtain ⟨A1, c1, rfl⟩ := own_slice ho; have HO1 := Lib.hid ho; have HB1 := Lib.hid hb; have HT2 := Lib.hid (times_any _ _ c1 2 4 2 _ _ _ (reads_own HO1.out) (Ch.reads (S := fun _ => False) (Ch.of_below HB1.out) HL.out (fun _ _ h => h)) (by omega) (by omega) (by omega) (timesM_w _ _) HLW.out); clear ho hb)
  | (go_at_call 59; with_reducible refine (HT2.out).mono ?_; rintro e w2 ⟨v, rfl, ho, hb⟩; obtain ⟨A2, c2, rfl⟩ := own_slice ho; have HO2 := Lib.hid ho; have HB2 := Lib.hid hb; clear ho hb))
 have HAB : Hid (aboveM y n = cmpM (timesM (timesM (limbs y) (limbs y)) (limbs y)) (wantM n) 9) := Lib.hid rfl
 obtain ⟨w3, hw3⟩ : ∃ w3 : World, w3 = w2.alloc (.cells (nums .u64 (wantM n)).toArray 34) := ⟨_, rfl⟩
 have HR1 : Hid (ReadsInt w3 .u64 A2 6 (timesM (timesM (limbs y) (limbs y)) (limbs y))) := by rw [hw3]; exact reads_own (own_alloc' HO2.out _)
 have HR2 : Hid (ReadsInt w3 .u64 (some ⟨w2.heap.size, 0, none⟩) 7 (wantM n)) := by rw [hw3]; exact reads_own (own_lit w2 0 34 .u64 (wantM n) (by omega) (by simp [wantM]))
 have HC3 : Hid (Ch (fun _ => False) w w3) := by rw [hw3]; exact Ch.alloc ((HC0.out.trans (Ch.of_below HB1.out)).trans (Ch.of_below HB2.out)) _
 have HW3 := Lib.hid hw3
 clear hw3 HT1 HT2 HO1 HO2 HB1 HB2 HC0 HL HLW
 generalize timesM (timesM (limbs y) (limbs y)) (limbs y) = AM at *
 go_loopw [9, 10, 11] (fun i _ _ wr => ∃ q : Nat, q ≤ 9 ∧ i = .int .i64 ((q : Int) - 1) ∧ cmpM AM (wantM n) 9 = cmpM AM (wantM n) q ∧ Ch (fun _ => False) w3 wr) (fun i _ _ _ => (intOf i + 1).toNat)
 case atStart => exact ⟨9, by omega, rfl, rfl, by rw [HW3.out]; exact Ch.refl _ _⟩
 case round =>
  obtain ⟨q, hq, rfl, hcm, hC⟩ := hrel
  have HCM := Lib.hid (HAB.out.trans hcm)
  have HC := Lib.hid hC
  have HCM0 := Lib.hid hcm
  clear hcm hC HAB
  rcases q with _ | p
  ·rw [show (((0 : Nat) : Int) - 1) = -1 from rfl]
   go_wp2
   go_ret
   exact ⟨by rw [HCM.out]; rfl, (HC3.out.trans HC.out).below⟩
  ·rw [show (((p + 1 : Nat) : Int) - 1) = (p : Int) by omega]
   have HX1 := Lib.hid (at_any A2 6 c2 p AM wr (HC.out.reads HR1.out (fun _ _ h => h)) (by omega) (by omega))
   have HX2 := Lib.hid (at_any (some ⟨w2.heap.size, 0, none⟩) 7 7 p (wantM n) wr (HC.out.reads HR2.out (fun _ _ h => h)) (by omega) (by omega))
   have hy := Lib.hid (cmp_yes AM (wantM n) p)
   have hno := Lib.hid (cmp_no AM (wantM n) p)
   generalize nt AM p = a at *
   generalize nt (wantM n) p = b at *
   by_cases hab : a = b
   ·have HEQ := Lib.hid hab
    have hb1 : (a != b) = false := by simp [hab]
    clear hab
    go_wp2_with (first
     | (go_at_call 60; with_reducible refine (HX1.out).mono ?_; rintro e w' ⟨rfl, rfl⟩)
     | (go_at_call 60; with_reducible refine (HX2.out).mono ?_; rintro e w' ⟨rfl, rfl⟩))
    go_roundw
    case rel => exact ⟨p, by omega, by go_num, by rw [HCM0.out]; exact hy.out HEQ.out, HC.out⟩
    case measure => simp [intOf]
   ·have hb1 : (a != b) = true := by simp [hab]
    go_wp2_with (first
     | (go_at_call 60; with_reducible refine (HX1.out).mono ?_; rintro e w' ⟨rfl, rfl⟩)
     | (go_at_call 60; with_reducible refine (HX2.out).mono ?_; rintro e w' ⟨rfl, rfl⟩))
    go_ret
    exact ⟨by rw [HCM.out, hno.out hab]; rfl, (HC3.out.trans HC.out).below⟩
end Go.Proofs.YtejhjlfakfaegaaDoor
set_option linter.unusedSimpArgs false
set_option linter.unusedVariables false
namespace Go.Proofs.YtejhjlfakfaegaaDoor
open Go.RowKit Go.Proofs.YtejhjlfakfaegaaDoorW.PrintWords

def cubeSt (n : Int) : Nat → Int
 | 0 => 0
 | s + 1 => if aboveM (cubeSt n s + 2 ^ (35 - s)) n then cubeSt n s else cubeSt n s + 2 ^ (35 - s)
theorem pow_half (s : Nat) (h : s < 36) : (2 : Int) ^ (36 - s) = 2 ^ (35 - s) + 2 ^ (35 - s) ∧ (0 : Int) ≤ 2 ^ (35 - s) := by
 have : ∀ s, s < 36 → (2 : Int) ^ (36 - s) = 2 ^ (35 - s) + 2 ^ (35 - s) ∧ (0 : Int) ≤ 2 ^ (35 - s) := by decide
 exact this s h
theorem cubeSt_le (n : Int) : ∀ s, s ≤ 36 → 0 ≤ cubeSt n s ∧ cubeSt n s + 2 ^ (36 - s) ≤ 68719476736
 | 0, _ => by simp [cubeSt]
 | s + 1, h => by
  have ih := cubeSt_le n s (by omega)
  have hp := pow_half s (by omega)
  rw [show 36 - (s + 1) = 35 - s by omega]
  unfold cubeSt
  split <;> omega
def cubeM (n : Int) : Int := cubeSt n 36 % 4294967296
theorem pow_le (p : Nat) (h : p < 36) : (0 : Int) ≤ 2 ^ p ∧ (2 : Int) ^ p ≤ 34359738368 := by
 have : ∀ p, p < 36 → (0 : Int) ≤ 2 ^ p ∧ (2 : Int) ^ p ≤ 34359738368 := by decide
 exact this p h
set_option maxHeartbeats 1000000 in
set_option maxRecDepth 100000 in
theorem cube_any (n : Int) (w : World) (n0 : 0 ≤ n) (n1 : n < 100000) :
  Calls Tryd.prog 42 #[.int .u64 n] w fun e w' => e = .returned (.int .u32 (cubeM n)) ∧ Below w.heap.size w w' := by
 go_enter Tryd.func42, Tryd.ntmps42
 go_wp2
 go_loopw [3, 4, 5] (fun x i _ wr => ∃ q : Nat, q ≤ 36 ∧ i = .int .i64 ((q : Int) - 1) ∧ x = .int .u64 (cubeSt n (36 - q)) ∧ Ch (fun _ => False) w wr) (fun _ i _ _ => (intOf i + 1).toNat)
 case atStart => exact ⟨36, by omega, rfl, rfl, Ch.refl _ _⟩
 case round =>
  obtain ⟨q, hq, rfl, rfl, hC⟩ := hrel
  have HC := Lib.hid hC
  clear hC
  rcases q with _ | p
  ·rw [show (((0 : Nat) : Int) - 1) = -1 from rfl]
   obtain ⟨x0, x1⟩ := cubeSt_le n 36 (by omega)
   have HM : Hid (cubeM n = cubeSt n (36 - 0) % 4294967296) := Lib.hid rfl
   change 0 ≤ cubeSt n (36 - 0) at x0
   change cubeSt n (36 - 0) + 1 ≤ _ at x1
   generalize cubeSt n (36 - 0) = x at *
   go_wp2
   go_ret
   exact ⟨by rw [HM.out]; rfl, HC.out.below⟩
  ·rw [show (((p + 1 : Nat) : Int) - 1) = (p : Int) by omega]
   obtain ⟨x0, x1⟩ := cubeSt_le n (36 - (p + 1)) (by omega)
   rw [show 36 - (36 - (p + 1)) = p + 1 by omega] at x1
   obtain ⟨p0, p1⟩ := pow_le p (by omega)
   have hs : cubeSt n (36 - p) = if aboveM (cubeSt n (36 - (p + 1)) + 2 ^ p) n then cubeSt n (36 - (p + 1)) else cubeSt n (36 - (p + 1)) + 2 ^ p := by
    rw [show 36 - p = (36 - (p + 1)) + 1 by omega, cubeSt, show 35 - (36 - (p + 1)) = p by omega]
   have hx2 : cubeSt n (36 - (p + 1)) ≤ 68719476736 := by
    have : (0 : Int) ≤ 2 ^ (p + 1) := by rw [Int.pow_succ]; omega
    omega
   have HS := Lib.hid hs
   generalize hx : cubeSt n (36 - (p + 1)) = x at *
   generalize hP : (2 : Int) ^ p = P at *
   have i0 : IntKind.u64.wrap (x + P) = x + P := by rw [IntKind.wrap_u64]; omega
   have i1 : IntKind.u64.wrap P = P := by rw [IntKind.wrap_u64]; omega
   have i2 : IntKind.u64.wrap (p : Int) = (p : Int) := by rw [IntKind.wrap_u64]; omega
   have HAV := Lib.hid (above_any (x + P) n wr (by omega) (by omega) n0 n1)
   clear hs hx x1
   generalize hB : aboveM (x + P) n = B at *
   cases B with
   | true =>
    go_wp2_with (go_at_call 52; with_reducible refine (HAV.out).mono ?_; rintro e w' ⟨rfl, hb⟩; have HB1 := Lib.hid hb; clear hb)
    refine ⟨⟨p, by omega, rfl, by rw [HS.out]; rfl, HC.out.trans (Ch.of_below HB1.out)⟩, by simp [intOf]⟩
   | false =>
    go_wp2_with (go_at_call 52; with_reducible refine (HAV.out).mono ?_; rintro e w' ⟨rfl, hb⟩; have HB1 := Lib.hid hb; clear hb)
    refine ⟨⟨p, by omega, rfl, by rw [HS.out]; rfl, HC.out.trans (Ch.of_below HB1.out)⟩, by simp [intOf]⟩

def divs (p : Nat) (l : List Nat) : Bool := l.any fun d => p % d == 0
/-- the primes among 2 .. p+1 -/
def pr : Nat → List Nat
 | 0 => []
 | p + 1 => if divs (p + 2) (pr p) then pr p else pr p ++ [p + 2]
def ints (l : List Nat) : List Int := l.map Int.ofNat
end Go.Proofs.YtejhjlfakfaegaaDoor
set_option linter.unusedSimpArgs false
set_option linter.unusedVariables false
namespace Go.Proofs.YtejhjlfakfaegaaDoor
theorem pr_310 : (pr 310).length = 64 := by decide +kernel
theorem pr_309 : (pr 309).length = 63 := by decide +kernel
theorem ks_eq : (ints (pr 310)).map cubeM = kst := by decide +kernel
end Go.Proofs.YtejhjlfakfaegaaDoor
set_option linter.unusedSimpArgs false
set_option linter.unusedVariables false
namespace Go.Proofs.YtejhjlfakfaegaaDoor
open Go.RowKit Go.Proofs.YtejhjlfakfaegaaDoorW.PrintWords

def dv (P : Int) (l : List Int) (k : Nat) : Bool := (l.take k).any fun d => P % d == 0
theorem dv_succ (P : Int) (l : List Int) (k : Nat) (h : k < l.length) : dv P l (k + 1) = (dv P l k || (P % nt l k == 0)) := by
 unfold dv
 rw [List.take_succ_eq_append_getElem h, List.any_append, nt_get h]
 simp
theorem dv_divs (p : Nat) (l : List Nat) : dv p (ints l) (ints l).length = divs p l := by
 unfold dv divs ints
 rw [List.take_length, List.any_map]
 congr 1
 funext d
 show ((p : Int) % (d : Int) == 0) = (p % d == 0)
 rw [← Int.natCast_emod]
 rw [Bool.eq_iff_iff, beq_iff_eq, beq_iff_eq]
 exact Int.natCast_eq_zero
theorem pr_ge : ∀ p, ∀ d ∈ pr p, 2 ≤ d ∧ d ≤ p + 1
 | 0 => by simp [pr]
 | p + 1 => by
  intro d hd
  have ih := pr_ge p
  unfold pr at hd
  split at hd
  ·have := ih d hd; omega
  ·rcases List.mem_append.1 hd with h | h
   ·have := ih d h; omega
   ·rw [List.mem_singleton.1 h]; omega
theorem pr_up (p : Nat) : (pr p).length ≤ (pr (p + 1)).length := by
 rw [pr]; split <;> simp
theorem pr_mono (p : Nat) : ∀ k, (pr p).length ≤ (pr (p + k)).length
 | 0 => Nat.le_refl _
 | k + 1 => Nat.le_trans (pr_mono p k) (pr_up (p + k))
theorem pr_lt (p : Nat) (h : (pr p).length < 64) : p < 310 := by
 refine Nat.lt_of_not_le fun h' => ?_
 have := pr_mono 310 (p - 310)
 rw [pr_310, show 310 + (p - 310) = p by omega] at this
 omega
theorem pr_end (p : Nat) (h : p ≤ 310) (h' : ¬ (pr p).length < 64) : p = 310 := by
 refine Nat.le_antisymm h (Nat.le_of_not_lt fun h2 => ?_)
 have := pr_mono p (309 - p)
 rw [show p + (309 - p) = 309 by omega, pr_309] at this
 omega
theorem pr_le (p : Nat) (h : p ≤ 310) : (pr p).length ≤ 64 := by
 have := pr_mono p (310 - p)
 rw [show p + (310 - p) = 310 by omega, pr_310] at this
 exact this
theorem ints_length (l : List Nat) : (ints l).length = l.length := by simp [ints]
set_option maxHeartbeats 1000000 in
set_option maxRecDepth 100000 in
theorem primes_any (w : World) :
  Calls Tryd.prog 41 #[.int .i64 64] w fun e w' => ∃ v, e = .returned v ∧ w'.ownsRow w.heap.size 34 1 v 64 (nums .u64 (ints (pr 310))) ∧ Below w.heap.size w w' := by
 go_enter Tryd.func41, Tryd.ntmps41
 go_wp2
 go_loopw [3, 4, 5, 6] (fun o x _ _ wr => ∃ p L : Nat, p ≤ 310 ∧ L = (ints (pr p)).length ∧ x = .int .u64 ((p + 2 : Nat) : Int) ∧ wr.ownsRow w.heap.size 34 1 o L (nums .u64 (ints (pr p))) ∧ Below w.heap.size w wr) (fun _ x _ _ _ => (400 - intOf x).toNat)
 case atStart => exact ⟨0, 0, by omega, rfl, rfl, World.ownsRow_made w _ 0 (Nat.le_refl _) (by unfold maxLen; omega) rfl, (Below.refl _ _).alloc (Nat.le_refl _) _⟩
 case round =>
  obtain ⟨p, L, hp, hL, rfl, hown, hBl⟩ := hrel
  obtain ⟨A, c, rfl⟩ := own_slice hown
  have hle := pr_le p hp
  rw [ints_length] at hL
  by_cases hlt : L < 64
  ·--[P1
   have hp2 := pr_lt p (by omega)
   have hge := pr_ge p
   have hrd := reads_own hown
   have hd := dv_divs (p + 2) (pr p)
   have hps : pr (p + 1) = if divs (p + 2) (pr p) then pr p else pr p ++ [p + 2] := rfl
   rw [← hd] at hps
   have hps2 : ints (pr (p + 1)) = if dv ((p + 2 : Nat) : Int) (ints (pr p)) (ints (pr p)).length then ints (pr p) else ints (pr p) ++ [((p + 2 : Nat) : Int)] := by rw [hps]; split <;> simp [ints]
   have hli := ints_length (pr p)
   rw [← hL] at hli
   rw [hli] at hps2
   have hnz : ∀ k, k < L → 2 ≤ nt (ints (pr p)) k ∧ nt (ints (pr p)) k < 1000 := by
    intro k hk
    rw [nt_get (by omega)]
    have hm := hge _ (List.getElem_mem (show k < (pr p).length by omega))
    simp only [ints, List.getElem_map]
    obtain ⟨h1, h2⟩ := hm
    exact ⟨by show (2 : Int) ≤ ((pr p)[k] : Nat); omega, by show (((pr p)[k] : Nat) : Int) < 1000; omega⟩
   have HNZ := Lib.hid hnz
   have HLI := Lib.hid hli
   have HPS := Lib.hid hps2
   have HO := Lib.hid hown
   have HRD := Lib.hid hrd
   have HBl := Lib.hid hBl
   have hl64 : Hid ((L + 1) * 8 ≤ 140737488355328) := Lib.hid (by omega)
   clear hnz hli hps2 hown hrd hBl hps hd hge hL hle
   have i9 : (L : Int) < 64 := by omega
   generalize hls : ints (pr p) = ls at *
   clear hls
   go_wp2
   obtain ⟨w5, rfl⟩ : ∃ w5 : World, w5 = wr := ⟨_, rfl⟩
   go_loopw [5, 6] (fun f i wr => ∃ k : Nat, k ≤ L ∧ i = .int .i64 k ∧ f = .bool (!(dv ((p + 2 : Nat) : Int) ls k)) ∧ w5 = wr) (fun _ i _ => (L - intOf i).toNat)
   case atStart => exact ⟨0, by omega, rfl, rfl, rfl⟩
   case round =>
    obtain ⟨k, hk, rfl, rfl, rfl⟩ := hrel
    by_cases hlt2 : k < L
    ·--[P3
     obtain ⟨ad, rfl, hc⟩ := HRD.out.2.2 (by omega)
     have c0 := hc k hlt2
     change w5.cell? _ = some (.int .u64 (nt ls k)) at c0
     obtain ⟨x2, x3⟩ := HNZ.out k hlt2
     have hdv := dv_succ ((p + 2 : Nat) : Int) ls k (by rw [HLI.out]; exact hlt2)
     have HDV := Lib.hid hdv
     have P0 : 0 ≤ ((p + 2 : Nat) : Int) := by omega
     have P1 : ((p + 2 : Nat) : Int) < 400 := by omega
     clear hc hdv
     generalize ((p + 2 : Nat) : Int) = P at *
     generalize nt ls k = x at *
     generalize hdk : dv P ls k = D at *
     have xn : ¬ x = 0 := by omega
     have i5 : (k : Int) < L := by omega
     cases hb : (P % x == 0) with
     | true =>
      go_wp2
      exact ⟨⟨k + 1, by omega, by go_num, by rw [HDV.out, hb]; simp, trivial⟩, by simp [intOf]; omega⟩
     | false =>
      go_wp2
      exact ⟨⟨k + 1, by omega, by go_num, by rw [HDV.out, hb]; simp, trivial⟩, by simp [intOf]; omega⟩
     --P3]
    ·--[P4
     obtain rfl : k = L := by omega
     have i5 : ¬ (k : Int) < k := by omega
     have i6 : IntKind.u64.wrap (((p + 2 : Nat) : Int) + 1) = ((p + 1 + 2 : Nat) : Int) := by rw [IntKind.wrap_u64]; omega
     have i7 : ((p + 2 : Nat) : Int) + 1 = ((p + 1 + 2 : Nat) : Int) := by omega
     have P1 : ((p + 2 : Nat) : Int) < 400 := by omega
     have P2 : ((p + 1 + 2 : Nat) : Int) < 401 := by omega
     have P3 : ((p + 1 + 2 : Nat) : Int) = ((p + 2 : Nat) : Int) + 1 := by omega
     have HP3 := Lib.hid P3
     have i8 : IntKind.u64.wrap ((p + 1 + 2 : Nat) : Int) = ((p + 1 + 2 : Nat) : Int) := by rw [IntKind.wrap_u64]; omega
     clear P3
     generalize hPP : ((p + 1 + 2 : Nat) : Int) = P' at *
     generalize ((p + 2 : Nat) : Int) = P at *
     have HPP := Lib.hid hPP
     clear hPP
     cases hD : dv P ls k with
     | true =>
      rw [hD] at HPS
      have HPS : Hid (ints (pr (p + 1)) = ls) := HPS
      go_wp2
      refine ⟨⟨p + 1, k, by omega, by rw [HPS.out]; exact HLI.out.symm, by rw [HPP.out], by rw [HPS.out]; exact HO.out, HBl.out⟩, ?_⟩
      have := HPP.out
      simp [intOf]
      omega
     | false =>
      rw [hD] at HPS
      have HPS : Hid (ints (pr (p + 1)) = ls ++ [P]) := HPS
      go_wp2_with (at_builtin; refine print_append_num (w0 := w) w.heap.size rfl _ _ 70 34 .u64 8 rfl Tryd.underlying70 info_u64 (by decide) (.slice A k c) ls P rfl rfl (by rw [HLI.out]; exact HO.out) (HBl.out) HBl.out.size (by rw [HLI.out]; exact hl64.out) ?_; intro v1 w1 hown hB1 hg hat; have HO1 := Lib.hid hown; have HB1 := Lib.hid hB1; obtain ⟨A1, c1, rfl⟩ := own_slice hown; clear hown hB1 hg hat)
      refine ⟨⟨p + 1, ls.length + 1, by omega, by rw [HPS.out]; simp, by rw [HPP.out], by rw [HPS.out]; have := HO1.out; simp only [List.length_append, List.length_cons, List.length_nil] at this; exact this, HB1.out⟩, ?_⟩
      have := HPP.out
      simp [intOf]
      omega
     --P4]
   --P1]
  ·--[P2
   have := pr_end p hp (by omega)
   subst this
   rw [pr_310] at hL
   subst hL
   have HO := Lib.hid hown
   have HBl := Lib.hid hBl
   clear hown hBl hle hp hlt
   generalize hls : ints (pr 310) = ls at *
   have HLS := Lib.hid hls
   clear hls
   go_wp2
   go_ret
   rw [HLS.out]
   exact ⟨_, rfl, HO.out, HBl.out⟩
   --P2]
end Go.Proofs.YtejhjlfakfaegaaDoor
set_option linter.unusedSimpArgs false
set_option linter.unusedVariables false
namespace Go.Proofs.YtejhjlfakfaegaaDoor
open Go.RowKit Go.Proofs.YtejhjlfakfaegaaDoorW.PrintWords

theorem pr_num (p : Nat) (hp : p ≤ 310) (k : Nat) : 0 ≤ nt (ints (pr p)) k ∧ nt (ints (pr p)) k < 100000 := by
 by_cases hk : k < (ints (pr p)).length
 ·rw [nt_get hk]
  have hk' : k < (pr p).length := by rw [ints_length] at hk; exact hk
  have hm := pr_ge p _ (List.getElem_mem hk')
  simp only [ints, List.getElem_map]
  obtain ⟨h1, h2⟩ := hm
  exact ⟨by show (0 : Int) ≤ ((pr p)[k] : Nat); omega, by show (((pr p)[k] : Nat) : Int) < 100000; omega⟩
 ·simp [nt, List.getD_eq_getElem?_getD, List.getElem?_eq_none (Nat.le_of_not_lt hk)]
theorem own_keep {w w' : World} {base : Nat} {e : TypeId} {size n : Nat} {v : Value} {xs : List Value} (h : w.ownsRow base e size v n xs) (hb : Below w.heap.size w w') : w'.ownsRow base e size v n xs := by
 refine own_other h (row := none) ⟨hb.os, hb.tape, hb.output, hb.size, fun k hk _ => hb.block k hk⟩ ?_
 by_cases hv : v.ownBlock = none
 ·exact .inl hv
 ·exact .inr hv
def ksTo (l : List Int) (k : Nat) : List Int := (l.take k).map cubeM
theorem ksTo_succ (l : List Int) (k : Nat) (h : k < l.length) : ksTo l (k + 1) = ksTo l k ++ [cubeM (nt l k)] := by
 unfold ksTo
 rw [List.take_succ_eq_append_getElem h, List.map_append, nt_get h]
 rfl
theorem ksTo_length (l : List Int) (k : Nat) (h : k ≤ l.length) : (ksTo l k).length = k := by simp [ksTo]; omega
set_option maxHeartbeats 1000000 in
set_option maxRecDepth 100000 in
theorem ks_any (w : World) :
  Calls Tryd.prog 23 #[] w fun e w' => ∃ v, e = .returned v ∧ w'.ownsRow w.heap.size 72 1 v 64 (nums .u32 kst) ∧ Below w.heap.size w w' := by
 have hall : ksTo (ints (pr 310)) 64 = kst := by rw [← ks_eq, ksTo, List.take_of_length_le (by rw [ints_length, pr_310]; omega)]
 have HALL := Lib.hid hall
 have hlen : (ints (pr 310)).length = 64 := by rw [ints_length, pr_310]
 have HLEN := Lib.hid hlen
 have hnum := pr_num 310 (by omega)
 have HNUM := Lib.hid hnum
 have HPA := Lib.hid (primes_any w)
 clear hall hlen hnum
 generalize ints (pr 310) = ls at *
 generalize hkk : kst = kk at *
 have HKK := Lib.hid hkk
 clear hkk
 go_enter Tryd.func23, Tryd.ntmps23
 go_wp2_with (go_at_call 41; with_reducible refine (HPA.out).mono ?_; rintro e w1 ⟨v, rfl, ho, hb⟩; obtain ⟨A1, c1, rfl⟩ := own_slice ho; have HO1 := Lib.hid ho; have HB1 := Lib.hid hb; clear ho hb)
 go_loopw [2, 3] (fun o i wr => ∃ k : Nat, k ≤ 64 ∧ i = .int .i64 k ∧ wr.ownsRow w1.heap.size 72 1 o k (nums .u32 (ksTo ls k)) ∧ Below w1.heap.size w1 wr) (fun _ i _ => (64 - intOf i).toNat)
 case atStart => exact ⟨0, by omega, rfl, World.ownsRow_made w1 _ 0 (Nat.le_refl _) (by unfold maxLen; omega) rfl, (Below.refl _ _).alloc (Nat.le_refl _) _⟩
 case round =>
  obtain ⟨k, hk, rfl, hown, hBl⟩ := hrel
  obtain ⟨A, c, rfl⟩ := own_slice hown
  by_cases hlt : k < 64
  ·obtain ⟨ad, rfl, hc⟩ := (reads_own HO1.out).2.2 (by omega)
   have c0 := Ch.cell (S := fun _ => False) (Ch.of_below hBl) (hc k hlt) (fun h => h)
   change wr.cell? _ = some (.int .u64 (nt ls k)) at c0
   obtain ⟨x0, x1⟩ := HNUM.out k
   have HCU := Lib.hid (cube_any (nt ls k) wr x0 x1)
   have hln := ksTo_length ls k (by rw [HLEN.out]; omega)
   have HO : Hid (wr.ownsRow w1.heap.size 72 1 (.slice A k c) (ksTo ls k).length (nums .u32 (ksTo ls k))) := by rw [hln]; exact Lib.hid hown
   have HSU : Hid (∀ y, y = cubeM (nt ls k) → (ksTo ls k ++ [y]) = ksTo ls (k + 1)) := Lib.hid fun y hy => by rw [hy, ksTo_succ ls k (by rw [HLEN.out]; omega)]
   have hl64 : Hid (((ksTo ls k).length + 1) * 4 ≤ 140737488355328) := Lib.hid (by rw [hln]; omega)
   have HLK := Lib.hid (ksTo_length ls (k + 1) (by rw [HLEN.out]; omega))
   have HBl := Lib.hid hBl
   clear hown hln hc hBl
   generalize nt ls k = x at *
   generalize cubeM x = y at *
   generalize ksTo ls k = zs at *
   go_wp2_with (first
    | (go_at_call 42; with_reducible refine (HCU.out).mono ?_; rintro e w2 ⟨rfl, hb⟩; have HB2 := Lib.hid hb; have hn2 := Below.trans HBl.out (Below.mono hb HBl.out.size); have HN2 := Lib.hid hn2; clear hb hn2)
    | (at_builtin; refine print_append_num (w0 := w1) w1.heap.size rfl _ _ 50 72 .u32 4 rfl Tryd.underlying50 info_u32 (by decide) (.slice A k c) zs y rfl rfl (own_keep HO.out HB2.out) (HN2.out) HN2.out.size hl64.out ?_; intro v1 w4 hown hB1 hg hat; rw [HSU.out y rfl, HLK.out] at hown; have HO4 := Lib.hid hown; have HB4 := Lib.hid hB1; obtain ⟨A4, c4, rfl⟩ := own_slice hown; clear hown hB1 hg hat))
   exact ⟨⟨k + 1, by omega, by go_num, HO4.out, HB4.out⟩, by simp [intOf]; omega⟩
  ·obtain rfl : k = 64 := by omega
   have HO := Lib.hid hown
   have HBl := Lib.hid hBl
   clear hown hBl hlt hk
   go_wp2
   go_ret
   rw [← HALL.out]
   exact ⟨_, rfl, own_weaken HO.out HB1.out.size, ((Ch.of_below (S := fun _ => False) HB1.out).trans (Ch.of_below HBl.out)).below⟩
end Go.Proofs.YtejhjlfakfaegaaDoor
