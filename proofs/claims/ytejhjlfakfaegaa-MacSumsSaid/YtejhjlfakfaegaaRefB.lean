/- The reference's Turn and block. -/
import Derived.Test.YtejhjlfakfaegaaApp
set_option linter.unusedSimpArgs false
set_option linter.unusedVariables false
namespace Go.Proofs.Ytejhjlfakfaegaa
open Go.RowKit Go.Proofs.YtejhjlfakfaegaaW.PrintWords

set_option maxHeartbeats 400000 in
theorem rturn_any (x : Int) (n : Nat) (w : World) (h0 : 0 < n) (h : n < 32) (hx : W32 x) :
    Calls Try.prog 38 #[.int .u32 x, .int .u64 n] w fun e w' => e = .returned (.int .u32 (rot n x)) ∧ w' = w := by
  obtain ⟨hx0, hx1⟩ := hx
  have e1 : (32 - (n : Int)).toNat = 32 - n := by omega
  have e2 : (32 - (n : Int)) % 18446744073709551616 = 32 - (n : Int) := by omega
  go_enter Try.func38, Try.ntmps38
  go_wp2
  go_ret
  refine ⟨?_, rfl⟩
  show Ending.returned (Value.int .u32 (bits BinOp.or IntKind.u32 (x / 2 ^ n) _)) = _
  rfl
theorem rturn_lit (x : Int) (n : Int) (w : World) (h0 : 0 < n) (h : n < 32) (hx : W32 x) :
    Calls Try.prog 38 #[.int .u32 x, .int .u64 n] w fun e w' => e = .returned (.int .u32 (rot n.toNat x)) ∧ w' = w := by
  obtain ⟨k, rfl⟩ := Int.eq_ofNat_of_zero_le (show 0 ≤ n by omega)
  exact rturn_any x k w (by omega) (by omega) hx

theorem or4 (a b c d : Int) (ha : 0 ≤ a ∧ a < 256) (hb : 0 ≤ b ∧ b < 256) (hc : 0 ≤ c ∧ c < 256) (hd : 0 ≤ d ∧ d < 256) :
    bits .or .u32 (bits .or .u32 (bits .or .u32 (a * 16777216) (b * 65536)) (c * 256)) d = ((a * 256 + b) * 256 + c) * 256 + d := by
  obtain ⟨a, rfl⟩ := Int.eq_ofNat_of_zero_le ha.1
  obtain ⟨b, rfl⟩ := Int.eq_ofNat_of_zero_le hb.1
  obtain ⟨c, rfl⟩ := Int.eq_ofNat_of_zero_le hc.1
  obtain ⟨d, rfl⟩ := Int.eq_ofNat_of_zero_le hd.1
  rw [show (a : Int) * 16777216 = ((a * 16777216 : Nat) : Int) by omega, show (b : Int) * 65536 = ((b * 65536 : Nat) : Int) by omega, show (c : Int) * 256 = ((c * 256 : Nat) : Int) by omega]
  rw [u32_or_nat _ _ (by omega) (by omega), nat_join 24 _ _ (by omega) (by omega), u32_or_nat _ _ (by omega) (by omega), nat_join 16 _ _ (by omega) (by omega), u32_or_nat _ _ (by omega) (by omega), nat_join 8 _ _ (by omega) (by omega)]
  omega
theorem be4_nt (l : List Int) (k : Nat) (h : 4 * k + 4 ≤ l.length) : be ((l.drop (4 * k)).take 4) = ((nt l (4 * k) * 256 + nt l (4 * k + 1)) * 256 + nt l (4 * k + 2)) * 256 + nt l (4 * k + 3) := by
  have e : (l.drop (4 * k)).take 4 = [nt l (4 * k), nt l (4 * k + 1), nt l (4 * k + 2), nt l (4 * k + 3)] := by
    apply List.ext_getElem?
    intro i
    rw [List.getElem?_take, List.getElem?_drop]
    rcases i with _|_|_|_|i
    · simp [nt_get (show 4 * k < l.length by omega)]
    · simp [nt_get (show 4 * k + 1 < l.length by omega)]
    · simp [nt_get (show 4 * k + 2 < l.length by omega)]
    · simp [nt_get (show 4 * k + 3 < l.length by omega)]
    · simp; omega
  rw [e]
  simp [be]
theorem idx4 (k i : Nat) (h : 4 * k + i < 64) : IntKind.i64.wrap (4 * (k : Int) + i) = 4 * (k : Int) + i ∧ 0 ≤ 4 * (k : Int) + i ∧ 4 * (k : Int) + i < 64 ∧ (4 * (k : Int) + i).toNat = 4 * k + i := by
  refine ⟨IntWalk.i64_in _ (by omega), by omega, by omega, by omega⟩
theorem one_reads {W : World} {g : Nat} {k : IntKind} {x : Int} {T : TypeId} (h : W.heap[g]? = some (.cells #[.int k x] T (0, 0))) : ReadsInt W k (some ⟨g, 0, none⟩) 1 [x] := by
  refine ⟨rfl, by omega, fun _ => ⟨_, rfl, fun j hj => ?_⟩⟩
  obtain rfl : j = 0 := by omega
  rw [add_plain, blk_cell h]
  rfl
theorem wrap32 {x : Int} (h : W32 x) : IntKind.u32.wrap x = x := by rw [IntKind.wrap_u32]; obtain ⟨h0, h1⟩ := h; omega
theorem q_drew {w : World} {base : Nat} {e : TypeId} {size n : Nat} {v : Value} {xs : List Value} (h : QRow w base e size v n xs) : QRow w.drew base e size v n xs := q_move h fun _ _ => rfl
theorem q_alloc {w : World} {base : Nat} {e : TypeId} {size n : Nat} {v : Value} {xs : List Value} (h : QRow w base e size v n xs) (o : Obj) : QRow (w.alloc o) base e size v n xs := q_move h fun k hk => heap_alloc_old w o (q_lt h k hk)
theorem q_at {w : World} {base : Nat} {e : TypeId} {k : IntKind} {ad : Addr} {n m c : Nat} {xs : List Int} (h : QRow w base e 1 (.slice (some ad) n c) m (nums k xs)) (hn : m = n) {j : Nat} (hj : j < n) : w.cell? (ad.add j) = some (.int k (nt xs j)) := by
  subst hn
  obtain ⟨_, e1, h1⟩ := (q_reads h).2.2 (by omega)
  injection e1 with e1
  subst e1
  exact h1 j hj
theorem info_u32 : (Try.prog.info? 46).map (fun i => (i.zero, i.size, i.bytes)) = some (some (.int .u32 0), 1, 4) := by kernel_rfl
/-- the words so far, both ways of making them in one count -/
def wAll (b : List Int) (k : Nat) : List Int := if k ≤ 16 then w16 b k else wTo b k
theorem wAll_length (b : List Int) (k : Nat) : (wAll b k).length = k := by
  unfold wAll
  split
  · exact w16_length b k
  · exact wTo_length b k (by omega)
theorem wAll_lo (b : List Int) (k : Nat) (h : k < 16) : wAll b (k + 1) = wAll b k ++ [be ((b.drop (4 * k)).take 4)] := by
  unfold wAll
  rw [if_pos (by omega), if_pos (by omega), w16_succ]
theorem wAll_hi (b : List Int) (k : Nat) (h : 16 ≤ k) : wAll b (k + 1) = wAll b k ++ [wNext (wAll b k)] := by
  have e : wAll b k = wTo b k := by
    unfold wAll
    split
    · obtain rfl : k = 16 := by omega
      rfl
    · rfl
  rw [e]
  unfold wAll
  rw [if_neg (by omega), wTo_succ b k h]
theorem wAll_w (b : List Int) (hb : Bs b) (h : b.length = 64) (k : Nat) : ∀ x ∈ wAll b k, W32 x := by
  unfold wAll
  split
  · exact w16_w b hb h k (by omega)
  · exact wTo_w b hb h k
theorem own_nt {w : World} {base : Nat} {e : TypeId} {k : IntKind} {A : Option Addr} {n c : Nat} {xs : List Int} (h : w.ownsRow base e 1 (.slice A n c) n (nums k xs)) (hn : 0 < n) : ∃ g, A = some ⟨g, 0, none⟩ ∧ ∀ j, j < n → w.cell? ⟨g, j, none⟩ = some (.int k (nt xs j)) := by
  obtain ⟨A', c', he, hr⟩ := own_reads h
  injection he with he
  subst he
  obtain ⟨g, cap, hf, _, _⟩ := h.form hn
  injection hf with hf
  subst hf
  obtain ⟨ad, ha, hc⟩ := hr.2.2 hn
  injection ha with ha
  subst ha
  refine ⟨g, rfl, fun j hj => ?_⟩
  have := hc j hj
  rwa [add_plain] at this
set_option maxHeartbeats 4000000 in
set_option maxRecDepth 100000 in
theorem rblock_any (Ah Ab Ak : Option Addr) (ch cb ck : Nat) (hs l ks : List Int) (w : World)
    (hh : ReadsInt w .u32 Ah 8 hs) (hb : ReadsInt w .u8 Ab 64 l) (hk : ReadsInt w .u32 Ak 64 ks) (hw : ∀ x ∈ hs, W32 x) (hl : Bs l) (hkw : ∀ x ∈ ks, W32 x) :
    Calls Try.prog 24 #[.slice Ah 8 ch, .slice Ab 64 cb, .slice Ak 64 ck] w fun e w' =>
      ∃ v, e = .returned v ∧ w'.ownsRow w.heap.size 46 1 v 8 (nums .u32 (blk ks hs l)) ∧ Below w.heap.size w w' := by
  obtain ⟨ah, rfl, hch⟩ := hh.2.2 (by omega)
  obtain ⟨ab', rfl, hcb⟩ := hb.2.2 (by omega)
  obtain ⟨ak, rfl, hck⟩ := hk.2.2 (by omega)
  have HH := Lib.hid hch
  have HB := Lib.hid hcb
  have HK := Lib.hid hck
  have L8 := Lib.hid hh.1
  have L64 := Lib.hid hb.1
  have K64 := Lib.hid hk.1
  clear hh hb hk hch hcb hck
  go_enter Try.func24, Try.ntmps24
  go_wp2
  go_loopw [7, 8, 9, 10] (fun v i _ _ wr => ∃ k : Nat, k ≤ 64 ∧ i = .int .i64 k ∧ QRow wr w.heap.size 46 1 v (wAll l k).length (nums .u32 (wAll l k)) ∧ Ch (fun _ => False) w wr) (fun _ i _ _ _ => (64 - intOf i).toNat)
  case atStart => exact ⟨0, by omega, rfl, q_of_own (World.ownsRow_made w _ 0 (Nat.le_refl _) (by unfold maxLen; omega) rfl), (Ch.refl _ _).alloc _⟩
  case round =>
    obtain ⟨k, hk, rfl, hown, hB⟩ := hrel
    by_cases hlt : k < 64
    · have hln := wAll_length l k
      rw [hln] at hown
      obtain ⟨A, c, rfl, hkc⟩ := q_slice hown
      have hl64 : Hid (((wAll l k).length + 1) * 4 ≤ 140737488355328) := by rw [hln]; exact Lib.hid (by omega)
      have HO : Hid (QRow wr w.heap.size 46 1 (.slice A k c) (wAll l k).length (nums .u32 (wAll l k))) := by rw [hln]; exact Lib.hid hown
      have HLN : Hid (∀ x, (wAll l k ++ [x]).length = k + 1) := fun x => by simp [hln]
      by_cases h16 : k < 16
      · --[R1
        have q := hl.at
        have c0 := HB.out (4 * k) (by omega)
        have c1 := HB.out (4 * k + 1) (by omega)
        have c2 := HB.out (4 * k + 2) (by omega)
        have c3 := HB.out (4 * k + 3) (by omega)
        change w.cell? _ = some (.int .u8 (nt l (4 * k))) at c0
        change w.cell? ⟨ab'.block, ab'.off + (4 * k + 1), none⟩ = some (.int .u8 (nt l (4 * k + 1))) at c1
        change w.cell? ⟨ab'.block, ab'.off + (4 * k + 2), none⟩ = some (.int .u8 (nt l (4 * k + 2))) at c2
        change w.cell? ⟨ab'.block, ab'.off + (4 * k + 3), none⟩ = some (.int .u8 (nt l (4 * k + 3))) at c3
        have hor := or4 _ _ _ _ (q (4 * k)) (q (4 * k + 1)) (q (4 * k + 2)) (q (4 * k + 3))
        rw [← be4_nt l k (by rw [L64.out]; omega)] at hor
        obtain ⟨a0, a1⟩ := q (4 * k)
        obtain ⟨b0, b1⟩ := q (4 * k + 1)
        obtain ⟨d0, d1⟩ := q (4 * k + 2)
        obtain ⟨e0, e1⟩ := q (4 * k + 3)
        have hsuc := Lib.hid (wAll_lo l k h16)
        have HOR := Lib.hid hor
        have HBW := Lib.hid hB
        obtain ⟨i0, i1, i2, i3⟩ := idx4 k 0 (by omega)
        obtain ⟨j0, j1, j2, j3⟩ := idx4 k 1 (by omega)
        obtain ⟨m0, m1, m2, m3⟩ := idx4 k 2 (by omega)
        obtain ⟨n0, n1, n2, n3⟩ := idx4 k 3 (by omega)
        simp only [Int.natCast_zero, Int.add_zero, Nat.add_zero] at i0 i1 i2 i3
        change IntKind.i64.wrap (4 * (k : Int) + 1) = 4 * (k : Int) + 1 at j0
        change IntKind.i64.wrap (4 * (k : Int) + 2) = 4 * (k : Int) + 2 at m0
        change IntKind.i64.wrap (4 * (k : Int) + 3) = 4 * (k : Int) + 3 at n0
        change 0 ≤ 4 * (k : Int) + 1 at j1
        change 0 ≤ 4 * (k : Int) + 2 at m1
        change 0 ≤ 4 * (k : Int) + 3 at n1
        change 4 * (k : Int) + 1 < 64 at j2
        change 4 * (k : Int) + 2 < 64 at m2
        change 4 * (k : Int) + 3 < 64 at n2
        change (4 * (k : Int) + 1).toNat = 4 * k + 1 at j3
        change (4 * (k : Int) + 2).toNat = 4 * k + 2 at m3
        change (4 * (k : Int) + 3).toNat = 4 * k + 3 at n3
        generalize nt l (4 * k) = x0 at *
        generalize nt l (4 * k + 1) = x1 at *
        generalize nt l (4 * k + 2) = x2 at *
        generalize nt l (4 * k + 3) = x3 at *
        have r0 : IntKind.u32.wrap x0 = x0 := wrap32 ⟨by omega, by omega⟩
        have r1 : IntKind.u32.wrap x1 = x1 := wrap32 ⟨by omega, by omega⟩
        have r2 : IntKind.u32.wrap x2 = x2 := wrap32 ⟨by omega, by omega⟩
        have r3 : IntKind.u32.wrap x3 = x3 := wrap32 ⟨by omega, by omega⟩
        have s0 : IntKind.u32.wrap (x0 * 16777216) = x0 * 16777216 := wrap32 ⟨by omega, by omega⟩
        have s1 : IntKind.u32.wrap (x1 * 65536) = x1 * 65536 := wrap32 ⟨by omega, by omega⟩
        have s2 : IntKind.u32.wrap (x2 * 256) = x2 * 256 := wrap32 ⟨by omega, by omega⟩
        generalize be (List.take 4 (List.drop (4 * k) l)) = bw at *
        generalize wAll l k = ys at *
        clear hown hB q hln
        have HMK : Hid (∀ w', Ch (fun _ => False) w w' → Ch (fun _ => False) w w' ∧ w'.cell? (ab'.add (4 * k)) = some (.int .u8 x0) ∧ w'.cell? ⟨ab'.block, ab'.off + (4 * k + 1), none⟩ = some (.int .u8 x1) ∧ w'.cell? ⟨ab'.block, ab'.off + (4 * k + 2), none⟩ = some (.int .u8 x2) ∧ w'.cell? ⟨ab'.block, ab'.off + (4 * k + 3), none⟩ = some (.int .u8 x3)) := fun w' hC =>
          ⟨hC, hC.cell c0 (fun h => h), hC.cell c1 (fun h => h), hC.cell c2 (fun h => h), hC.cell c3 (fun h => h)⟩
        clear c0 c1 c2 c3
        go_wp2
        go_region_held3 (fun w' => Ch (fun _ => False) w w' ∧ w'.cell? (ab'.add (4 * k)) = some (.int .u8 x0) ∧ w'.cell? ⟨ab'.block, ab'.off + (4 * k + 1), none⟩ = some (.int .u8 x1) ∧ w'.cell? ⟨ab'.block, ab'.off + (4 * k + 2), none⟩ = some (.int .u8 x2) ∧ w'.cell? ⟨ab'.block, ab'.off + (4 * k + 3), none⟩ = some (.int .u8 x3))
          ((refine HMK.out _ ?_; (repeat (first | (with_reducible refine Ch.drew ?_) | (with_reducible refine Ch.alloc ?_ _))); first | (with_reducible exact HBW.out) | (with_reducible exact And.left (by assumption)) | (with_reducible exact hC1)))
          ((refine step_append_q w.heap.size (by rfl) _ _ 27 46 .u32 4 (by rfl) Try.underlying27 info_u32 (by decide) (.slice A k c) ys [bw] (some ⟨wr.heap.size, 0, none⟩) 1 1 (by rfl) (by rfl) (q_move HO.out fun k hk => heap_alloc_old wr _ (q_lt HO.out k hk)) (one_reads (show (World.drew (World.alloc wr _)).heap[wr.heap.size]? = some _ from heap_alloc_new wr _)) (Ch.size (S := fun _ => False) (And.left (by assumption))) hl64.out ?_; intro v1 w1 hq hg hat; have hC1 : Ch (fun _ => False) w w1 := Ch.grown (And.left (by assumption)) hg (fun k hk => .inr (q_typed HO.out k hk).1); rw [HLN.out] at hq; obtain ⟨A1, k1, rfl, hk1⟩ := q_slice hq; have HQ := Lib.hid hq; clear hg hq hat))
        go_wp2_with fail
        go_roundw
        case rel =>
          refine ⟨k + 1, by omega, by go_num, ?_, by assumption⟩
          rw [hsuc.out, HLN.out]
          exact HQ.out
        case measure => simp [intOf]; omega
        --R1]
      · --[R2
        obtain ⟨ad, rfl, hcs⟩ := (q_reads hown).2.2 (by omega)
        have hsuc := Lib.hid (wAll_hi l k (by omega))
        have hws := wAll_w l hl L64.out k
        have hwn := wNext_eq (wAll l k) k hln
        generalize wNext (wAll l k) = bw at *
        generalize wAll l k = ys at *
        have W15 := nt_w hws (k - 15)
        have W2 := nt_w hws (k - 2)
        have W16 := nt_w hws (k - 16)
        have W7 := nt_w hws (k - 7)
        have c15 := hcs (k - 15) (by omega)
        have c2 := hcs (k - 2) (by omega)
        change wr.cell? _ = some (.int .u32 (nt ys (k - 15))) at c15
        change wr.cell? _ = some (.int .u32 (nt ys (k - 2))) at c2
        have HBW := Lib.hid hB
        have HMK : Hid (∀ w', Ch (fun _ => False) w w' → QRow w' w.heap.size 46 1 (.slice (some ad) k c) ys.length (nums .u32 ys) → Ch (fun _ => False) w w' ∧ QRow w' w.heap.size 46 1 (.slice (some ad) k c) ys.length (nums .u32 ys) ∧ w'.cell? (ad.add (k - 16)) = some (.int .u32 (nt ys (k - 16))) ∧ w'.cell? (ad.add (k - 7)) = some (.int .u32 (nt ys (k - 7)))) := fun w' hC hq =>
          ⟨hC, hq, q_at hq hln (by omega), q_at hq hln (by omega)⟩
        generalize nt ys (k - 15) = x15 at *
        generalize nt ys (k - 2) = x2 at *
        generalize nt ys (k - 16) = x16 at *
        generalize nt ys (k - 7) = x7 at *
        have HWN := Lib.hid hwn
        obtain ⟨a0, a1⟩ := W15
        obtain ⟨b0, b1⟩ := W2
        obtain ⟨d0, d1⟩ := W16
        obtain ⟨e0, e1⟩ := W7
        have f7 : (7 : Int) ≤ k := by omega
        have f2 : (2 : Int) ≤ k := by omega
        have f15 : (15 : Int) ≤ k := by omega
        have f16 : (16 : Int) ≤ k := by omega
        have i0 : IntKind.i64.wrap ((k : Int) - 15) = (k : Int) - 15 := IntWalk.i64_in _ (by omega)
        have i1 : 0 ≤ (k : Int) - 15 := by omega
        have i2 : (k : Int) - 15 < k := by omega
        have i3 : ((k : Int) - 15).toNat = k - 15 := by omega
        have j0 : IntKind.i64.wrap ((k : Int) - 2) = (k : Int) - 2 := IntWalk.i64_in _ (by omega)
        have j1 : 0 ≤ (k : Int) - 2 := by omega
        have j2 : (k : Int) - 2 < k := by omega
        have j3 : ((k : Int) - 2).toNat = k - 2 := by omega
        have m0 : IntKind.i64.wrap ((k : Int) - 16) = (k : Int) - 16 := IntWalk.i64_in _ (by omega)
        have m1 : 0 ≤ (k : Int) - 16 := by omega
        have m2 : (k : Int) - 16 < k := by omega
        have m3 : ((k : Int) - 16).toNat = k - 16 := by omega
        have n0 : IntKind.i64.wrap ((k : Int) - 7) = (k : Int) - 7 := IntWalk.i64_in _ (by omega)
        have n1 : 0 ≤ (k : Int) - 7 := by omega
        have n2 : (k : Int) - 7 < k := by omega
        have n3 : ((k : Int) - 7).toNat = k - 7 := by omega
        clear hown hB hln hws hwn hcs
        have HX := Lib.hid (show W32 x15 from ⟨a0, a1⟩)
        have HY := Lib.hid (show W32 x2 from ⟨b0, b1⟩)
        go_wp2
        clear c15 c2
        go_region_held3 (fun w' => Ch (fun _ => False) w w' ∧ QRow w' w.heap.size 46 1 (.slice (some ad) k c) ys.length (nums .u32 ys) ∧ w'.cell? (ad.add (k - 16)) = some (.int .u32 x16) ∧ w'.cell? (ad.add (k - 7)) = some (.int .u32 x7))
          ((refine HMK.out _ ?_ ?_; ((repeat (first | (with_reducible refine Ch.drew ?_) | (with_reducible refine Ch.alloc ?_ _))); first | (with_reducible exact HBW.out) | (with_reducible exact And.left (by assumption)) | (with_reducible exact hC1)); ((repeat (first | (with_reducible refine q_drew ?_) | (with_reducible refine q_alloc ?_ _))); first | (with_reducible exact HO.out) | (with_reducible exact And.left (And.right (by assumption))) | (with_reducible exact hold))))
          ((first | (go_at_call 38; refine (rturn_lit _ _ _ (by omega) (by omega) (by first | exact HX.out | exact HY.out)).mono ?_; rintro e w' ⟨rfl, rfl⟩) | (refine step_append_q2 w.heap.size (by rfl) _ _ 27 46 .u32 4 (by rfl) Try.underlying27 info_u32 (by decide) (.slice (some ad) k c) ys [_] (some ⟨wr.heap.size, 0, none⟩) 1 1 (by rfl) (by rfl) (And.left (And.right (by assumption))) (one_reads (show (World.drew (World.alloc wr _)).heap[wr.heap.size]? = some _ from heap_alloc_new wr _)) (Ch.size (S := fun _ => False) (And.left (by assumption))) hl64.out ?_; intro v1 w1 hq hg hat hold; have hC1 : Ch (fun _ => False) w w1 := Ch.grown (And.left (by assumption)) hg (fun k hk => .inr (q_typed HO.out k hk).1); rw [HLN.out] at hq; obtain ⟨A1, k1, rfl, hk1⟩ := q_slice hq; have HQ := Lib.hid hq; clear hg hq hat)))
        all_goals (
          go_wp2_with fail
          go_roundw
          case rel =>
            refine ⟨k + 1, by omega, by go_num, ?_, hC1⟩
            rw [hsuc.out, HLN.out]
            refine Eq.mp ?_ HQ.out
            rw [HWN.out]
            congr 5
            simp only [IntKind.wrap_u32, sg0, sg1, xr]
            omega
          case measure => simp [intOf]; omega)
        --R2]
    · --[R3
      obtain rfl : k = 64 := by omega
      have hln := wAll_length l 64
      have hW : wAll l 64 = words l := rfl
      have hww := wAll_w l hl L64.out 64
      rw [hln] at hown
      obtain ⟨A, c, rfl, hkc⟩ := q_slice hown
      obtain ⟨aw, rfl, hcs⟩ := (q_reads hown).2.2 (by omega)
      rw [hW] at hcs hww
      have HWC := Lib.hid hcs
      have HWW := Lib.hid hww
      have HBW := Lib.hid hB
      have HBLK : Hid (blk ks hs l = addAll hs (rounds ks (words l) 64 hs)) := Lib.hid rfl
      have HWS := Lib.hid hw
      generalize words l = ws at *
      have d0 := hB.cell (HH.out 0 (by omega)) (fun h => h)
      have d1 := hB.cell (HH.out 1 (by omega)) (fun h => h)
      have d2 := hB.cell (HH.out 2 (by omega)) (fun h => h)
      have d3 := hB.cell (HH.out 3 (by omega)) (fun h => h)
      have d4 := hB.cell (HH.out 4 (by omega)) (fun h => h)
      have d5 := hB.cell (HH.out 5 (by omega)) (fun h => h)
      have d6 := hB.cell (HH.out 6 (by omega)) (fun h => h)
      have d7 := hB.cell (HH.out 7 (by omega)) (fun h => h)
      obtain ⟨a, b, c', d, e, f, g, i, rfl⟩ := list8 L8.out
      change wr.cell? ah = some (.int .u32 a) at d0
      change wr.cell? ⟨ah.block, ah.off + 1, none⟩ = some (.int .u32 b) at d1
      change wr.cell? ⟨ah.block, ah.off + 2, none⟩ = some (.int .u32 c') at d2
      change wr.cell? ⟨ah.block, ah.off + 3, none⟩ = some (.int .u32 d) at d3
      change wr.cell? ⟨ah.block, ah.off + 4, none⟩ = some (.int .u32 e) at d4
      change wr.cell? ⟨ah.block, ah.off + 5, none⟩ = some (.int .u32 f) at d5
      change wr.cell? ⟨ah.block, ah.off + 6, none⟩ = some (.int .u32 g) at d6
      change wr.cell? ⟨ah.block, ah.off + 7, none⟩ = some (.int .u32 i) at d7
      clear hlt hk hown hB hln hW hww hcs hw
      go_wp2
      go_quiet (fail)
      go_wp2
      go_quiet (fail)
      go_wp2
      obtain ⟨w5, rfl⟩ : ∃ w5 : World, w5 = wr := ⟨_, rfl⟩
      go_loopw [11, 12, 13, 14, 15, 16, 17, 18, 19, 20, 21] (fun t11 t12 t13 t14 t15 t16 t17 t18 t19 _ _ w2 => ∃ (k : Nat) (v0 v1 v2 v3 v4 v5 v6 v7 : Int), k ≤ 64 ∧ t19 = .int .i64 k ∧ t11 = .int .u32 v0 ∧ t12 = .int .u32 v1 ∧ t13 = .int .u32 v2 ∧ t14 = .int .u32 v3 ∧ t15 = .int .u32 v4 ∧ t16 = .int .u32 v5 ∧ t17 = .int .u32 v6 ∧ t18 = .int .u32 v7 ∧ rounds ks ws k [a, b, c', d, e, f, g, i] = [v0, v1, v2, v3, v4, v5, v6, v7] ∧ Ch (fun _ => False) w5 w2) (fun _ _ _ _ _ _ _ _ k _ _ _ => (64 - intOf k).toNat)
      case atStart => exact ⟨0, a, b, c', d, e, f, g, i, by omega, rfl, rfl, rfl, rfl, rfl, rfl, rfl, rfl, rfl, rfl, by first | exact Ch.refl _ _ | exact Ch.drewN (Ch.refl _ _) _ | exact Ch.drewN (Ch.drewN (Ch.refl _ _) _) _⟩
      case round =>
        obtain ⟨k, v0, v1, v2, v3, v4, v5, v6, v7, hk, rfl, rfl, rfl, rfl, rfl, rfl, rfl, rfl, rfl, hR, hC⟩ := hrel
        by_cases hlt : k < 64
        · --[R4
          have ck := (HBW.out.trans hC).cell (HK.out k hlt) (fun h => h)
          have cw := hC.cell (HWC.out k hlt) (fun h => h)
          obtain ⟨k0, k1⟩ := nt_w hkw k
          obtain ⟨m0, m1⟩ := nt_w HWW.out k
          have hws := rounds_w ks ws [a, b, c', d, e, f, g, i] rfl HWS.out k
          have hS : rounds ks ws (k + 1) [a, b, c', d, e, f, g, i] = rnd (nt ks k) (nt ws k) [v0, v1, v2, v3, v4, v5, v6, v7] := by rw [← hR]; rfl
          rw [hR] at hws
          change wr.cell? _ = some (.int .u32 (nt ks k)) at ck
          change wr.cell? _ = some (.int .u32 (nt ws k)) at cw
          have HS := Lib.hid hS
          have HC := Lib.hid hC
          have WA : Hid (W32 v0) := hws v0 (by simp)
          have WE : Hid (W32 v4) := hws v4 (by simp)
          have W1 : Hid (W32 v1) := hws v1 (by simp)
          have W2 : Hid (W32 v2) := hws v2 (by simp)
          have W3 : Hid (W32 v3) := hws v3 (by simp)
          have W5 : Hid (W32 v5) := hws v5 (by simp)
          have W6 : Hid (W32 v6) := hws v6 (by simp)
          have W7 : Hid (W32 v7) := hws v7 (by simp)
          clear hR hC hws hS d0 d1 d2 d3 d4 d5 d6 d7
          generalize nt ks k = kk at *
          generalize nt ws k = ww at *
          go_wp2
          go_quiet ((go_at_call 38; refine Calls.quiet_of ((rturn_lit _ _ _ (by omega) (by omega) (by first | exact WE.out | exact WA.out)).mono (fun _ _ h => ⟨h.1, 0, h.2⟩))))
          go_wp2_with (go_at_call 38; refine (rturn_lit _ _ _ (by omega) (by omega) (by first | exact WE.out | exact WA.out)).mono ?_; rintro e w' ⟨rfl, rfl⟩)
          refine ⟨⟨_, _, _, _, _, _, _, _, _, ⟨k + 1, by omega, rfl, _, rfl, _, rfl, _, rfl, _, rfl, _, rfl, _, rfl, _, rfl, _, rfl, ?_, HC.out.drewN _⟩, rfl, rfl, rfl, rfl, rfl, rfl, rfl, rfl, rfl⟩, by simp [intOf]; omega⟩
          rw [HS.out]
          simp only [rnd]
          rw [one_eq, two_eq]
          rfl
          --R4]
        · --[R5
          obtain rfl : k = 64 := by omega
          have HB2 : Hid (blk ks [a, b, c', d, e, f, g, i] l = [ad a v0, ad b v1, ad c' v2, ad d v3, ad e v4, ad f v5, ad g v6, ad i v7]) := by rw [HBLK.out, hR]; exact Lib.hid rfl
          have d0 := hC.cell d0 (fun h => h)
          have d1 := hC.cell d1 (fun h => h)
          have d2 := hC.cell d2 (fun h => h)
          have d3 := hC.cell d3 (fun h => h)
          have d4 := hC.cell d4 (fun h => h)
          have d5 := hC.cell d5 (fun h => h)
          have d6 := hC.cell d6 (fun h => h)
          have d7 := hC.cell d7 (fun h => h)
          have HC := Lib.hid (HBW.out.trans hC)
          clear hR hC hlt hk HBLK
          have HSZ := Lib.hid HC.out.size
          go_wp2
          refine wp_region_quiet_tail 40 (by kernel_rfl) (by kernel_rfl) ?_
          simp only [List.take_succ_cons, List.take_zero, List.drop_succ_cons, List.drop_zero]
          repeat (go_big_quiet_step (fail))
          refine wpQuiet_nil ?_
          intro wq hw'
          have HCq : Hid (Ch (fun _ => False) w wq) := by obtain ⟨nd, hw''⟩ := hw'; rw [hw'']; exact HC.out.drewN _
          clear hw' HC
          go_wp2
          go_ret
          refine ⟨_, rfl, ?_, (HCq.out.alloc _).below⟩
          rw [HB2.out]
          exact own_lit wq w.heap.size 46 .u32 [ad a v0, ad b v1, ad c' v2, ad d v3, ad e v4, ad f v5, ad g v6, ad i v7] HCq.out.size (by simp)
          --R5]
      --R3]
end Go.Proofs.Ytejhjlfakfaegaa
