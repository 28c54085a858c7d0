/- aes' double, product, box: what each answers. aes' New: the bytes of a key's rounds. aes' mix: a column turned. aes' Block: what a block becomes. aes' Stream: what bytes become. aes: small words on New, loads and blocks. aes: what a stream becomes, sixteen bytes on. -/
import Derived.Test.YtejhjlfakfaegaaDoorMa
import Derived.Great.Walk
import Derived.Test.YtejhjlfakfaegaaDoorWMore
import Derived.Deep.DeepCutAuto
import Derived.Deep.CutBlock
import Derived.Deep.RegionHeld3
set_option linter.unusedSimpArgs false
set_option linter.unusedVariables false
namespace Go.Proofs.YtejhjlfakfaegaaDoor
open Go.RowKit Go.Proofs.YtejhjlfakfaegaaDoorW.PrintWords

def x8 (a b : Int) : Int := bits .xor .u8 a b
/-- is a byte -/
def B8 (x : Int) : Prop := 0 ≤ x ∧ x < 256
theorem bits_b (op : BinOp) (a b : Int) : B8 (bits op .u8 a b) := by unfold bits; rw [IntKind.wrap_u8]; unfold B8; omega
theorem x8_b (a b : Int) : B8 (x8 a b) := bits_b _ _ _
def dbl (b : Int) : Int := if 128 ≤ b then x8 (b * 2 % 256) 27 else b * 2
theorem dbl_b (b : Int) (h : B8 b) : B8 (dbl b) := by
 unfold dbl
 split
 ·exact x8_b _ _
 ·unfold B8 at *; omega
set_option maxHeartbeats 1000000 in
theorem double_any (b : Int) (w : World) (hb : B8 b) :
  Calls Tryd.prog 39 #[.int .u8 b] w fun e w' => e = .returned (.int .u8 (dbl b)) ∧ w = w' := by
 obtain ⟨h0, h1⟩ := hb
 by_cases h : 128 ≤ b
 ·have hd : dbl b = bits .xor .u8 (b * 2 % 256) 27 := by unfold dbl x8; rw [if_pos h]
  have HD := Lib.hid hd
  clear hd
  go_enter Tryd.func39, Tryd.ntmps39
  go_wp2
  go_ret
  rw [HD.out]
  exact ⟨rfl, rfl⟩
 ·have hd : dbl b = b * 2 := by unfold dbl; rw [if_neg h]
  have HD := Lib.hid hd
  clear hd
  go_enter Tryd.func39, Tryd.ntmps39
  go_wp2
  go_ret
  rw [HD.out]
  exact ⟨rfl, rfl⟩
/-- the product: what is left of it, by rounds -/
def prd : Nat → Int → Int → Int → Int
 | 0, _, _, p => p
 | n + 1, a, b, p => prd n (dbl a) (b / 2) (if b % 2 = 1 then x8 p a else p)
theorem prd_0 : ∀ (n : Nat) (a p : Int), prd n a 0 p = p
 | 0, _, _ => rfl
 | n + 1, a, p => by rw [prd, if_neg (by decide)]; exact prd_0 n _ _
theorem prd_more : ∀ (n : Nat) (a b p : Int), 0 ≤ b → b < 2 ^ n → prd (n + 1) a b p = prd n a b p
 | 0, a, b, p, h0, h => by
  obtain rfl : b = 0 := by simp at h; omega
  rw [prd_0, prd_0]
 | n + 1, a, b, p, h0, h => by
  rw [prd, prd_more n _ _ _ (by omega) (by rw [Int.pow_succ] at h; omega)]
  rfl
theorem and1 (b : Int) (h : B8 b) : bits .and .u8 b 1 = b % 2 := by
 obtain ⟨h0, h1⟩ := h
 obtain ⟨n, rfl⟩ := Int.eq_ofNat_of_zero_le h0
 have : ∀ m : Nat, m < 256 → bits .and .u8 (m : Int) 1 = (m : Int) % 2 := by decide +kernel
 exact this n (by omega)
set_option maxHeartbeats 1000000 in
theorem product_any (a b : Int) (w : World) (ha : B8 a) (hb : B8 b) :
  Calls Tryd.prog 58 #[.int .u8 a, .int .u8 b] w fun e w' => e = .returned (.int .u8 (prd 8 a b 0)) ∧ w = w' := by
 go_enter Tryd.func58, Tryd.ntmps58
 go_wp2
 go_loop [0, 1, 5] (fun u v p => ∃ x y z : Int, B8 x ∧ B8 y ∧ B8 z ∧ u = .int .u8 x ∧ v = .int .u8 y ∧ p = .int .u8 z ∧ prd 8 x y z = prd 8 a b 0) (fun _ v _ => (intOf v).toNat)
 case atStart => exact ⟨a, b, 0, ha, hb, by unfold B8; decide, rfl, rfl, rfl, rfl⟩
 case round =>
  obtain ⟨x, y, z, hx, hy, hz, rfl, rfl, rfl, he⟩ := hrel
  have HE := Lib.hid he
  have HX := Lib.hid hx
  have HY := Lib.hid hy
  have HZ := Lib.hid hz
  obtain ⟨x0, x1⟩ := hx
  obtain ⟨y0, y1⟩ := hy
  obtain ⟨z0, z1⟩ := hz
  clear he
  by_cases hpos : 0 < y
  ·have hst : prd 8 (dbl x) (y / 2) (if y % 2 = 1 then x8 z x else z) = prd 8 x y z := by
    rw [show prd 8 x y z = prd 9 x y z from (prd_more 8 x y z y0 (by simpa using y1)).symm]
    rfl
   have HS := Lib.hid hst
   have ha1 := Lib.hid (and1 y HY.out)
   clear hst
   by_cases hodd : y % 2 = 1
   ·have ht : (bits .and .u8 y 1 == 1) = true := by rw [ha1.out, hodd]; rfl
    have HO := Lib.hid hodd
    clear hodd
    go_wp2_with (go_at_call 39; with_reducible refine (double_any x _ HX.out).mono ?_; rintro e w2 ⟨rfl, rfl⟩)
    refine ⟨⟨dbl x, y / 2, x8 z x, dbl_b _ HX.out, ⟨by omega, by omega⟩, x8_b _ _, rfl, rfl, rfl, ?_⟩, by simp [intOf]; omega⟩
    rw [← HE.out, ← HS.out, if_pos HO.out]
   ·have ht : (bits .and .u8 y 1 == 1) = false := by rw [ha1.out]; exact beq_eq_false_iff_ne.2 hodd
    have HO := Lib.hid hodd
    clear hodd
    go_wp2_with (go_at_call 39; with_reducible refine (double_any x _ HX.out).mono ?_; rintro e w2 ⟨rfl, rfl⟩)
    refine ⟨⟨dbl x, y / 2, z, dbl_b _ HX.out, ⟨by omega, by omega⟩, HZ.out, rfl, rfl, rfl, ?_⟩, by simp [intOf]; omega⟩
    rw [← HE.out, ← HS.out, if_neg HO.out]
  ·obtain rfl : y = 0 := by omega
   go_wp2
   go_ret
   rw [← HE.out, prd_0]
   exact ⟨rfl, rfl⟩

/-! ### The box -/
def qNext (q : Int) : Int :=
 let q := x8 q (q * 2 % 256)
 let q := x8 q (q * 4 % 256)
 let q := x8 q (q * 16 % 256)
 if 128 ≤ q then x8 q 9 else q
def pNext (p : Int) : Int := x8 p (dbl p)
def xTo (q : Int) : Nat → Int
 | 0 => q
 | n + 1 => x8 (xTo q n) (bits .or .u8 (q * 2 ^ (n + 1) % 256) (q / 2 ^ (8 - (n + 1))))
def pAt : Nat → Int
 | 0 => 1
 | k + 1 => pNext (pAt k)
def qAt : Nat → Int
 | 0 => 1
 | k + 1 => qNext (qAt k)
def bxTo : Nat → Array Value
 | 0 => Array.replicate 256 (.int .u8 0)
 | k + 1 => (bxTo k).setIfInBounds (pAt (k + 1)).toNat (.int .u8 (x8 (xTo (qAt (k + 1)) 4) 99))
def bx : Array Value := (bxTo 255).setIfInBounds 0 (.int .u8 99)
theorem pAt_b : ∀ k, B8 (pAt k)
 | 0 => by unfold B8; decide
 | k + 1 => x8_b _ _
theorem qNext_b (q : Int) : B8 (qNext q) := by
 unfold qNext
 dsimp only
 split <;> exact x8_b _ _
theorem qAt_b : ∀ k, B8 (qAt k)
 | 0 => by unfold B8; decide
 | k + 1 => qNext_b _
theorem bxTo_size : ∀ k, (bxTo k).size = 256
 | 0 => by simp [bxTo]
 | k + 1 => by rw [bxTo, Array.size_setIfInBounds, bxTo_size k]
theorem setCell_alloc (w : World) (b : Array Value) (T : TypeId) (i m : Nat) (v : Value) : ((w.alloc (.cells b T)).drewN m).setCell ⟨w.heap.size, i, none⟩ v = (w.alloc (.cells (b.setIfInBounds i v) T)).drewN m := by
 have h : (((w.alloc (.cells b T)).drewN m).setCell ⟨w.heap.size, i, none⟩ v).heap = ((w.alloc (.cells (b.setIfInBounds i v) T)).drewN m).heap := by
  apply Array.ext_getElem?
  intro k
  show ((w.heap.push _).modify _ _)[k]? = (w.heap.push _)[k]?
  rw [Array.getElem?_modify, Array.getElem?_push, Array.getElem?_push]
  by_cases hk : k = w.heap.size
  ·subst hk; simp
  ·rw [if_neg (fun e => hk e.symm), if_neg hk, if_neg hk]
 exact congrArg (fun h => { w.drewN m with heap := h }) h
set_option maxHeartbeats 1000000 in
set_option maxRecDepth 100000 in
theorem box_any (w : World)  :
  Calls Tryd.prog 38 #[] w fun e w' => e = .returned (.pointer (some ⟨w.heap.size, 0, none⟩)) ∧ ∃ m, w' = (w.alloc (.cells bx 80)).drewN m := by
 go_enter Tryd.func38, Tryd.ntmps38
 go_wp2_with (refine Great.wpList_runTo rfl (some 1) rfl (.pointer (some ⟨w.heap.size, 0, none⟩)) (w.alloc (.cells (bxTo 0) 80)) (by kernel_rfl) ?_)
 go_loopw [2, 3, 6] (fun p q i wr => ∃ k m : Nat, k ≤ 255 ∧ i = .int .i64 k ∧ p = .int .u8 (pAt k) ∧ q = .int .u8 (qAt k) ∧ wr = (w.alloc (.cells (bxTo k) 80)).drewN m) (fun _ _ i _ => (255 - intOf i).toNat)
 case atStart => exact ⟨0, 0, by omega, rfl, rfl, rfl, rfl⟩
 case round =>
  obtain ⟨k, m, hk, rfl, rfl, rfl, rfl⟩ := hrel
  by_cases hlt : k < 255
  ·have hpn : pAt (k + 1) = bits .xor .u8 (pAt k) (dbl (pAt k)) := rfl
   have HPN := Lib.hid hpn
   have HBN : Hid (bxTo (k + 1) = (bxTo k).setIfInBounds (pAt (k + 1)).toNat (.int .u8 (bits .xor .u8 (xTo (qAt (k + 1)) 4) 99))) := Lib.hid rfl
   have HPB := Lib.hid (pAt_b k)
   have HQ' := Lib.hid (qAt_b (k + 1))
   have HP' := Lib.hid (pAt_b (k + 1))
   obtain ⟨p0, p1⟩ := pAt_b k
   obtain ⟨q0, q1⟩ := qAt_b k
   have HSZ := Lib.hid (bxTo_size k)
   have HQN : Hid (qAt (k + 1) = if 128 ≤ bits .xor .u8 (bits .xor .u8 (bits .xor .u8 (qAt k) (qAt k * 2 % 256)) (bits .xor .u8 (qAt k) (qAt k * 2 % 256) * 4 % 256)) (bits .xor .u8 (bits .xor .u8 (qAt k) (qAt k * 2 % 256)) (bits .xor .u8 (qAt k) (qAt k * 2 % 256) * 4 % 256) * 16 % 256) then bits .xor .u8 (bits .xor .u8 (bits .xor .u8 (bits .xor .u8 (qAt k) (qAt k * 2 % 256)) (bits .xor .u8 (qAt k) (qAt k * 2 % 256) * 4 % 256)) (bits .xor .u8 (bits .xor .u8 (qAt k) (qAt k * 2 % 256)) (bits .xor .u8 (qAt k) (qAt k * 2 % 256) * 4 % 256) * 16 % 256)) 9 else bits .xor .u8 (bits .xor .u8 (bits .xor .u8 (qAt k) (qAt k * 2 % 256)) (bits .xor .u8 (qAt k) (qAt k * 2 % 256) * 4 % 256)) (bits .xor .u8 (bits .xor .u8 (qAt k) (qAt k * 2 % 256)) (bits .xor .u8 (qAt k) (qAt k * 2 % 256) * 4 % 256) * 16 % 256)) := Lib.hid rfl
   clear hpn
   generalize hgp : pAt (k + 1) = p' at *
   generalize hgq : qAt (k + 1) = q' at *
   generalize hgb : bxTo (k + 1) = b' at *
   have HGP := Lib.hid hgp
   have HGQ := Lib.hid hgq
   have HGB := Lib.hid hgb
   clear hgp hgq hgb
   generalize pAt k = p at *
   generalize qAt k = q at *
   generalize bxTo k = b at *
   go_wp2_with (go_at_call 39; with_reducible refine (double_any p _ HPB.out).mono ?_; rintro e w2 ⟨rfl, rfl⟩)
   all_goals
    have hq := HQN.out
    first | rw [if_pos (by assumption)] at hq | rw [if_neg (by omega)] at hq
    rw [← hq, ← HPN.out]
    clear hq HQN HPN
    obtain ⟨q0', q1'⟩ := HQ'.out
    obtain ⟨p0', p1'⟩ := HP'.out
    go_loopw [4, 5] (fun x n wr => ∃ (N : Int) (m' : Nat), 1 ≤ N ∧ N ≤ 5 ∧ n = .int .i64 N ∧ x = .int .u8 (xTo q' (N.toNat - 1)) ∧ wr = (w.alloc (.cells b 80)).drewN m') (fun _ n _ => (5 - intOf n).toNat)
    case atStart => exact ⟨1, m, by omega, by omega, rfl, rfl, rfl⟩
    case round =>
     obtain ⟨N, m', hN, hN', rfl, rfl, rfl⟩ := hrel
     by_cases h5 : N = 5
     ·subst h5
      have hx : xTo q' ((5 : Int).toNat - 1) = xTo q' 4 := rfl
      rw [hx]
      have HBNo := HBN.out
      generalize xTo q' 4 = x at *
      have hcell : b[p'.toNat]? = some (b[p'.toNat]'(by rw [HSZ.out]; omega)) := Array.getElem?_eq_getElem _
      have HBN' := Lib.hid HBNo
      clear HBNo HBN hx
      go_wp2
      refine ⟨⟨k + 1, m', by omega, by go_num, by rw [HGP.out], by rw [HGQ.out], ?_⟩, by simp [intOf]; omega⟩
      rw [setCell_alloc, HGB.out, HBN'.out]
     ·have : N = 1 ∨ N = 2 ∨ N = 3 ∨ N = 4 := by omega
      rcases this with rfl | rfl | rfl | rfl
      all_goals
       generalize hy : xTo q' _ = x
       have HY := Lib.hid hy
       clear hy
       go_wp2
       go_quiet (fail)
       go_wp2
       refine ⟨⟨_, _, ?_, ?_, rfl, ?_, rfl⟩, by simp [intOf]⟩
       ·omega
       ·omega
       ·rw [← HY.out]
        rfl
  ·obtain rfl : k = 255 := by omega
   obtain ⟨v0, hcell⟩ : ∃ v, (bxTo 255)[0]? = some v := ⟨_, Array.getElem?_eq_getElem (by rw [bxTo_size]; omega)⟩
   generalize hB : bxTo 255 = B at *
   have HB : Hid (B.setIfInBounds 0 (.int .u8 99) = bx) := Lib.hid (by rw [← hB]; rfl)
   clear hB
   go_wp2
   go_ret
   refine ⟨rfl, m, ?_⟩
   rw [← HB.out, ← setCell_alloc]
end Go.Proofs.YtejhjlfakfaegaaDoor
set_option linter.unusedSimpArgs false
set_option linter.unusedVariables false
namespace Go.Proofs.YtejhjlfakfaegaaDoor
open Go.RowKit Go.Proofs.YtejhjlfakfaegaaDoorW.PrintWords

/-! ### Laws: a row loaded in a region that draws; a row stored into a block -/
theorem quiet_load_mid {P : Program} {a : Act} {C : World → Prop} {K : Act → Prop} {o : Oper} (ty : TypeId) (x : Operand) (ho : o.op = .load ty x)
  (b f : Nat) (hx : a.eval x = .pointer (some ⟨b, f, none⟩)) (cs : List Value) (d : TypeDesc) (hc : ∀ w, C w → w.rangeAt b f cs)
  (hu : P.underlying ty = some d) (hd : d.isRow = true) (hi : (P.info? ty).map (·.size) = some cs.length)
  (hk : K (a.put o.dst (.agg cs.toArray))) : o.quiet P a C K :=
 ⟨_, fun w hw => by
  unfold Oper.quietAt execOp
  simp only [ho, hx, Instr.loadAt, Instr.sureAddr, Sem.run_bind, Sem.run_pure, Result.andThen_ok, run_loadVar_mid w b f ty cs d (hc w hw) hu hd hi]
  exact ⟨rfl, rfl⟩, hk⟩
theorem wpList_store_blk {P : Program} {ops : Array Oper} {rest : List Oper} {op : Oper} {a : Act} {w : World} {Q : Exit → Act → World → Prop} (hgd : op.guard = none) (ty : TypeId) (x y : Operand) (ho : op.op = .store ty x y)
  (g o : Nat) (cs : List Value) (hx : a.eval x = .pointer (some ⟨g, o, none⟩)) (hy : a.eval y = .agg cs.toArray)
  (cur : Array Value) (t : TypeId) (hg : w.heap[g]? = some (.cells cur t (0, 0))) (hfit : o + cs.length ≤ cur.size) (hi : (P.info? ty).map (·.size) = some cs.length) (h1 : ∀ v ∈ cs, v.oneCell' = true)
  (h : ∀ w', w'.heap[g]? = some (.cells (cur.toList.take o ++ cs ++ cur.toList.drop (o + cs.length)).toArray t (0, 0)) → Ch (· = g) w w' → wpList P ops Q rest (a.put op.dst undef) w') : wpList P ops Q (op :: rest) a w := by
 refine wpList_store_mid hgd ty x y ho g o cs.toArray hx hy (fun j hj => ?_) (by simpa using hi) (all_oneCell_toArray h1) (h _ ?_ ?_)
 ·have hj' : j < cs.length := by simpa using hj
  exact ⟨by rw [blk_cell hg, Array.getElem?_eq_getElem (by omega)]; rfl, blk_frozen hg _⟩
 ·obtain ⟨cur', h3, h4, h5⟩ := setCells_row (g := g) cs o w cur hg hfit
  rw [show cs.toArray.toList = cs by simp, h3, ← h5]
 ·rw [show cs.toArray.toList = cs by simp]
  obtain ⟨h1, h2, h3, h4⟩ := setCells_same g cs o w
  exact ⟨h1, h2, h3, by rw [h4]; exact Nat.le_refl _, fun k _ hn => setCells_far cs o k hn⟩
theorem nums_one (k : IntKind) (l : List Int) : ∀ v ∈ nums k l, v.oneCell' = true := by intro v hv; simp only [nums, List.mem_map] at hv; obtain ⟨x, _, rfl⟩ := hv; rfl
theorem nums_len (k : IntKind) (l : List Int) : (nums k l).length = l.length := by simp [nums]

/-! ### The box, as a list -/
def sbl : List Int := [99, 124, 119, 123, 242, 107, 111, 197, 48, 1, 103, 43, 254, 215, 171, 118, 202, 130, 201, 125, 250, 89, 71, 240, 173, 212, 162, 175, 156, 164, 114, 192, 183, 253, 147, 38, 54, 63, 247, 204, 52, 165, 229, 241, 113, 216, 49, 21, 4, 199, 35, 195, 24, 150, 5, 154, 7, 18, 128, 226, 235, 39, 178, 117, 9, 131, 44, 26, 27, 110, 90, 160, 82, 59, 214, 179, 41, 227, 47, 132, 83, 209, 0, 237, 32, 252, 177, 91, 106, 203, 190, 57, 74, 76, 88, 207, 208, 239, 170, 251, 67, 77, 51, 133, 69, 249, 2, 127, 80, 60, 159, 168, 81, 163, 64, 143, 146, 157, 56, 245, 188, 182, 218, 33, 16, 255, 243, 210, 205, 12, 19, 236, 95, 151, 68, 23, 196, 167, 126, 61, 100, 93, 25, 115, 96, 129, 79, 220, 34, 42, 144, 136, 70, 238, 184, 20, 222, 94, 11, 219, 224, 50, 58, 10, 73, 6, 36, 92, 194, 211, 172, 98, 145, 149, 228, 121, 231, 200, 55, 109, 141, 213, 78, 169, 108, 86, 244, 234, 101, 122, 174, 8, 186, 120, 37, 46, 28, 166, 180, 198, 232, 221, 116, 31, 75, 189, 139, 138, 112, 62, 181, 102, 72, 3, 246, 14, 97, 53, 87, 185, 134, 193, 29, 158, 225, 248, 152, 17, 105, 217, 142, 148, 155, 30, 135, 233, 206, 85, 40, 223, 140, 161, 137, 13, 191, 230, 66, 104, 65, 153, 45, 15, 176, 84, 187, 22]
theorem bx_eq : bx = (nums .u8 sbl).toArray := by kernel_rfl
theorem sbl_b : Bs sbl := by unfold Bs; decide +kernel
theorem sbl_len : sbl.length = 256 := by decide +kernel
def sbx (x : Int) : Int := nt sbl x.toNat
theorem sbx_b (x : Int) : B8 (sbx x) := sbl_b.at _
theorem bx_get (x : Int) (h : B8 x) : bx[x.toNat]? = some (.int .u8 (sbx x)) := by
 have hl : x.toNat < sbl.length := by rw [sbl_len]; unfold B8 at h; omega
 rw [bx_eq, sbx, nt_get hl]
 simp [nums, hl]

/-! ### The key's bytes -/
def rcAt : Nat → Int
 | 0 => 1
 | n + 1 => dbl (rcAt n)
theorem rcAt_b : ∀ n, B8 (rcAt n)
 | 0 => by unfold B8; decide
 | n + 1 => dbl_b _ (rcAt_b n)
/-- the next byte behind so many -/
def kNext (w : List Int) : Int :=
 if 4 ≤ w.length % 16 then x8 (nt w (w.length - 16)) (nt w (w.length - 4))
 else if w.length % 16 = 0 then x8 (x8 (nt w (w.length - 16)) (sbx (nt w (w.length - 3)))) (rcAt (w.length / 16 - 1))
 else x8 (nt w (w.length - 16)) (sbx (nt w (w.length - w.length % 16 - 4 + (w.length % 16 + 1) % 4)))
def kGo (l : List Int) : Nat → List Int
 | 0 => l
 | n + 1 => kGo l n ++ [kNext (kGo l n)]
theorem kNext_b (w : List Int) : B8 (kNext w) := by
 unfold kNext
 split
 ·exact x8_b _ _
 ·split <;> exact x8_b _ _
theorem kGo_len (l : List Int) : ∀ n, (kGo l n).length = l.length + n
 | 0 => rfl
 | n + 1 => by rw [kGo, List.length_append, kGo_len l n]; rfl
theorem kGo_bs (l : List Int) (h : Bs l) : ∀ n, Bs (kGo l n)
 | 0 => h
 | n + 1 => (kGo_bs l h n).append fun x hx => by rw [List.mem_singleton.1 hx]; exact kNext_b _
/-- a cipher's cells -/
def ciph (bg : Nat) (ks : List Int) : Array Value := (Value.pointer (some ⟨bg, 0, none⟩) :: nums .u8 (ks ++ List.replicate (176 - ks.length) 0)).toArray
theorem ciph_size (bg : Nat) (ks : List Int) (h : ks.length ≤ 176) : (ciph bg ks).size = 177 := by simp [ciph, nums]; omega
theorem ciph_get (bg : Nat) (ks : List Int) (j : Nat) (h : j < ks.length) : (ciph bg ks)[1 + j]? = some (.int .u8 (nt ks j)) := by
 rw [nt_get h]
 simp [ciph, nums, Nat.add_comm 1 j, List.getElem?_append_left, h]
theorem ciph_set (bg : Nat) (ks : List Int) (x : Int) (h : ks.length < 176) : (ciph bg ks).setIfInBounds (1 + ks.length) (.int .u8 x) = ciph bg (ks ++ [x]) := by
 unfold ciph
 have e : 176 - ks.length = (176 - (ks.length + 1)) + 1 := by omega
 rw [Nat.add_comm 1]
 simp only [List.setIfInBounds_toArray, nums, List.map_append, List.length_append, List.length_cons, List.length_nil, List.map_cons, List.map_nil, List.set_cons_succ]
 rw [e, List.replicate_succ, List.map_cons, List.set_append_right _ _ (by simp)]
 simp
theorem ciph_key (bg : Nat) (l : List Int) (h : l.length = 16) : ((ciph bg []).toList.take 1 ++ nums .u8 l ++ (ciph bg []).toList.drop (1 + (nums .u8 l).length)).toArray = ciph bg l := by
 rw [nums_len, h]
 unfold ciph
 simp only [List.nil_append, List.length_nil, Nat.sub_zero, nums, List.map_replicate, h, List.map_append, List.take_succ_cons, List.take_zero, List.cons_append, Nat.add_comm 1 16, List.drop_succ_cons, List.drop_replicate]
theorem ciph_zero (bg : Nat) (ks : List Int) (h : ks.length < 176) : (ciph bg ks)[1 + ks.length]? = some (.int .u8 0) := by
 unfold ciph
 have e : 176 - ks.length = (176 - (ks.length + 1)) + 1 := by omega
 rw [Nat.add_comm 1, e]
 simp [nums, List.getElem?_append_right, List.replicate_succ]
theorem ciph_put {w : World} {g bg : Nat} {ks : List Int} {T : TypeId} (h : w.heap[g]? = some (.cells (ciph bg ks) T (0, 0))) {j i : Nat} (hl : ks.length < 176) (hi : 1 + (j + 1) * 16 + i = 1 + ks.length) (v : Int) :
  (w.setCell ⟨g, 1 + (j + 1) * 16 + i, none⟩ (.int .u8 v)).heap[g]? = some (.cells (ciph bg (ks ++ [v])) T (0, 0)) := by
 rw [blk_set h, hi, ciph_set _ _ _ hl]
theorem kGo_pre (l : List Int) (a : Nat) : ∀ b i, i < l.length + a → nt (kGo l (a + b)) i = nt (kGo l a) i
 | 0, _, _ => rfl
 | b + 1, i, h => by
  rw [← kGo_pre l a b i h]
  show nt (kGo l (a + b) ++ [_]) i = _
  rw [nt_get (by rw [List.length_append, kGo_len]; omega), nt_get (by rw [kGo_len]; omega), List.getElem_append_left]
theorem kStep_ge (l : List Int) (hl : l.length = 16) (wk : List Int) (k : Nat) (hw : ∀ j, nt wk j = nt (kGo l (16 * k)) (16 * k + j)) (j : Nat) (hj : j < 16) (h4 : 4 ≤ j) :
  kGo l (16 * k + (j + 1)) = kGo l (16 * k + j) ++ [bits .xor .u8 (nt wk j) (nt (kGo l (16 * k + j)) (16 * k + 12 + j))] := by
 show kGo l (16 * k + j) ++ [kNext (kGo l (16 * k + j))] = _
 have hlen : (kGo l (16 * k + j)).length = 16 + 16 * k + j := by rw [kGo_len, hl]; omega
 unfold kNext x8
 rw [hlen, if_pos (by omega), hw, ← kGo_pre l (16 * k) j _ (by omega)]
 congr 4 <;> omega
theorem kStep_lt (l : List Int) (hl : l.length = 16) (wk : List Int) (k : Nat) (hw : ∀ j, nt wk j = nt (kGo l (16 * k)) (16 * k + j)) (j : Nat) (hj : j < 4) :
  kGo l (16 * k + (j + 1)) = kGo l (16 * k + j) ++ [if j = 0 then bits .xor .u8 (bits .xor .u8 (nt wk j) (sbx (nt wk (12 + (j + 1) % 4)))) (rcAt k) else bits .xor .u8 (nt wk j) (sbx (nt wk (12 + (j + 1) % 4)))] := by
 show kGo l (16 * k + j) ++ [kNext (kGo l (16 * k + j))] = _
 have hlen : (kGo l (16 * k + j)).length = 16 + 16 * k + j := by rw [kGo_len, hl]; omega
 unfold kNext x8
 rw [hlen, if_neg (by omega), hw, hw, ← kGo_pre l (16 * k) j _ (by omega), ← kGo_pre l (16 * k) j (16 * k + (12 + (j + 1) % 4)) (by omega)]
 rw [show (16 + 16 * k + j) % 16 = j by omega, show (16 + 16 * k + j) / 16 - 1 = k by omega, show 16 + 16 * k + j - 16 = 16 * k + j by omega, show 16 + 16 * k + j - j - 4 + (j + 1) % 4 = 16 * k + (12 + (j + 1) % 4) by omega]
 by_cases h0 : j = 0
 ·subst h0
  rw [if_pos rfl, if_pos rfl, show 16 + 16 * k + 0 - 3 = 16 * k + (12 + (0 + 1) % 4) by omega]
 ·rw [if_neg h0, if_neg h0]
set_option maxRecDepth 100000 in
set_option maxHeartbeats 1000000 in
theorem new5_any (l : List Int) (w : World) (hl : l.length = 16) (hb : Bs l) :
  Calls Tryd.prog 20 #[.agg (nums .u8 l).toArray] w fun e w' =>
   ∃ g bg, e = .returned (.pointer (some ⟨g, 0, none⟩)) ∧ w'.heap[g]? = some (.cells (ciph bg (kGo l 160)) 67 (0, 0)) ∧ w'.heap[bg]? = some (.cells bx 80 (0, 0)) ∧ w.heap.size ≤ g ∧ w.heap.size ≤ bg ∧ Ch (fun _ => False) w w' := by
 have HL := Lib.hid hl
 clear hl
 go_enter Tryd.func20, Tryd.ntmps20
 go_wp2_with fail
 refine (box_any _).mono ?_
 rintro e w1 ⟨rfl, m1, hw1⟩
 have hk1 : w1.heap[w.heap.size]? = some (.cells (nums .u8 l).toArray 35 (0, 0)) := by rw [hw1]; exact heap_alloc2_old _ _ _
 have hb1 : w1.heap[w.heap.size + 1]? = some (.cells bx 80 (0, 0)) := by rw [hw1]; exact heap_alloc2_new _ _ _
 have hC1 : Ch (fun _ => False) w w1 := by rw [hw1]; exact (((Ch.refl _ _).alloc _).alloc _).drewN _
 have hz1 : w1.heap.size = w.heap.size + 2 := by rw [hw1]; simp
 have HK1 := Lib.hid hk1
 have HB1 := Lib.hid hb1
 have HC1 := Lib.hid hC1
 have HZ1 := Lib.hid hz1
 clear hw1 hk1 hb1 hC1 hz1
 go_wp2_with (first
  | (refine Great.wpList_runTo rfl (some 10) rfl (.agg (ciph (w.heap.size + 1) [])) w1 (by kernel_rfl) ?_)
  | (refine Great.wpList_boxTo rfl 67 (.tmp 10) rfl (some 11) rfl w1.heap.size rfl (ciph (w.heap.size + 1) []) rfl ?_; obtain ⟨w2, hw2⟩ : ∃ w2, w1.alloc (.cells (ciph (w.heap.size + 1) []) 67) = w2 := ⟨_, rfl⟩; rw [hw2]; (have HG2 : Hid (w2.heap[w1.heap.size]? = some (.cells (ciph (w.heap.size + 1) []) 67 (0, 0))) := by rw [← hw2]; exact heap_alloc_new _ _); (have HC2 : Hid (Ch (fun _ => False) w1 w2) := by rw [← hw2]; exact (Ch.refl _ _).alloc _); clear hw2))
 refine wp_region_quiet_tail 5 (by kernel_rfl) (by kernel_rfl) ?_
 simp only [List.take_succ_cons, List.take_zero, List.drop_succ_cons, List.drop_zero]
 have hks : ∀ w', (∃ n, w' = w2.drewN n) → w'.rangeAt w.heap.size 0 (nums .u8 l) := by
  rintro w' ⟨n, rfl⟩
  intro j v hv
  rw [Nat.zero_add, blk_cell (w := w2.drewN n) (HC2.out.blk HK1.out (fun h => h))]
  simpa using hv
 have HKS := Lib.hid hks
 clear hks
 repeat (first | go_big_quiet_skip | (go_big_quiet_want; (first | (with_reducible refine quiet_load_mid 35 (.tmp 1) rfl w.heap.size 0 rfl (nums .u8 l) (.array 16 5) HKS.out Tryd.underlying35 rfl (by rw [nums_len, HL.out]; kernel_rfl) ?_; simp only [Act.put, List.setIfInBounds_toArray, List.set_cons_succ, List.set_cons_zero]) | go_big_quiet_op); go_big_quiet_on))
 refine wpQuiet_nil ?_
 intro w3 hw'
 obtain ⟨nd, hw3⟩ := hw'
 have HG3 : Hid (w3.heap[w1.heap.size]? = some (.cells (ciph (w.heap.size + 1) []) 67 (0, 0))) := by rw [hw3]; exact HG2.out
 have HC3 : Hid (Ch (fun _ => False) w1 w3) := by rw [hw3]; exact HC2.out.drewN nd
 clear hw3
 obtain ⟨g, hgg⟩ : ∃ g, w1.heap.size = g := ⟨_, rfl⟩
 obtain ⟨bg, hbg⟩ : ∃ bg, w.heap.size + 1 = bg := ⟨_, rfl⟩
 have HB3 : Hid (w3.heap[bg]? = some (.cells bx 80 (0, 0))) := by rw [← hbg]; exact HC3.out.blk HB1.out (fun h => h)
 have HC3 : Hid (Ch (fun _ => False) w w3) := Lib.hid (HC1.out.trans HC3.out)
 have HZG : Hid (g = w.heap.size + 2 ∧ bg = w.heap.size + 1) := Lib.hid ⟨by rw [← hgg, HZ1.out], hbg.symm⟩
 rw [hgg] at HG3 ⊢
 rw [hbg] at HG3 ⊢
 clear hgg hbg HB1 HC1 HK1 HZ1 HG2 HC2 HKS
 go_wp2_with (refine wpList_store_blk rfl 22 (.tmp 16) (.tmp 13) rfl g 1 (nums .u8 l) rfl rfl (ciph bg []) 67 HG3.out (by rw [ciph_size _ _ (by simp), nums_len, HL.out]; omega) (by rw [nums_len, HL.out]; kernel_rfl) (nums_one _ _) ?_; intro w4 hg4 hc4; rw [ciph_key bg l HL.out] at hg4; (have HC4 : Hid (Ch (fun _ => False) w w4) := Lib.hid (HC3.out.then_ hc4 (fun i hi e => by have := HZG.out; omega))); have HB4 := Lib.hid (hc4.blk HB3.out (by have := HZG.out; omega)); have HG4 := Lib.hid hg4; clear hg4 hc4)
 go_loopw [4, 5] (fun r n wr => ∃ k : Nat, k ≤ 10 ∧ n = .int .i64 (k + 1) ∧ r = .int .u8 (rcAt k) ∧ wr.heap[g]? = some (.cells (ciph bg (kGo l (16 * k))) 67 (0, 0)) ∧ wr.heap[bg]? = some (.cells bx 80 (0, 0)) ∧ Ch (fun _ => False) w wr) (fun _ n _ => (11 - intOf n).toNat)
 case atStart => exact ⟨0, by omega, rfl, rfl, HG4.out, HB4.out, HC4.out⟩
 case round =>
  obtain ⟨k, hk, rfl, rfl, hg, hb', hC⟩ := hrel
  have HG := Lib.hid hg
  have HB := Lib.hid hb'
  have HC := Lib.hid hC
  clear hg hb' hC HG3 HB3 HC3 HG4 HB4 HC4
  by_cases hlt : k < 10
  ·have hwas : wr.rangeAt g (1 + 16 * k) (nums .u8 ((kGo l (16 * k)).drop (16 * k))) := by
    intro j v hv
    have hj : j < 16 := by have := (List.getElem?_eq_some_iff.1 hv).1; rw [nums_len, List.length_drop, kGo_len, HL.out] at this; omega
    rw [blk_cell HG.out, show 1 + 16 * k + j = 1 + (16 * k + j) by omega, ciph_get _ _ _ (by rw [kGo_len, HL.out]; omega), ← hv]
    rw [nt_get (by rw [kGo_len, HL.out]; omega)]
    simp [nums, kGo_len, HL.out, hj]
   have HW := Lib.hid hwas
   clear hwas
   have hwl : ((kGo l (16 * k)).drop (16 * k)).length = 16 := by rw [List.length_drop, kGo_len, HL.out]; omega
   have hwb : Bs ((kGo l (16 * k)).drop (16 * k)) := (kGo_bs l hb _).drop _
   have hwn : ∀ j, nt ((kGo l (16 * k)).drop (16 * k)) j = nt (kGo l (16 * k)) (16 * k + j) := by intro j; simp [nt, List.getD_eq_getElem?_getD]
   have HWL := Lib.hid hwl
   have HWN := Lib.hid hwn
   rw [Nat.mul_comm 16 k] at HW
   clear hwl hwn
   rw [Nat.mul_comm k 16] at HW
   have HW : Hid (wr.rangeAt g (1 + k * 16) (nums .u8 ((kGo l (16 * k)).drop (16 * k)))) := by rw [Nat.mul_comm k 16]; exact HW
   generalize (kGo l (16 * k)).drop (16 * k) = wk at *
   go_wp2_with (first
    | (refine wpList_load_mid rfl 22 (.tmp 26) rfl g (1 + k * 16) rfl (nums .u8 wk) (.array 16 5) HW.out Tryd.underlying22 rfl (by rw [nums_len, HWL.out]; kernel_rfl) ?_)
    | (refine Great.wpList_runTo rfl (some 6) rfl (.pointer (some ⟨wr.heap.size, 0, none⟩)) (wr.alloc (.cells (Array.replicate 16 (.int .u8 0)) 22)) (by kernel_rfl) ?_)
    | (refine wpList_store_row rfl 22 (.tmp 6) (.tmp 27) rfl wr.heap.size (nums .u8 wk).toArray rfl rfl 22 (Array.replicate 16 (.int .u8 0)) (heap_alloc_new _ _) (by rw [List.size_toArray, nums_len, HWL.out]; kernel_rfl) (by simp [nums, HWL.out]) (all_nums _ _) ?_; rw [setRow_alloc]; obtain ⟨w5, hw5⟩ : ∃ w5, wr.alloc (.cells (nums .u8 wk).toArray 22) = w5 := ⟨_, rfl⟩; rw [hw5]; (have HG5 : Hid (w5.heap[g]? = some (.cells (ciph bg (kGo l (16 * k))) 67 (0, 0))) := by rw [← hw5]; exact Ch.blk ((Ch.refl (fun _ => False) _).alloc _) HG.out (fun h => h)); (have HB5 : Hid (w5.heap[bg]? = some (.cells bx 80 (0, 0))) := by rw [← hw5]; exact Ch.blk ((Ch.refl (fun _ => False) _).alloc _) HB.out (fun h => h)); (have HC5 : Hid (Ch (fun _ => False) w w5) := by rw [← hw5]; exact HC.out.alloc _); (have HW5 : Hid (w5.heap[wr.heap.size]? = some (.cells (nums .u8 wk).toArray 22 (0, 0))) := by rw [← hw5]; exact heap_alloc_new _ _); clear hw5))
   obtain ⟨gw, hgw⟩ : ∃ gw, wr.heap.size = gw := ⟨_, rfl⟩
   have HGW : Hid (gw ≠ g ∧ w.heap.size ≤ gw ∧ gw ≠ bg) := Lib.hid ⟨by have := blk_lt HG.out; omega, by have := HC.out.size; omega, by have := blk_lt HB.out; omega⟩
   rw [hgw] at HW5 ⊢
   clear hgw HG HB HC HW
   obtain ⟨wo, rfl⟩ : ∃ wo : World, wo = wr := ⟨_, rfl⟩
   go_loopw [28] (fun i wr => ∃ j : Nat, j ≤ 16 ∧ i = .int .i64 j ∧ wr.heap[g]? = some (.cells (ciph bg (kGo l (16 * k + j))) 67 (0, 0)) ∧ wr.heap[bg]? = some (.cells bx 80 (0, 0)) ∧ wr.heap[gw]? = some (.cells (nums .u8 wk).toArray 22 (0, 0)) ∧ Ch (fun _ => False) w wr) (fun i _ => (16 - intOf i).toNat)
   case atStart => exact ⟨0, by omega, rfl, HG5.out, HB5.out, HW5.out, HC5.out⟩
   case round =>
    obtain ⟨j, hj, rfl, hg, hb', hw', hC⟩ := hrel
    have HG := Lib.hid hg
    have HB := Lib.hid hb'
    have HC := Lib.hid hC
    have HW := Lib.hid hw'
    clear hg hb' hC hw' HG5 HB5 HC5 HW5
    by_cases hjt : j < 16
    ·have cw : wr.cell? ⟨gw, j, none⟩ = some (.int .u8 (nt wk j)) := by rw [blk_cell HW.out, nt_get (by rw [HWL.out]; exact hjt)]; simp [nums, HWL.out, hjt]
     obtain ⟨x0, x1⟩ := hwb.at j
     have cz : wr.cell? ⟨g, 1 + (k + 1) * 16 + j, none⟩ = some (.int .u8 0) := by
      have := ciph_zero bg (kGo l (16 * k + j)) (by rw [kGo_len, HL.out]; omega)
      rw [blk_cell HG.out, show 1 + (k + 1) * 16 + j = 1 + (kGo l (16 * k + j)).length by rw [kGo_len, HL.out]; omega]
      exact this
     have fz : wr.frozen? ⟨g, 1 + (k + 1) * 16 + j, none⟩ = false := blk_frozen HG.out _
     by_cases hj4 : 4 ≤ j
     ·--[C1
      have c4 : wr.cell? ⟨g, 1 + (k + 1) * 16 + (j - 4), none⟩ = some (.int .u8 (nt (kGo l (16 * k + j)) (16 * k + 12 + j))) := by
       rw [blk_cell HG.out, show 1 + (k + 1) * 16 + (j - 4) = 1 + (16 * k + 12 + j) by omega, ciph_get _ _ _ (by rw [kGo_len, HL.out]; omega)]
      have h4 : (4 : Int) ≤ j := by omega
      obtain ⟨y0, y1⟩ := (kGo_bs l hb (16 * k + j)).at (16 * k + 12 + j)
      have t0 : ((j : Int) == 0) = false := beq_eq_false_iff_ne.2 (by omega)
      go_wp2
      refine ⟨⟨j + 1, by omega, by go_num, ?_, ?_, ?_, HC.out.setCell (.inr (by have := HZG.out; show w.heap.size ≤ g; omega)) _⟩, by simp [intOf]; omega⟩
      ·rw [kStep_ge l HL.out wk k HWN.out j hjt hj4]
       exact ciph_put HG.out (by rw [kGo_len, HL.out]; omega) (by rw [kGo_len, HL.out]; omega) _
      ·exact (Below.heap_setCell _ _ _ _ (by have := HZG.out; show bg ≠ g; omega)).trans HB.out
      ·exact (Below.heap_setCell _ _ _ _ (by have := HGW.out; show gw ≠ g; omega)).trans HW.out
      --C1]
     ·have hjl : j = 0 ∨ j = 1 ∨ j = 2 ∨ j = 3 := by omega
      have cb : wr.cell? ⟨g, 0, none⟩ = some (.pointer (some ⟨bg, 0, none⟩)) := by rw [blk_cell HG.out]; rfl
      have cw13 : wr.cell? ⟨gw, 12 + (j + 1) % 4, none⟩ = some (.int .u8 (nt wk (12 + (j + 1) % 4))) := by rw [blk_cell HW.out, nt_get (by rw [HWL.out]; omega)]; simp [nums, HWL.out, show 12 + (j + 1) % 4 < 16 by omega]
      obtain ⟨y0, y1⟩ := hwb.at (12 + (j + 1) % 4)
      have cs : wr.cell? ⟨bg, (nt wk (12 + (j + 1) % 4)).toNat, none⟩ = some (.int .u8 (sbx (nt wk (12 + (j + 1) % 4)))) := by rw [blk_cell HB.out]; exact bx_get _ ⟨y0, y1⟩
      obtain ⟨s0, s1⟩ := sbx_b (nt wk (12 + (j + 1) % 4))
      obtain ⟨r0, r1⟩ := rcAt_b k
      have HST : Hid (kGo l (16 * k + (j + 1)) = _) := Lib.hid (kStep_lt l HL.out wk k HWN.out j (by omega))
      have HPUT := Lib.hid (fun v => ciph_put (j := k) (i := j) (v := v) HG.out (by rw [kGo_len, HL.out]; omega) (by rw [kGo_len, HL.out]; omega))
      rcases hjl with rfl | rfl | rfl | rfl
      all_goals
       simp only [Nat.reduceAdd, Nat.reduceMod] at cw13 cs y0 y1 s0 s1
       try simp only [Nat.add_zero] at cz fz
       go_wp2
       go_quiet (fail)
       go_wp2
       refine ⟨⟨_, ?_, rfl, ?_, ?_, ?_, (HC.out.drewN nq).setCell (.inr (by have := HZG.out; show w.heap.size ≤ g; omega)) _⟩, by simp [intOf]⟩
       ·first | omega | decide
       ·rw [HST.out]
        exact HPUT.out _
       ·exact (Below.heap_setCell _ _ _ _ (by have := HZG.out; show bg ≠ g; omega)).trans HB.out
       ·exact (Below.heap_setCell _ _ _ _ (by have := HGW.out; show gw ≠ g; omega)).trans HW.out
    ·obtain rfl : j = 16 := by omega
     go_wp2_with (go_at_call 39; with_reducible refine (double_any (rcAt k) _ (rcAt_b k)).mono ?_; rintro e w2 ⟨rfl, rfl⟩)
     exact ⟨⟨k + 1, by omega, by go_num, rfl, HG.out, HB.out, HC.out⟩, by simp [intOf]; omega⟩
  ·obtain rfl : k = 10 := by omega
   go_wp2
   go_ret
   exact ⟨g, bg, rfl, HG.out, HB.out, by have := HZG.out; omega, by have := HZG.out; omega, HC.out⟩
end Go.Proofs.YtejhjlfakfaegaaDoor
set_option linter.unusedSimpArgs false
set_option linter.unusedVariables false
namespace Go.Proofs.YtejhjlfakfaegaaDoor
open Go.RowKit Go.Proofs.YtejhjlfakfaegaaDoorW.PrintWords

/-- a value of one cell goes into a block whose cells are known; the world behind it is told by that block alone -/
theorem wpList_store_at {P : Program} {ops : Array Oper} {rest : List Oper} {op : Oper} {a : Act} {w : World} {Q : Exit → Act → World → Prop} (hgd : op.guard = none) (ty : TypeId) (x y : Operand) (ho : op.op = .store ty x y)
  (g i : Nat) (v : Value) (hx : a.eval x = .pointer (some ⟨g, i, none⟩)) (hy : a.eval y = v) (h1 : v.oneCell' = true)
  (cur : Array Value) (t : TypeId) (hg : w.heap[g]? = some (.cells cur t (0, 0))) (hfit : i < cur.size) (hi : (P.info? ty).map (·.size) = some 1)
  (h : ∀ w', w'.heap[g]? = some (.cells (cur.setIfInBounds i v) t (0, 0)) → Ch (· = g) w w' → wpList P ops Q rest (a.put op.dst undef) w') : wpList P ops Q (op :: rest) a w := by
 have hrun : (storeVar ty ⟨g, i, none⟩ v).run P w = .ok () (w.setCell ⟨g, i, none⟩ v) := by
  have := run_storeCells_cells (P := P) g i [v] 0 w (fun j hj => by
   have : j = 0 := by simp at hj; omega
   subst this
   show (w.cell? ⟨g, i + 0 + 0, none⟩).isSome = true; rw [show i + 0 + 0 = i from rfl, blk_cell hg, Array.getElem?_eq_getElem hfit]; rfl) (fun j hj => blk_frozen hg _)
   (fun x hx => by simp at hx; subst hx; exact h1)
  have hc : v.cells = #[v] := by cases v <;> first | rfl | cases h1
  cases hq : P.info? ty with
  | none => simp [hq] at hi
  | some q =>
   have hs : q.size = 1 := by simpa [hq] using hi
   simp only [Nat.add_zero] at this
   simp [storeVar, sizeOf, typeInfo, hq, hc, hs, this, World.setCells]
 refine wpList_plain hgd fun _ hK => ?_
 unfold Oper.wp execOp
 simp only [ho, hx, hy, Instr.storeAt, Instr.sureAddr, Sem.run_bind, Sem.run_pure, Result.andThen_ok, hrun]
 exact hK _ _ (h _ (blk_set hg _ _) (Ch.setCell (S := (· = g)) (Ch.refl _ w) (.inl rfl) _))

theorem product_q (a b : Int) (w : World) (ha : B8 a) (hb : B8 b) :
  Calls Tryd.prog 58 #[.int .u8 a, .int .u8 b] w fun e w' => e = .returned (.int .u8 (prd 8 a b 0)) ∧ w' = w :=
 (product_any a b w ha hb).mono fun _ _ ⟨h1, h2⟩ => ⟨h1, h2.symm⟩
def mul2 (a : Int) : Int := prd 8 a 2 0
def mul3 (a : Int) : Int := prd 8 a 3 0
def mixAt (l : List Int) (c : Nat) : List Int :=
 (((l.set c (x8 (x8 (x8 (mul2 (nt l c)) (mul3 (nt l (c+1)))) (nt l (c+2))) (nt l (c+3)))).set (c+1) (x8 (x8 (x8 (nt l c) (mul2 (nt l (c+1)))) (mul3 (nt l (c+2)))) (nt l (c+3)))).set (c+2)
  (x8 (x8 (x8 (nt l c) (nt l (c+1))) (mul2 (nt l (c+2)))) (mul3 (nt l (c+3))))).set (c+3) (x8 (x8 (x8 (mul3 (nt l c)) (nt l (c+1))) (nt l (c+2))) (mul2 (nt l (c+3))))
theorem nums_set (k : IntKind) (l : List Int) (i : Nat) (v : Int) : (nums k l).toArray.setIfInBounds i (.int k v) = (nums k (l.set i v)).toArray := by simp [nums, List.map_set]
theorem drewN_blk {w : World} {g : Nat} {o : Option Obj} (n : Nat) (h : w.heap[g]? = o) : (w.drewN n).heap[g]? = o := h
theorem blk_nums {w : World} {g : Nat} {k : IntKind} {l : List Int} {T : TypeId} (h : w.heap[g]? = some (.cells (nums k l).toArray T (0, 0))) (j : Nat) (hj : j < l.length) : w.cell? ⟨g, j, none⟩ = some (.int k (nt l j)) := by
 rw [blk_cell h, nt_get hj]
 simp [nums, hj]
set_option maxRecDepth 100000 in
set_option maxHeartbeats 4000000 in
theorem mix_any (g : Nat) (l : List Int) (T : TypeId) (c : Nat) (w : World) (hl : l.length = 16) (hb : Bs l) (hg : w.heap[g]? = some (.cells (nums .u8 l).toArray T (0, 0))) (hc : c = 0 ∨ c = 4 ∨ c = 8 ∨ c = 12) :
  Calls Tryd.prog 51 #[.pointer (some ⟨g, 0, none⟩), .int .i64 c] w fun e w' =>
   e = .returned (.tuple #[]) ∧ w'.heap[g]? = some (.cells (nums .u8 (mixAt l c)).toArray T (0, 0)) ∧ Ch (· = g) w w' := by
 have b0 := blk_nums hg c (by omega)
 have b1 := blk_nums hg (c+1) (by omega)
 have b2 := blk_nums hg (c+2) (by omega)
 have b3 := blk_nums hg (c+3) (by omega)
 have B0 := Lib.hid (hb.at c)
 have B1 := Lib.hid (hb.at (c+1))
 have B2 := Lib.hid (hb.at (c+2))
 have B3 := Lib.hid (hb.at (c+3))
 have HL := Lib.hid hl
 have HG := Lib.hid hg
 clear hl hg hb
 rcases hc with rfl | rfl | rfl | rfl
 all_goals
  simp only [Nat.reduceAdd, Nat.zero_add] at b0 b1 b2 b3 B0 B1 B2 B3
  generalize ha : nt l _ = a at b0 B0
  generalize he : nt l _ = b at b1 B1
  generalize hh : nt l _ = e at b2 B2
  generalize hd : nt l _ = d at b3 B3
  have HA := Lib.hid ha
  have HE := Lib.hid he
  have HH := Lib.hid hh
  have HDD := Lib.hid hd
  clear ha he hh hd
  go_enter Tryd.func51, Tryd.ntmps51
  go_wp2
  go_quiet (fail)
  obtain ⟨w0, hw0⟩ : ∃ w0, w.drewN nq = w0 := ⟨_, rfl⟩
  have HW0 : Hid (w0.heap[g]? = some (.cells (nums .u8 l).toArray T (0, 0))) := by rw [← hw0]; exact HG.out
  have HC0 : Hid (Ch (· = g) w w0) := by rw [← hw0]; exact (Ch.refl _ _).drewN _
  rw [hw0]
  clear hw0 b0 b1 b2 b3
  go_wp2
  refine wp_region_quiet_tail 13 (by kernel_rfl) (by kernel_rfl) ?_
  simp only [List.take_succ_cons, List.take_zero, List.drop_succ_cons, List.drop_zero]
  repeat (go_big_quiet_step ((go_at_call 58; refine Calls.quiet_of_same (product_q _ _ _ (by first | exact B0.out | exact B1.out | exact B2.out | exact B3.out) (by unfold B8; decide)))))
  refine wpQuiet_nil ?_
  intro wq hw'
  obtain ⟨nd, rfl⟩ := hw'
  have HQ0 := Lib.hid (drewN_blk nd HW0.out)
  have HD0 := Lib.hid (HC0.out.drewN nd)
  generalize w0.drewN nd = wq0 at *
  refine wpList_store_at rfl 5 (.tmp 43) (.tmp 41) rfl g _ (.int .u8 (x8 (x8 (x8 (mul2 a) (mul3 b)) e) d)) rfl rfl rfl _ T HQ0.out (by rw [List.size_toArray, nums_len]; (try simp only [List.length_set]); rw [HL.out]; decide) (by kernel_rfl) ?_
  intro w1 hw' hc'
  rw [nums_set] at hw'
  have HW1 := Lib.hid hw'
  have HC1 := Lib.hid (HD0.out.trans hc')
  clear hw' hc'
  simp only [Act.put]
  go_wp2
  refine wp_region_quiet_tail 14 (by kernel_rfl) (by kernel_rfl) ?_
  simp only [List.take_succ_cons, List.take_zero, List.drop_succ_cons, List.drop_zero]
  repeat (go_big_quiet_step ((go_at_call 58; refine Calls.quiet_of_same (product_q _ _ _ (by first | exact B0.out | exact B1.out | exact B2.out | exact B3.out) (by unfold B8; decide)))))
  refine wpQuiet_nil ?_
  intro wq hw'
  obtain ⟨nd, rfl⟩ := hw'
  have HQ1 := Lib.hid (drewN_blk nd HW1.out)
  have HD1 := Lib.hid (HC1.out.drewN nd)
  generalize w1.drewN nd = wq1 at *
  refine wpList_store_at rfl 5 (.tmp 57) (.tmp 55) rfl g _ (.int .u8 (x8 (x8 (x8 a (mul2 b)) (mul3 e)) d)) rfl rfl rfl _ T HQ1.out (by rw [List.size_toArray, nums_len]; (try simp only [List.length_set]); rw [HL.out]; decide) (by kernel_rfl) ?_
  intro w2 hw' hc'
  rw [nums_set] at hw'
  have HW2 := Lib.hid hw'
  have HC2 := Lib.hid (HD1.out.trans hc')
  clear hw' hc'
  simp only [Act.put]
  go_wp2
  refine wp_region_quiet_tail 14 (by kernel_rfl) (by kernel_rfl) ?_
  simp only [List.take_succ_cons, List.take_zero, List.drop_succ_cons, List.drop_zero]
  repeat (go_big_quiet_step ((go_at_call 58; refine Calls.quiet_of_same (product_q _ _ _ (by first | exact B0.out | exact B1.out | exact B2.out | exact B3.out) (by unfold B8; decide)))))
  refine wpQuiet_nil ?_
  intro wq hw'
  obtain ⟨nd, rfl⟩ := hw'
  have HQ2 := Lib.hid (drewN_blk nd HW2.out)
  have HD2 := Lib.hid (HC2.out.drewN nd)
  generalize w2.drewN nd = wq2 at *
  refine wpList_store_at rfl 5 (.tmp 71) (.tmp 69) rfl g _ (.int .u8 (x8 (x8 (x8 a b) (mul2 e)) (mul3 d))) rfl rfl rfl _ T HQ2.out (by rw [List.size_toArray, nums_len]; (try simp only [List.length_set]); rw [HL.out]; decide) (by kernel_rfl) ?_
  intro w3 hw' hc'
  rw [nums_set] at hw'
  have HW3 := Lib.hid hw'
  have HC3 := Lib.hid (HD2.out.trans hc')
  clear hw' hc'
  simp only [Act.put]
  go_wp2
  refine wp_region_quiet_tail 14 (by kernel_rfl) (by kernel_rfl) ?_
  simp only [List.take_succ_cons, List.take_zero, List.drop_succ_cons, List.drop_zero]
  repeat (go_big_quiet_step ((go_at_call 58; refine Calls.quiet_of_same (product_q _ _ _ (by first | exact B0.out | exact B1.out | exact B2.out | exact B3.out) (by unfold B8; decide)))))
  refine wpQuiet_nil ?_
  intro wq hw'
  obtain ⟨nd, rfl⟩ := hw'
  have HQ3 := Lib.hid (drewN_blk nd HW3.out)
  have HD3 := Lib.hid (HC3.out.drewN nd)
  generalize w3.drewN nd = wq3 at *
  refine wpList_store_at rfl 5 (.tmp 85) (.tmp 83) rfl g _ (.int .u8 (x8 (x8 (x8 (mul3 a) b) e) (mul2 d))) rfl rfl rfl _ T HQ3.out (by rw [List.size_toArray, nums_len]; (try simp only [List.length_set]); rw [HL.out]; decide) (by kernel_rfl) ?_
  intro w4 hw' hc'
  rw [nums_set] at hw'
  have HW4 := Lib.hid hw'
  have HC4 := Lib.hid (HD3.out.trans hc')
  clear hw' hc'
  simp only [Act.put]
  go_wp2
  go_end0
  refine ⟨rfl, ?_, HC4.out⟩
  rw [HW4.out, ← HA.out, ← HE.out, ← HH.out, ← HDD.out]
  rfl
end Go.Proofs.YtejhjlfakfaegaaDoor
set_option linter.unusedSimpArgs false
set_option linter.unusedVariables false
namespace Go.Proofs.YtejhjlfakfaegaaDoor
open Go.RowKit Go.Proofs.YtejhjlfakfaegaaDoorW.PrintWords

/-- sixteen bytes, of which so many are new -/
def mapTo (f : Nat → Int) (s : List Int) (i : Nat) : List Int := (List.range 16).map fun j => if j < i then f j else nt s j
theorem mapTo_len (f : Nat → Int) (s : List Int) (i : Nat) : (mapTo f s i).length = 16 := by simp [mapTo]
theorem mapTo_at (f : Nat → Int) (s : List Int) (i j : Nat) (h : j < 16) : nt (mapTo f s i) j = if j < i then f j else nt s j := by
 rw [nt_get (by rw [mapTo_len]; exact h)]
 simp [mapTo]
theorem nt_ext {a b : List Int} (ha : a.length = 16) (hb : b.length = 16) (h : ∀ j, j < 16 → nt a j = nt b j) : a = b := by
 apply List.ext_getElem (by omega)
 intro i h1 h2
 have := h i (by omega)
 rwa [nt_get h1, nt_get h2] at this
theorem nt_set {l : List Int} {i j : Nat} {v : Int} (hi : i < l.length) (hj : j < l.length) : nt (l.set i v) j = if i = j then v else nt l j := by
 rw [nt_get (by simpa using hj), nt_get hj, List.getElem_set]
theorem mapTo_0 (f : Nat → Int) (s : List Int) (h : s.length = 16) : mapTo f s 0 = s := nt_ext (mapTo_len _ _ _) h fun j hj => by rw [mapTo_at _ _ _ _ hj, if_neg (by omega)]
theorem mapTo_set (f : Nat → Int) (s : List Int) (i : Nat) (h : i < 16) : (mapTo f s i).set i (f i) = mapTo f s (i + 1) :=
 nt_ext (by simp [mapTo_len]) (mapTo_len _ _ _) fun j hj => by
  rw [nt_set (by rw [mapTo_len]; exact h) (by rw [mapTo_len]; exact hj), mapTo_at _ _ _ _ hj, mapTo_at _ _ _ _ hj]
  by_cases e : i = j
  ·subst e; rw [if_pos rfl, if_pos (by omega)]
  ·rw [if_neg e]
   by_cases e2 : j < i
   ·rw [if_pos e2, if_pos (by omega)]
   ·rw [if_neg e2, if_neg (by omega)]
def all16 (f : Nat → Int) : List Int := (List.range 16).map f
theorem all16_len (f : Nat → Int) : (all16 f).length = 16 := by simp [all16]
theorem all16_at (f : Nat → Int) (j : Nat) (h : j < 16) : nt (all16 f) j = f j := by
 rw [nt_get (by rw [all16_len]; exact h)]
 simp [all16]
theorem all16_bs (f : Nat → Int) (h : ∀ j, j < 16 → B8 (f j)) : Bs (all16 f) := by
 intro x hx
 simp only [all16, List.mem_map, List.mem_range] at hx
 obtain ⟨j, hj, rfl⟩ := hx
 exact h j hj
theorem mapTo_16 (f : Nat → Int) (s : List Int) : mapTo f s 16 = all16 f := nt_ext (mapTo_len _ _ _) (all16_len _) fun j hj => by rw [mapTo_at _ _ _ _ hj, all16_at _ _ hj, if_pos hj]

def xk (s ks : List Int) (o : Nat) : List Int := all16 fun i => x8 (nt s i) (nt ks (o + i))
def ss (s : List Int) : List Int := all16 fun i => sbx (nt s ((i + 4 * (i % 4)) % 16))
def mixN (t : List Int) : Nat → List Int
 | 0 => t
 | j + 1 => mixAt (mixN t j) (4 * j)
theorem mixAt_len (l : List Int) (c : Nat) : (mixAt l c).length = l.length := by simp [mixAt]
theorem set_bs {l : List Int} (h : Bs l) (i : Nat) {v : Int} (hv : B8 v) : Bs (l.set i v) := fun x hx => by
 rcases List.mem_or_eq_of_mem_set hx with h' | rfl
 ·exact h x h'
 ·exact hv
theorem mixAt_bs (l : List Int) (c : Nat) (h : Bs l) : Bs (mixAt l c) := set_bs (set_bs (set_bs (set_bs h _ (x8_b _ _)) _ (x8_b _ _)) _ (x8_b _ _)) _ (x8_b _ _)
theorem mixN_len (t : List Int) : ∀ j, (mixN t j).length = t.length
 | 0 => rfl
 | j + 1 => by rw [mixN, mixAt_len, mixN_len t j]
theorem mixN_bs (t : List Int) (h : Bs t) : ∀ j, Bs (mixN t j)
 | 0 => h
 | j + 1 => mixAt_bs _ _ (mixN_bs t h j)
/-- a round: which one -/
def rnd5 (ks : List Int) (n : Nat) (s : List Int) : List Int := xk (if n < 10 then mixN (ss s) 4 else ss s) ks (16 * n)
def blkTo (ks b : List Int) : Nat → List Int
 | 0 => xk b ks 0
 | n + 1 => rnd5 ks (n + 1) (blkTo ks b n)
/-- a block, of the keys' bytes -/
def blk5 (ks b : List Int) : List Int := blkTo ks b 10
theorem xk_len (s ks : List Int) (o : Nat) : (xk s ks o).length = 16 := all16_len _
theorem xk_bs (s ks : List Int) (o : Nat) : Bs (xk s ks o) := all16_bs _ fun _ _ => x8_b _ _
theorem blkTo_len (ks b : List Int) : ∀ n, (blkTo ks b n).length = 16
 | 0 => xk_len _ _ _
 | n + 1 => xk_len _ _ _
theorem blkTo_bs (ks b : List Int) : ∀ n, Bs (blkTo ks b n)
 | 0 => xk_bs _ _ _
 | n + 1 => xk_bs _ _ _
theorem ss_len (s : List Int) : (ss s).length = 16 := all16_len _
theorem ss_bs (s : List Int) : Bs (ss s) := all16_bs _ fun _ _ => sbx_b _
/-- a cipher in memory -/
structure CipherAt (w : World) (g bg : Nat) (ks : List Int) : Prop where
 here : w.heap[g]? = some (.cells (ciph bg ks) 67 (0, 0))
 box : w.heap[bg]? = some (.cells bx 80 (0, 0))
 len : ks.length = 176
 bs : Bs ks
theorem CipherAt.keep {w w' : World} {g bg : Nat} {ks : List Int} (h : CipherAt w g bg ks) (hC : Ch (fun _ => False) w w') : CipherAt w' g bg ks := ⟨hC.blk h.here (fun h => h), hC.blk h.box (fun h => h), h.len, h.bs⟩
theorem CipherAt.key {w : World} {g bg : Nat} {ks : List Int} (h : CipherAt w g bg ks) (j : Nat) (hj : j < 176) : w.cell? ⟨g, 1 + j, none⟩ = some (.int .u8 (nt ks j)) := by
 rw [blk_cell h.here, ciph_get _ _ _ (by rw [h.len]; exact hj)]
theorem wp_named {P : Program} (c : Code) {Q : Exit → Act → World → Prop} {a : Act} {w : World} (h : ∀ W, W = w → c.wp P Q a W) : c.wp P Q a w := h w rfl
theorem range_nums {w : World} {g : Nat} {k : IntKind} {l : List Int} {T : TypeId} (h : w.heap[g]? = some (.cells (nums k l).toArray T (0, 0))) : w.rangeAt g 0 (nums k l) := fun j v hv => by rw [Nat.zero_add, blk_cell h]; simpa using hv
def z16 : List Int := List.replicate 16 0
set_option maxRecDepth 100000 in
set_option maxHeartbeats 4000000 in
theorem block5_any (g bg : Nat) (ks b : List Int) (w : World) (hc : CipherAt w g bg ks) (hl : b.length = 16) (hb : Bs b) :
  Calls Tryd.prog 40 #[.pointer (some ⟨g, 0, none⟩), .agg (nums .u8 b).toArray] w fun e w' =>
   e = .returned (.agg (nums .u8 (blk5 ks b)).toArray) ∧ Ch (fun _ => False) w w' := by
 have HCI := Lib.hid hc
 have HL := Lib.hid hl
 have hgw := blk_lt hc.here
 have hbw := blk_lt hc.box
 clear hc hl
 go_enter Tryd.func40, Tryd.ntmps40
 go_upto_region 1 with fail
 refine wp_named _ fun w1 hw1 => ?_
 have hC1 : Ch (fun _ => False) w w1 := by rw [hw1]; exact ((Ch.refl _ _).alloc _).alloc _
 have hB1 : w1.rangeAt w.heap.size 0 (nums .u8 b) := by rw [hw1]; exact fun j v hv => by rw [Nat.zero_add, blk_cell (heap_alloc2_old _ _ _)]; simpa using hv
 have hR1 : w1.heap[w.heap.size + 1]? = some (.cells (nums .u8 z16).toArray 22 (0, 0)) := by rw [hw1]; exact heap_alloc2_new _ _ _
 have hZ1 : w1.heap.size = w.heap.size + 2 := by rw [hw1]; simp
 have HB1 := Lib.hid hB1
 clear hw1 hB1
 obtain ⟨r, hr⟩ : ∃ r, w.heap.size + 1 = r := ⟨_, rfl⟩
 obtain ⟨s, hs⟩ : ∃ s, w1.heap.size = s := ⟨_, rfl⟩
 have HN : Hid (r = w.heap.size + 1 ∧ s = w.heap.size + 2 ∧ g < w.heap.size ∧ bg < w.heap.size) := Lib.hid ⟨hr.symm, by rw [← hs, hZ1], hgw, hbw⟩
 rw [hr] at hR1 ⊢
 have HC1 := Lib.hid hC1
 have HR1 := Lib.hid hR1
 have HS := Lib.hid hs
 clear hr hgw hbw hZ1 hC1 hR1 hs
 go_wp2_with (first
  | (refine wpList_load_mid rfl 22 (.tmp 3) rfl w.heap.size 0 rfl (nums .u8 b) (.array 16 5) HB1.out Tryd.underlying22 rfl (by rw [nums_len, HL.out]; kernel_rfl) ?_)
  | (refine Great.wpList_runTo rfl (some 5) rfl (.pointer (some ⟨w1.heap.size, 0, none⟩)) (w1.alloc (.cells (nums .u8 z16).toArray 22)) (by kernel_rfl) ?_)
  | (refine wpList_store_row rfl 22 (.tmp 5) (.tmp 12) rfl w1.heap.size (nums .u8 b).toArray rfl rfl 22 (nums .u8 z16).toArray (heap_alloc_new _ _) (by rw [List.size_toArray, nums_len, HL.out]; kernel_rfl) (by simp [nums, HL.out, z16]) (all_nums _ _) ?_; rw [setRow_alloc]; obtain ⟨w2, hw2⟩ : ∃ w2, w1.alloc (.cells (nums .u8 b).toArray 22) = w2 := ⟨_, rfl⟩; rw [hw2, HS.out]; (have HC2 : Hid (Ch (fun _ => False) w w2) := by rw [← hw2]; exact HC1.out.alloc _); (have HR2 : Hid (w2.heap[r]? = some (.cells (nums .u8 z16).toArray 22 (0, 0))) := by rw [← hw2]; exact Ch.blk ((Ch.refl (fun _ => False) _).alloc _) HR1.out (fun h => h)); (have HS2 : Hid (w2.heap[s]? = some (.cells (nums .u8 b).toArray 22 (0, 0))) := by rw [← hw2, ← HS.out]; exact heap_alloc_new _ _); clear hw2))
 clear HC1 HB1 HR1 HS
 go_loopw [6, 13] (fun _ i wr => ∃ k : Nat, k ≤ 16 ∧ i = .int .i64 k ∧ wr.heap[s]? = some (.cells (nums .u8 (mapTo (fun i => x8 (nt b i) (nt ks (0 + i))) b k)).toArray 22 (0, 0)) ∧ wr.heap[r]? = some (.cells (nums .u8 z16).toArray 22 (0, 0)) ∧ Ch (fun _ => False) w wr) (fun _ i _ => (16 - intOf i).toNat)
 case atStart => exact ⟨0, by omega, rfl, by rw [mapTo_0 _ _ HL.out]; exact HS2.out, HR2.out, HC2.out⟩
 case round =>
  obtain ⟨k, hk, rfl, hS, hR, hC⟩ := hrel
  have HS := Lib.hid hS
  have HR := Lib.hid hR
  have HC := Lib.hid hC
  clear hS hR hC HS2 HR2 HC2
  by_cases hlt : k < 16
  ·--[A1
   have cs := blk_nums HS.out k (by rw [mapTo_len]; exact hlt)
   rw [mapTo_at _ _ _ _ hlt, if_neg (by omega)] at cs
   have ck := (HCI.out.keep HC.out).key k (by omega)
   obtain ⟨x0, x1⟩ := hb.at k
   obtain ⟨y0, y1⟩ := HCI.out.bs.at k
   have HX := Lib.hid (show x8 (nt b k) (nt ks (0 + k)) = bits .xor .u8 (nt b k) (nt ks k) by rw [Nat.zero_add]; rfl)
   go_wp2
   refine wp_region_quiet_tail 12 (by kernel_rfl) (by kernel_rfl) ?_
   simp only [List.take_succ_cons, List.take_zero, List.drop_succ_cons, List.drop_zero]
   repeat (go_big_quiet_step (fail))
   refine wpQuiet_nil ?_
   intro wq hw'
   obtain ⟨nd, rfl⟩ := hw'
   have HSq := Lib.hid (drewN_blk nd HS.out)
   have HRq := Lib.hid (drewN_blk nd HR.out)
   have HCq := Lib.hid (HC.out.drewN nd)
   generalize wr.drewN nd = wq at *
   refine wpList_store_at rfl 5 (.tmp 27) (.tmp 26) rfl s k (.int .u8 (bits .xor .u8 (nt b k) (nt ks k))) rfl rfl rfl _ _ HSq.out (by rw [List.size_toArray, nums_len, mapTo_len]; exact hlt) (by kernel_rfl) ?_
   intro w5 hw' hc'
   rw [nums_set, ← HX.out, mapTo_set (fun i => x8 (nt b i) (nt ks (0 + i))) b k hlt] at hw'
   have HS5 := Lib.hid hw'
   have HR5 := Lib.hid (hc'.blk HRq.out (by have := HN.out; omega))
   have HC5 := Lib.hid (HCq.out.then_ hc' (fun i hi e => by have := HN.out; omega))
   clear hw' hc'
   simp only [Act.put]
   go_wp2
   exact ⟨⟨k + 1, by omega, by go_num, HS5.out, HR5.out, HC5.out⟩, by simp [intOf]; omega⟩
   --A1]
  ·obtain rfl : k = 16 := by omega
   rw [show ((16 : Nat) : Int) = 16 from rfl]
   have HS1 : Hid (wr.heap[s]? = some (.cells (nums .u8 (blkTo ks b 0)).toArray 22 (0, 0))) := by
    have := HS.out
    rw [mapTo_16] at this
    exact this
   clear HS hlt hk
   go_wp2
   clear hb
   obtain ⟨wo, hwo⟩ : ∃ wo : World, wo = wr := ⟨_, rfl⟩
   rw [← hwo] at HS1 HR HC ⊢
   clear hwo
   go_loopw [7] (fun n wr => ∃ m : Nat, m ≤ 10 ∧ n = .int .i64 (m + 1) ∧ wr.heap[s]? = some (.cells (nums .u8 (blkTo ks b m)).toArray 22 (0, 0)) ∧ wr.heap[r]? = some (.cells (nums .u8 z16).toArray 22 (0, 0)) ∧ Ch (fun _ => False) w wr) (fun n _ => (11 - intOf n).toNat)
   case atStart => exact ⟨0, by omega, rfl, HS1.out, HR.out, HC.out⟩
   case round =>
    obtain ⟨m, hm, rfl, hS, hR, hC⟩ := hrel
    clear HS1 HR HC
    have HS := Lib.hid hS
    have HR := Lib.hid hR
    have HC := Lib.hid hC
    clear hS hR hC
    by_cases hm10 : m < 10
    ·have hsl := blkTo_len ks b m
     have hsb := blkTo_bs ks b m
     have hnx : blkTo ks b (m + 1) = xk (if m + 1 < 10 then mixN (ss (blkTo ks b m)) 4 else ss (blkTo ks b m)) ks (16 * (m + 1)) := rfl
     have HNX := Lib.hid hnx
     clear hnx
     have HSL := Lib.hid hsl
     generalize blkTo ks b m = S at *
     clear hsl
     have hm11 : decide ((m : Int) + 1 < 11) = true := by simp; omega
     go_upto_region 11 with fail
     refine wp_named _ fun w3 hw3 => ?_
     have hT3 : w3.heap[wr.heap.size]? = some (.cells (nums .u8 z16).toArray 22 (0, 0)) := by rw [hw3]; exact heap_alloc_new _ _
     have hC3 : Ch (fun _ => False) wr w3 := by rw [hw3]; exact (Ch.refl _ _).alloc _
     obtain ⟨t, ht⟩ : ∃ t, wr.heap.size = t := ⟨_, rfl⟩
     rw [ht] at hT3 ⊢
     have HT : Hid (t ≠ s ∧ t ≠ r ∧ w.heap.size ≤ t) := Lib.hid ⟨by have := blk_lt HS.out; omega, by have := blk_lt HR.out; omega, by have := HC.out.size; omega⟩
     have HT3 := Lib.hid hT3
     have HS3 := Lib.hid (hC3.blk HS.out (fun h => h))
     have HR3 := Lib.hid (hC3.blk HR.out (fun h => h))
     have HC3 := Lib.hid (HC.out.trans hC3)
     clear hw3 hT3 hC3 ht HS HR HC
     go_wp2
     obtain ⟨wn, hwn⟩ : ∃ wn : World, wn = wr := ⟨_, rfl⟩
     clear hwn
     go_loopw [9, 33] (fun _ i wr => ∃ k : Nat, k ≤ 16 ∧ i = .int .i64 k ∧ wr.heap[t]? = some (.cells (nums .u8 (mapTo (fun i => sbx (nt S ((i + 4 * (i % 4)) % 16))) z16 k)).toArray 22 (0, 0)) ∧ wr.heap[s]? = some (.cells (nums .u8 S).toArray 22 (0, 0)) ∧ wr.heap[r]? = some (.cells (nums .u8 z16).toArray 22 (0, 0)) ∧ Ch (fun _ => False) w wr) (fun _ i _ => (16 - intOf i).toNat)
     case atStart => exact ⟨0, by omega, rfl, by rw [mapTo_0 _ _ rfl]; exact HT3.out, HS3.out, HR3.out, HC3.out⟩
     case round =>
      obtain ⟨k, hk, rfl, hT, hS, hR, hC⟩ := hrel
      have HTT := Lib.hid hT
      have HS := Lib.hid hS
      have HR := Lib.hid hR
      have HC := Lib.hid hC
      clear hT hS hR hC HT3 HS3 HR3 HC3
      by_cases hlt : k < 16
      ·--[A2
       have cb : wr.cell? ⟨g, 0, none⟩ = some (.pointer (some ⟨bg, 0, none⟩)) := by rw [blk_cell (HCI.out.keep HC.out).here]; rfl
       have cs := blk_nums HS.out ((k + 4 * (k % 4)) % 16) (by rw [HSL.out]; omega)
       have cx : wr.cell? ⟨bg, (nt S ((k + 4 * (k % 4)) % 16)).toNat, none⟩ = some (.int .u8 (sbx (nt S ((k + 4 * (k % 4)) % 16)))) := by rw [blk_cell (HCI.out.keep HC.out).box]; exact bx_get _ (hsb.at _)
       obtain ⟨x0, x1⟩ := hsb.at ((k + 4 * (k % 4)) % 16)
       have HB := Lib.hid (sbx_b (nt S ((k + 4 * (k % 4)) % 16)))
       go_wp2
       refine wp_region_quiet_tail 17 (by kernel_rfl) (by kernel_rfl) ?_
       simp only [List.take_succ_cons, List.take_zero, List.drop_succ_cons, List.drop_zero]
       repeat (go_big_quiet_step (fail))
       refine wpQuiet_nil ?_
       intro wq hw'
       obtain ⟨nd, rfl⟩ := hw'
       have HTq := Lib.hid (drewN_blk nd HTT.out)
       have HSq := Lib.hid (drewN_blk nd HS.out)
       have HRq := Lib.hid (drewN_blk nd HR.out)
       have HCq := Lib.hid (HC.out.drewN nd)
       generalize wr.drewN nd = wq at *
       refine wpList_store_at rfl 5 (.tmp 52) (.tmp 51) rfl t k (.int .u8 (sbx (nt S ((k + 4 * (k % 4)) % 16)))) rfl rfl rfl _ _ HTq.out (by rw [List.size_toArray, nums_len, mapTo_len]; exact hlt) (by kernel_rfl) ?_
       intro w5 hw' hc'
       rw [nums_set, mapTo_set (fun i => sbx (nt S ((i + 4 * (i % 4)) % 16))) z16 k hlt] at hw'
       have HT5 := Lib.hid hw'
       have HS5 := Lib.hid (hc'.blk HSq.out (by have := HT.out; omega))
       have HR5 := Lib.hid (hc'.blk HRq.out (by have := HT.out; omega))
       have HC5 := Lib.hid (HCq.out.then_ hc' (fun i hi e => by have := HT.out; omega))
       clear hw' hc'
       simp only [Act.put]
       go_wp2
       exact ⟨⟨k + 1, by omega, by go_num, HT5.out, HS5.out, HR5.out, HC5.out⟩, by simp [intOf]; omega⟩
       --A2]
      ·obtain rfl : k = 16 := by omega
       rw [show ((16 : Nat) : Int) = 16 from rfl]
       have HT4 : Hid (wr.heap[t]? = some (.cells (nums .u8 (mixN (ss S) 0)).toArray 22 (0, 0))) := by
        have := HTT.out
        rw [mapTo_16] at this
        exact this
       clear HTT hlt hk
       go_wp2
       obtain ⟨wp, hwp⟩ : ∃ wp : World, wp = wr := ⟨_, rfl⟩
       rw [← hwp] at HT4 HS HR HC ⊢
       clear hwp
       have hml := mixN_len (ss S)
       have hmb := mixN_bs (ss S) (ss_bs S)
       rw [ss_len] at hml
       have HML := Lib.hid hml
       have HMB := Lib.hid hmb
       clear hml hmb
       go_loopw [10] (fun at_ wr => ∃ j : Nat, j ≤ 4 ∧ (j = 0 ∨ m + 1 < 10) ∧ at_ = .int .i64 ((4 * j : Nat) : Int) ∧ wr.heap[t]? = some (.cells (nums .u8 (mixN (ss S) j)).toArray 22 (0, 0)) ∧ wr.heap[s]? = some (.cells (nums .u8 S).toArray 22 (0, 0)) ∧ wr.heap[r]? = some (.cells (nums .u8 z16).toArray 22 (0, 0)) ∧ Ch (fun _ => False) w wr) (fun at_ _ => (16 - intOf at_).toNat)
       case atStart => exact ⟨0, by omega, .inl rfl, rfl, HT4.out, HS.out, HR.out, HC.out⟩
       case round =>
        obtain ⟨j, hj, hjm, rfl, hT, hS, hR, hC⟩ := hrel
        clear HT4 HS HR HC
        have HTT := Lib.hid hT
        have HS := Lib.hid hS
        have HR := Lib.hid hR
        have HC := Lib.hid hC
        clear hT hS hR hC
        by_cases hgo : j < 4 ∧ m + 1 < 10
        ·obtain ⟨hj4, hm9⟩ := hgo
         have HMX := Lib.hid (mix_any t (mixN (ss S) j) _ (4 * j) wr (HML.out j) (HMB.out j) HTT.out (by omega))
         have hm9' : decide ((m : Int) + 1 < 10) = true := by simp; omega
         go_wp2_with (go_at_call 51; refine (HMX.out).mono ?_; rintro e w5 ⟨rfl, hT, hc⟩; have HT5 := Lib.hid hT; have HS5 := Lib.hid (hc.blk HS.out (by have := HT.out; omega)); have HR5 := Lib.hid (hc.blk HR.out (by have := HT.out; omega)); have HC5 := Lib.hid (HC.out.then_ hc (fun i hi e => by have := HT.out; omega)); clear hT hc)
         exact ⟨⟨j + 1, by omega, .inr hm9, by go_num, HT5.out, HS5.out, HR5.out, HC5.out⟩, by simp [intOf]; omega⟩
        ·have hend : (j = 4 ∧ m + 1 < 10) ∨ (j = 0 ∧ ¬ m + 1 < 10) := by omega
         have HT6 : Hid (wr.heap[t]? = some (.cells (nums .u8 (if m + 1 < 10 then mixN (ss S) 4 else ss S)).toArray 22 (0, 0))) := by
          rcases hend with ⟨rfl, h9⟩ | ⟨rfl, h9⟩
          ·rw [if_pos h9]; exact HTT.out
          ·rw [if_neg h9]; exact HTT.out
         have hul : (if m + 1 < 10 then mixN (ss S) 4 else ss S).length = 16 := by
          split
          ·exact HML.out 4
          ·exact ss_len S
         have hub : Bs (if m + 1 < 10 then mixN (ss S) 4 else ss S) := by
          split
          ·exact HMB.out 4
          ·exact ss_bs S
         have HUL := Lib.hid hul
         generalize (if m + 1 < 10 then mixN (ss S) 4 else ss S) = U at *
         clear hul HTT HML HMB hgo
         rcases hend with ⟨rfl, h9⟩ | ⟨rfl, h9⟩
         all_goals
          first | rw [show ((4 * 4 : Nat) : Int) = 16 from rfl] | (rw [show ((4 * 0 : Nat) : Int) = 0 from rfl]; have h9' : decide ((m : Int) + 1 < 10) = false := by simp; omega)
          go_wp2
          obtain ⟨wv, hwv⟩ : ∃ wv : World, wv = wr := ⟨_, rfl⟩
          rw [← hwv] at HT6 HS HR HC ⊢
          clear hwv
          go_loopw [11, 64] (fun _ i wr => ∃ k : Nat, k ≤ 16 ∧ i = .int .i64 k ∧ wr.heap[s]? = some (.cells (nums .u8 (mapTo (fun i => x8 (nt U i) (nt ks (16 * (m + 1) + i))) S k)).toArray 22 (0, 0)) ∧ wr.heap[t]? = some (.cells (nums .u8 U).toArray 22 (0, 0)) ∧ wr.heap[r]? = some (.cells (nums .u8 z16).toArray 22 (0, 0)) ∧ Ch (fun _ => False) w wr) (fun _ i _ => (16 - intOf i).toNat)
          case atStart => exact ⟨0, by omega, rfl, by rw [mapTo_0 _ _ HSL.out]; exact HS.out, HT6.out, HR.out, HC.out⟩
          case round =>
           obtain ⟨k, hk, rfl, hS, hT, hR, hC⟩ := hrel
           clear HT6 HS HR HC
           have HTT := Lib.hid hT
           have HS := Lib.hid hS
           have HR := Lib.hid hR
           have HC := Lib.hid hC
           clear hT hS hR hC
           by_cases hlt : k < 16
           ·--[A3
            have cu := blk_nums HTT.out k (by rw [HUL.out]; exact hlt)
            have cs := blk_nums HS.out k (by rw [mapTo_len]; exact hlt)
            have ck := (HCI.out.keep HC.out).key (16 * (m + 1) + k) (by omega)
            rw [show 1 + (16 * (m + 1) + k) = 1 + (m + 1) * 16 + k by omega] at ck
            obtain ⟨x0, x1⟩ := hub.at k
            obtain ⟨y0, y1⟩ := HCI.out.bs.at (16 * (m + 1) + k)
            go_wp2
            refine wp_region_quiet_tail 14 (by kernel_rfl) (by kernel_rfl) ?_
            simp only [List.take_succ_cons, List.take_zero, List.drop_succ_cons, List.drop_zero]
            repeat (go_big_quiet_step (fail))
            refine wpQuiet_nil ?_
            intro wq hw'
            obtain ⟨nd, rfl⟩ := hw'
            have HTq := Lib.hid (drewN_blk nd HTT.out)
            have HSq := Lib.hid (drewN_blk nd HS.out)
            have HRq := Lib.hid (drewN_blk nd HR.out)
            have HCq := Lib.hid (HC.out.drewN nd)
            generalize wr.drewN nd = wq at *
            refine wpList_store_at rfl 5 (.tmp 80) (.tmp 79) rfl s k (.int .u8 (x8 (nt U k) (nt ks (16 * (m + 1) + k)))) rfl rfl rfl _ _ HSq.out (by rw [List.size_toArray, nums_len, mapTo_len]; exact hlt) (by kernel_rfl) ?_
            intro w5 hw' hc'
            rw [nums_set, mapTo_set (fun i => x8 (nt U i) (nt ks (16 * (m + 1) + i))) S k hlt] at hw'
            have HS5 := Lib.hid hw'
            have HT5 := Lib.hid (hc'.blk HTq.out (by have := HT.out; omega))
            have HR5 := Lib.hid (hc'.blk HRq.out (by have := HN.out; omega))
            have HC5 := Lib.hid (HCq.out.then_ hc' (fun i hi e => by have := HN.out; omega))
            clear hw' hc'
            simp only [Act.put]
            go_wp2
            exact ⟨⟨k + 1, by omega, by go_num, HS5.out, HT5.out, HR5.out, HC5.out⟩, by simp [intOf]; omega⟩
            --A3]
           ·obtain rfl : k = 16 := by omega
            have HS7 := HS.out
            rw [mapTo_16] at HS7
            have HS7 := Lib.hid HS7
            clear HS hlt hk
            rw [show ((16 : Nat) : Int) = 16 from rfl]
            go_wp2
            exact ⟨⟨m + 1, by omega, by go_num, by rw [HNX.out]; exact HS7.out, HR.out, HC.out⟩, by simp [intOf]; omega⟩
    ·obtain rfl : m = 10 := by omega
     have HCF := Lib.hid (HC.out)
     go_wp2_with (first
      | (refine wpList_load_mid rfl 22 (.tmp 5) rfl s 0 rfl (nums .u8 (blkTo ks b 10)) (.array 16 5) (range_nums HS.out) Tryd.underlying22 rfl (by rw [nums_len, blkTo_len]; kernel_rfl) ?_)
      | (refine wpList_store_row rfl 22 (.tmp 4) (.tmp 82) rfl r (nums .u8 (blkTo ks b 10)).toArray rfl rfl 22 (nums .u8 z16).toArray HR.out (by rw [List.size_toArray, nums_len, blkTo_len]; kernel_rfl) (by simp [nums, blkTo_len, z16]) (all_nums _ _) ?_))
     refine bodyPost_ret (results_cell_row rfl _ _ r 22 (nums .u8 (blkTo ks b 10)).toArray (0, 0) (.array 16 5) rfl (setRow_heap _ _ _ _ _ _ HR.out) Tryd.underlying22 rfl (by rw [List.size_toArray, nums_len, blkTo_len]; kernel_rfl)) rfl ⟨rfl, HC.out.setRow (.inr (by have := HN.out; omega)) _⟩
end Go.Proofs.YtejhjlfakfaegaaDoor
set_option linter.unusedSimpArgs false
set_option linter.unusedVariables false
namespace Go.Proofs.YtejhjlfakfaegaaDoor
open Go.RowKit Go.Proofs.YtejhjlfakfaegaaDoorW.PrintWords Go.Proofs.YtejhjlfakfaegaaDoorW.PrintMore
attribute [local go_sem] max2_int min2_int max_two min_two

/-- a byte goes into a row of the call's own -/
theorem wpList_store_own {P : Program} {ops : Array Oper} {rest : List Oper} {op : Oper} {a : Act} {w : World} {Q : Exit → Act → World → Prop} (hgd : op.guard = none) (ty : TypeId) (x y : Operand) (ho : op.op = .store ty x y)
  (g i : Nat) (k : IntKind) (v : Int) (hx : a.eval x = .pointer (some ⟨g, i, none⟩)) (hy : a.eval y = .int k v)
  (base n cap : Nat) (e : TypeId) (l : List Int) (hg : w.ownsRow base e 1 (.slice (some ⟨g, 0, none⟩) n cap) n (nums k l)) (hfit : i < n) (hi : (P.info? ty).map (·.size) = some 1)
  (h : ∀ w', w'.ownsRow base e 1 (.slice (some ⟨g, 0, none⟩) n cap) n (nums k (l.set i v)) → Ch (· = g) w w' → wpList P ops Q rest (a.put op.dst undef) w') : wpList P ops Q (op :: rest) a w := by
 obtain ⟨h1, h2⟩ := hg
 rcases h2 with ⟨he, h0⟩ | ⟨g', cap', cur, he, hb, hh, hnc, hcm, hcs, ht⟩
 ·omega
 ·injection he with e1 e2 e3
  injection e1 with e1
  injection e1 with e1
  subst e1 e3
  rw [Nat.mul_one] at hcs ht
  refine wpList_store_at hgd ty x y ho g i (.int k v) hx hy rfl cur e hh (by omega) hi fun w' hw' hc => h w' ⟨by simpa [nums] using h1, .inr ⟨g, cap, _, rfl, hb, hw', hnc, hcm, by simpa using hcs, ?_⟩⟩ hc
  rw [Nat.mul_one, Array.toList_setIfInBounds, List.take_set, ht]
  simp [nums, List.map_set]
/-- a number, one more: of the last bytes, which carry -/
def cAt (l : List Int) : Nat → Int
 | 0 => 1
 | k + 1 => if cAt l k = 1 ∧ nt l (15 - k) = 255 then 1 else 0
def inc (l : List Int) : List Int := all16 fun i => (nt l i + cAt l (15 - i)) % 256
def incTo (l : List Int) (p : Nat) : List Int := all16 fun i => if p ≤ i then (nt l i + cAt l (15 - i)) % 256 else nt l i
def incN (l : List Int) : Nat → List Int
 | 0 => l
 | q + 1 => inc (incN l q)
theorem cAt_01 (l : List Int) : ∀ k, cAt l k = 0 ∨ cAt l k = 1
 | 0 => .inr rfl
 | k + 1 => by
  rw [cAt]
  split
  ·exact .inr rfl
  ·exact .inl rfl
theorem cAt_dead (l : List Int) (k : Nat) (h : cAt l k = 0) : ∀ d, cAt l (k + d) = 0
 | 0 => h
 | d + 1 => by rw [← Nat.add_assoc, cAt, if_neg]; rw [cAt_dead l k h d]; omega
theorem inc_b (l : List Int) (hl : l.length = 16) (hb : Bs l) : Bs (inc l) := all16_bs _ fun j hj => ⟨by omega, by omega⟩
theorem inc_len (l : List Int) : (inc l).length = 16 := all16_len _
theorem incN_len (l : List Int) (h : l.length = 16) : ∀ q, (incN l q).length = 16
 | 0 => h
 | q + 1 => inc_len _
theorem incN_b (l : List Int) (h : l.length = 16) (hb : Bs l) : ∀ q, Bs (incN l q)
 | 0 => hb
 | q + 1 => inc_b _ (incN_len l h q) (incN_b l h hb q)
theorem incTo_len (l : List Int) (p : Nat) : (incTo l p).length = 16 := all16_len _
theorem incTo_16 (l : List Int) (h : l.length = 16) : incTo l 16 = l := nt_ext (incTo_len _ _) h fun j hj => by rw [incTo, all16_at _ _ hj, if_neg (by omega)]
theorem incTo_0 (l : List Int) : incTo l 0 = inc l := nt_ext (incTo_len _ _) (inc_len _) fun j hj => by rw [incTo, inc, all16_at _ _ hj, all16_at _ _ hj, if_pos (by omega)]
theorem incTo_at (l : List Int) (p : Nat) (h : p < 16) : nt (incTo l (p + 1)) p = nt l p := by rw [incTo, all16_at _ _ h, if_neg (by omega)]
theorem incTo_set (l : List Int) (p : Nat) (h : p < 16) (hc : cAt l (15 - p) = 1) : (incTo l (p + 1)).set p ((nt l p + 1) % 256) = incTo l p :=
 nt_ext (by simp [incTo_len]) (incTo_len _ _) fun j hj => by
  rw [nt_set (by rw [incTo_len]; exact h) (by rw [incTo_len]; exact hj), incTo, incTo, all16_at _ _ hj, all16_at _ _ hj]
  by_cases e : p = j
  ·subst e; rw [if_pos rfl, if_pos (by omega), hc]
  ·rw [if_neg e]
   by_cases e2 : p + 1 ≤ j
   ·rw [if_pos e2, if_pos (by omega)]
   ·rw [if_neg e2, if_neg (by omega)]
theorem cAt_go (l : List Int) (p : Nat) (h : p < 16) (hp : 0 < p) (hc : cAt l (15 - p) = 1) (hx : nt l p = 255) : cAt l (15 - (p - 1)) = 1 := by
 rw [show 15 - (p - 1) = (15 - p) + 1 by omega, cAt, if_pos ⟨hc, by rw [show 15 - (15 - p) = p by omega]; exact hx⟩]
theorem incTo_end (l : List Int) (p : Nat) (h : p < 16) (hb : Bs l) (hx : nt l p ≠ 255) : incTo l p = inc l := by
 have hdead : ∀ j, j < p → cAt l (15 - j) = 0 := fun j hj => by
  have h0 : cAt l ((15 - p) + 1) = 0 := by rw [cAt, if_neg]; rw [show 15 - (15 - p) = p by omega]; exact fun e => hx e.2
  have := cAt_dead l _ h0 (p - j - 1)
  rwa [show 15 - p + 1 + (p - j - 1) = 15 - j by omega] at this
 refine nt_ext (incTo_len _ _) (inc_len _) fun j hj => ?_
 rw [incTo, inc, all16_at _ _ hj, all16_at _ _ hj]
 by_cases e : p ≤ j
 ·rw [if_pos e]
 ·rw [if_neg e, hdead j (by omega)]
  have := hb.at j
  omega
/-- bytes against the blocks of numbers, from one on: the first j are done -/
def stTo (ks from_ b : List Int) (j : Nat) : List Int := (List.range b.length).map fun i => if i < j then x8 (nt b i) (nt (blk5 ks (incN from_ (i / 16))) (i % 16)) else nt b i
def strm (ks from_ b : List Int) : List Int := (List.range b.length).map fun i => x8 (nt b i) (nt (blk5 ks (incN from_ (i / 16))) (i % 16))
theorem stTo_len (ks f b : List Int) (j : Nat) : (stTo ks f b j).length = b.length := by simp [stTo]
theorem strm_len (ks f b : List Int) : (strm ks f b).length = b.length := by simp [strm]
theorem stTo_at (ks f b : List Int) (j i : Nat) (h : i < b.length) : nt (stTo ks f b j) i = if i < j then x8 (nt b i) (nt (blk5 ks (incN f (i / 16))) (i % 16)) else nt b i := by
 rw [nt_get (by rw [stTo_len]; exact h)]
 simp [stTo]
theorem nt_extn {a b : List Int} (hb : a.length = b.length) (h : ∀ j, j < a.length → nt a j = nt b j) : a = b := by
 apply List.ext_getElem hb
 intro i h1 h2
 have := h i h1
 rwa [nt_get h1, nt_get h2] at this
theorem stTo_0 (ks f b : List Int) : stTo ks f b 0 = b := nt_extn (stTo_len _ _ _ _) fun j hj => by rw [stTo_at _ _ _ _ _ (by rwa [stTo_len] at hj), if_neg (by omega)]
theorem stTo_all (ks f b : List Int) (j : Nat) (h : b.length ≤ j) : stTo ks f b j = strm ks f b := by
 unfold stTo strm
 apply List.map_congr_left
 intro i hi
 rw [if_pos (by have := List.mem_range.1 hi; omega)]
theorem stTo_set (ks f b : List Int) (j : Nat) (h : j < b.length) : (stTo ks f b j).set j (x8 (nt b j) (nt (blk5 ks (incN f (j / 16))) (j % 16))) = stTo ks f b (j + 1) :=
 nt_extn (by simp [stTo_len]) fun i hi => by
  rw [List.length_set, stTo_len] at hi
  rw [nt_set (by rw [stTo_len]; exact h) (by rw [stTo_len]; exact hi), stTo_at _ _ _ _ _ hi, stTo_at _ _ _ _ _ hi]
  by_cases e : j = i
  ·subst e; rw [if_pos rfl, if_pos (by omega)]
  ·rw [if_neg e]
   by_cases e2 : i < j
   ·rw [if_pos e2, if_pos (by omega)]
   ·rw [if_neg e2, if_neg (by omega)]
set_option maxRecDepth 100000 in
set_option maxHeartbeats 4000000 in
theorem stream5_any (g bg : Nat) (ks f b : List Int) (A : Option Addr) (n c : Nat) (w : World) (hc : CipherAt w g bg ks) (hl : f.length = 16) (hf : Bs f) (hr : ReadsInt w .u8 A n b) (hb : Bs b) (hn : n < 1000000) :
  Calls Tryd.prog 21 #[.pointer (some ⟨g, 0, none⟩), .agg (nums .u8 f).toArray, .slice A n c] w fun e w' =>
   ∃ v, e = .returned v ∧ w'.ownsRow w.heap.size 5 1 v n (nums .u8 (strm ks f b)) ∧ Ch (fun _ => False) w w' := by
 have HCI := Lib.hid hc
 have HL := Lib.hid hl
 have HR := Lib.hid hr
 have HBL := Lib.hid hr.1
 clear hc hl hr
 go_enter Tryd.func21, Tryd.ntmps21
 go_upto_region 1 with fail
 refine wp_named _ fun w1 hw1 => ?_
 have hC1 : Ch (fun _ => False) w w1 := by rw [hw1]; exact (Ch.refl _ _).alloc _
 have hF1 : w1.heap[w.heap.size]? = some (.cells (nums .u8 f).toArray 22 (0, 0)) := by rw [hw1]; exact heap_alloc_new _ _
 obtain ⟨gf, hgf⟩ : ∃ gf, w.heap.size = gf := ⟨_, rfl⟩
 have HGF := Lib.hid hgf
 rw [hgf] at hF1 ⊢
 have hR1 := hC1.reads HR.out (fun _ _ h => h)
 have HC1 := Lib.hid hC1
 have HF1 := Lib.hid hF1
 have HR1 := Lib.hid hR1
 clear hw1 hC1 hF1 hR1 hgf
 go_wp2_with (at_builtin; refine print_append_row (w0 := w1) w1.heap.size rfl _ _ 23 5 .u8 1 rfl Tryd.underlying23 info_u8 (by decide) (.slice none 0 0) [] b _ _ _ rfl rfl (own_nil _ _ _ _) HR1.out (Below.refl _ _) (Nat.le_refl _) (by simp; omega) ?_; intro v2 w2 ho hb2 _ _; have HO2 := Lib.hid ho; have HB2 := Lib.hid hb2; clear ho hb2)
 have ho := HO2.out
 rw [List.nil_append, HBL.out] at ho
 have hF2 : w2.heap[gf]? = some (.cells (nums .u8 f).toArray 22 (0, 0)) := (Ch.of_below (S := fun _ => False) HB2.out).blk HF1.out (fun h => h)
 have hC2 : Ch (fun _ => False) w w2 := HC1.out.trans (Ch.of_below HB2.out)
 have HO := Lib.hid ho
 have HF2 := Lib.hid hF2
 have HC2 := Lib.hid hC2
 have HLO : Hid (gf < w1.heap.size ∧ w.heap.size ≤ w1.heap.size ∧ w.heap.size ≤ gf) := Lib.hid ⟨blk_lt HF1.out, HC1.out.size, by rw [HGF.out]; exact Nat.le_refl _⟩
 clear ho hF2 hC2 HO2 HB2 HF1 HR1 HC1 HR HGF
 rcases Nat.eq_zero_or_pos n with h0 | hpos
 ·subst h0
  obtain ⟨A2, c2, rfl, -⟩ := q_slice (q_of_own HO.out)
  have hz : strm ks f b = b := by rw [← stTo_all ks f b 0 (by have := HBL.out; omega), stTo_0]
  have HZ := Lib.hid hz
  clear hz
  refine wp_loop_rounds 1 ?_
  rw [rounds_succ]
  go_wp2
  go_ret
  refine ⟨_, rfl, ?_, HC2.out⟩
  rw [HZ.out]
  exact own_weaken HO.out HLO.out.2.1
 obtain ⟨A2, c2, rfl, -⟩ := q_slice (q_of_own HO.out)
 obtain ⟨go, rfl, hgo⟩ : ∃ go, A2 = some ⟨go, 0, none⟩ ∧ w1.heap.size ≤ go := by
  rcases HO.out.2 with ⟨he, h0⟩ | ⟨go, cap, cur, he, hb, _⟩
  ·omega
  ·injection he with e1
   exact ⟨go, e1, hb⟩
 have HGO := Lib.hid hgo
 clear hgo
 go_loopw [8] (fun at_ wr => ∃ q : Nat, 16 * q ≤ n + 15 ∧ at_ = .int .i64 ((16 * q : Nat) : Int) ∧ wr.heap[gf]? = some (.cells (nums .u8 (incN f q)).toArray 22 (0, 0)) ∧ wr.ownsRow w1.heap.size 5 1 (.slice (some ⟨go, 0, none⟩) n c2) n (nums .u8 (stTo ks f b (16 * q))) ∧ Ch (fun _ => False) w wr) (fun at_ _ => (n + 16 - intOf at_).toNat)
 case atStart => exact ⟨0, by omega, rfl, HF2.out, by rw [stTo_0]; exact HO.out, HC2.out⟩
 case round =>
  obtain ⟨q, hq, rfl, hF, hO, hC⟩ := hrel
  clear HF2 HO HC2
  have HF := Lib.hid hF
  have HO := Lib.hid hO
  have HC := Lib.hid hC
  clear hF hO hC
  by_cases hlt : 16 * q < n
  ·have HIL := Lib.hid (incN_len f HL.out q)
   have HIB := Lib.hid (incN_b f HL.out hf q)
   have HBK := Lib.hid (block5_any g bg ks (incN f q) wr (HCI.out.keep HC.out) HIL.out HIB.out)
   have HPL := Lib.hid (blkTo_len ks (incN f q) 10)
   have HPB := Lib.hid (blkTo_bs ks (incN f q) 10)
   change Hid ((blk5 ks (incN f q)).length = 16) at HPL
   change Hid (Bs (blk5 ks (incN f q))) at HPB
   go_wp2_with (first
    | (refine wpList_load_mid rfl 22 (.tmp 4) rfl gf 0 rfl (nums .u8 (incN f q)) (.array 16 5) (range_nums HF.out) Tryd.underlying22 rfl (by rw [nums_len, HIL.out]; kernel_rfl) ?_)
    | (go_at_call 40; with_reducible refine (HBK.out).mono ?_; rintro e w3 ⟨rfl, hc3⟩; have HC3 := Lib.hid hc3; clear hc3)
    | (refine Great.wpList_runTo rfl (some 9) rfl (.pointer (some ⟨w3.heap.size, 0, none⟩)) (w3.alloc (.cells (nums .u8 z16).toArray 22)) (by kernel_rfl) ?_)
    | (refine wpList_store_row rfl 22 (.tmp 9) (.tmp 22) rfl w3.heap.size (nums .u8 (blk5 ks (incN f q))).toArray rfl rfl 22 (nums .u8 z16).toArray (heap_alloc_new _ _) (by rw [List.size_toArray, nums_len, HPL.out]; kernel_rfl) (by simp [nums, HPL.out, z16]) (all_nums _ _) ?_; rw [setRow_alloc]))
   refine wp_named _ fun w4 hw4 => ?_
   have hP4 : w4.heap[w3.heap.size]? = some (.cells (nums .u8 (blk5 ks (incN f q))).toArray 22 (0, 0)) := by rw [hw4]; exact heap_alloc_new _ _
   have hC4 : Ch (fun _ => False) wr w4 := by rw [hw4]; exact HC3.out.alloc _
   obtain ⟨gp, hgp⟩ : ∃ gp, w3.heap.size = gp := ⟨_, rfl⟩
   rw [hgp] at hP4 ⊢
   have HGP : Hid (gp ≠ go ∧ gp ≠ gf ∧ w.heap.size ≤ gp ∧ gf ≠ go ∧ w.heap.size ≤ go) := Lib.hid ⟨by have := own_lt HO.out go rfl; have := HC3.out.size; omega, by have := blk_lt HF.out; have := HC3.out.size; omega, by have := HC.out.size; have := HC3.out.size; omega, by have := HLO.out; have := HGO.out; omega, by have := HLO.out; have := HGO.out; omega⟩
   have HP4 := Lib.hid hP4
   have HF4 := Lib.hid (hC4.blk HF.out (fun h => h))
   have HO4 := Lib.hid (own_move HO.out (fun k hk => hC4.block k (own_lt HO.out k hk) (fun h => h)))
   have HC4 := Lib.hid (HC.out.trans hC4)
   clear hw4 hP4 hC4 hgp HF HO HC HC3 HBK
   generalize hpd : blk5 ks (incN f q) = pd at *
   have HPD := Lib.hid hpd
   clear hpd
   obtain ⟨wo, hwo⟩ : ∃ wo : World, wo = w4 := ⟨_, rfl⟩
   rw [← hwo] at HP4 HF4 HO4 HC4 ⊢
   clear hwo
   go_loopw [10] (fun i wr => ∃ j : Nat, 16 * q ≤ j ∧ j ≤ n ∧ j ≤ 16 * q + 16 ∧ i = .int .i64 (j : Int) ∧ wr.heap[gp]? = some (.cells (nums .u8 pd).toArray 22 (0, 0)) ∧ wr.heap[gf]? = some (.cells (nums .u8 (incN f q)).toArray 22 (0, 0)) ∧ wr.ownsRow w1.heap.size 5 1 (.slice (some ⟨go, 0, none⟩) n c2) n (nums .u8 (stTo ks f b j)) ∧ Ch (fun _ => False) w wr) (fun i _ => (16 * q + 16 - intOf i).toNat)
   case atStart => exact ⟨16 * q, by omega, by omega, by omega, by go_num, HP4.out, HF4.out, HO4.out, HC4.out⟩
   case round =>
    obtain ⟨j, hj1, hj2, hj3, rfl, hP, hF, hO, hC⟩ := hrel
    clear HP4 HF4 HO4 HC4
    have HP := Lib.hid hP
    have HF := Lib.hid hF
    have HO := Lib.hid hO
    have HC := Lib.hid hC
    clear hP hF hO hC
    by_cases hjt : j < n ∧ j < 16 * q + 16
    ·--[B1
     obtain ⟨hjn, hjq⟩ := hjt
     have co := (own_reads' HO.out).2.2 (by omega)
     obtain ⟨ad, had, hcell⟩ := co
     injection had with had
     subst had
     have co := hcell j hjn
     rw [add_plain] at co
     change wr.cell? _ = some (.int .u8 (nt (stTo ks f b j) j)) at co
     rw [stTo_at _ _ _ _ _ (by rw [HBL.out]; exact hjn), if_neg (by omega)] at co
     have cp := blk_nums HP.out (j - 16 * q) (by rw [HPL.out]; omega)
     obtain ⟨x0, x1⟩ := hb.at j
     obtain ⟨y0, y1⟩ := HPB.out.at (j - 16 * q)
     have hset : (stTo ks f b j).set j (x8 (nt b j) (nt pd (j - 16 * q))) = stTo ks f b (j + 1) := by
      rw [← stTo_set _ _ _ _ (by rw [HBL.out]; exact hjn), ← HPD.out, show j / 16 = q by omega, show j % 16 = j - 16 * q by omega]
     have HSET := Lib.hid hset
     have hq1 : (16 * (q : Int)) ≤ j := by omega
     have s1 : (16 * (q : Int) + 16) = IntKind.i64.wrap (16 * (q : Int) + 16) := by rw [IntWalk.i64_in _ (by omega)]
     clear hset hcell s1
     have q1 : (j : Int) < (n : Int) := by omega
     have q2 : (j : Int) < 16 * (q : Int) + 16 := by omega
     by_cases hmin : (n : Int) < 16 * (q : Int) + 16
     all_goals
      go_wp2
      refine wp_region_quiet_tail 11 (by kernel_rfl) (by kernel_rfl) ?_
      simp only [List.take_succ_cons, List.take_zero, List.drop_succ_cons, List.drop_zero]
      repeat (go_big_quiet_step (fail))
      refine wpQuiet_nil ?_
      intro wq hw'
      obtain ⟨nd, rfl⟩ := hw'
      have HPq := Lib.hid (drewN_blk nd HP.out)
      have HFq := Lib.hid (drewN_blk nd HF.out)
      have HOq : Hid ((wr.drewN nd).ownsRow w1.heap.size 5 1 (.slice (some ⟨go, 0, none⟩) n c2) n (nums .u8 (stTo ks f b j))) := HO
      have HCq := Lib.hid (HC.out.drewN nd)
      generalize wr.drewN nd = wq at *
      refine wpList_store_own rfl 5 (.tmp 43) (.tmp 42) rfl go j .u8 (x8 (nt b j) (nt pd (j - 16 * q))) rfl rfl _ _ _ _ _ HOq.out hjn (by kernel_rfl) ?_
      intro w5 hw' hc'
      rw [HSET.out] at hw'
      have HO5 := Lib.hid hw'
      have HP5 := Lib.hid (hc'.blk HPq.out (by have := HGP.out; omega))
      have HF5 := Lib.hid (hc'.blk HFq.out (by have := HGP.out; omega))
      have HC5 := Lib.hid (HCq.out.then_ hc' (fun i hi e => by have := HGP.out; omega))
      clear hw' hc'
      simp only [Act.put]
      go_wp2
      exact ⟨⟨j + 1, by omega, by omega, by omega, by go_num, HP5.out, HF5.out, HO5.out, HC5.out⟩, by simp [intOf]; omega⟩
     --B1]
    ·have hend : stTo ks f b j = stTo ks f b (16 * (q + 1)) := by
      by_cases e : j = 16 * q + 16
      ·rw [e, show 16 * (q + 1) = 16 * q + 16 by omega]
      ·rw [stTo_all _ _ _ j (by rw [HBL.out]; omega), stTo_all _ _ _ _ (by rw [HBL.out]; omega)]
     have HO6 := HO.out
     rw [hend] at HO6
     have HO6 := Lib.hid HO6
     clear hend HO HP
     have hmm : ((j : Int) < (if (n : Int) < 16 * (q : Int) + 16 then (n : Int) else 16 * (q : Int) + 16)) ↔ False := by
      split <;> simp <;> omega
     have hm0 : ¬ ((j : Int) < (n : Int)) ∨ ¬ ((j : Int) < 16 * (q : Int) + 16) := by omega
     by_cases hmin : (n : Int) < 16 * (q : Int) + 16
     all_goals
      have hm1 : (if (n : Int) < 16 * (q : Int) + 16 then (n : Int) else 16 * (q : Int) + 16) ≤ (j : Int) := by split <;> omega
      have hd : decide (j < n) = false ∨ decide ((j : Int) < 16 * (q : Int) + 16) = false := by
       rcases hm0 with h | h
       ·exact .inl (by simp; omega)
       ·exact .inr (by simp; omega)
      first
       | (have hd1 : decide (j < n) = false := by simp; omega)
       | (have hd2 : decide ((j : Int) < 16 * (q : Int) + 16) = false := by simp; omega)
      clear hmm hm0 hd
      go_wp2
      obtain ⟨wz, hwz⟩ : ∃ wz : World, wz = wr := ⟨_, rfl⟩
      rw [← hwz] at HF HO6 HC ⊢
      clear hwz
      have HFN : Hid (incN f (q + 1) = inc (incN f q)) := Lib.hid rfl
      generalize hgF : incN f (q + 1) = F' at *
      have HGFN := Lib.hid hgF
      clear hgF
      generalize incN f q = F at *
      go_loopw [11] (fun i wr => ((∃ p : Nat, p ≤ 15 ∧ i = .int .i64 (p : Int) ∧ wr.heap[gf]? = some (.cells (nums .u8 (incTo F (p + 1))).toArray 22 (0, 0)) ∧ cAt F (15 - p) = 1) ∨ (i = .int .i64 (-1) ∧ wr.heap[gf]? = some (.cells (nums .u8 (inc F)).toArray 22 (0, 0)))) ∧ wr.ownsRow w1.heap.size 5 1 (.slice (some ⟨go, 0, none⟩) n c2) n (nums .u8 (stTo ks f b (16 * (q + 1)))) ∧ Ch (fun _ => False) w wr) (fun i _ => (intOf i + 1).toNat)
      case atStart => exact ⟨.inl ⟨15, by omega, rfl, by rw [incTo_16 _ HIL.out]; exact HF.out, rfl⟩, HO6.out, HC.out⟩
      case round =>
       obtain ⟨hF, hO, hC⟩ := hrel
       clear HF HO6 HC
       have HO := Lib.hid hO
       have HC := Lib.hid hC
       clear hO hC
       rcases hF with ⟨p, hp, rfl, hF, hcar⟩ | ⟨rfl, hF⟩
       ·have HF := Lib.hid hF
        have HCAR := Lib.hid hcar
        clear hF hcar
        have cf := blk_nums HF.out p (by rw [incTo_len]; omega)
        rw [incTo_at _ _ (by omega)] at cf
        have ff : wr.frozen? ⟨gf, p, none⟩ = false := blk_frozen HF.out _
        have HSET := Lib.hid (incTo_set F p (by omega) HCAR.out)
        obtain ⟨x0, x1⟩ := HIB.out.at p
        by_cases hx : nt F p = 255
        ·rw [hx, show (((255 : Int) + 1) % 256) = 0 from rfl] at HSET
         rw [hx] at cf
         have HX := Lib.hid hx
         have HNEW : Hid (nt (incTo F p) p = 0) := Lib.hid (by rw [incTo, all16_at _ _ (by omega), if_pos (by omega), hx, HCAR.out]; rfl)
         clear hx x0 x1
         have hS := blk_set HF.out p (.int .u8 0)
         rw [nums_set, HSET.out] at hS
         have HF5 := Lib.hid hS
         have HO5 := Lib.hid (own_move (w1 := wr.setCell ⟨gf, p, none⟩ (.int .u8 0)) HO.out (fun k hk => Below.heap_setCell _ _ _ _ (by have hk' : go = k := Option.some.inj hk; have := HGP.out; show k ≠ gf; omega)))
         have HC5 : Hid (Ch (fun _ => False) w (wr.setCell ⟨gf, p, none⟩ (.int .u8 0))) := Lib.hid (HC.out.setCell (.inr (by have := HLO.out; show w.heap.size ≤ gf; omega)) _)
         clear hS HNEW
         go_wp2
         refine ⟨⟨?_, HO5.out, HC5.out⟩, by simp [intOf]⟩
         by_cases hp0 : p = 0
         ·subst hp0
          exact .inr ⟨by go_num, by rw [← incTo_0]; exact HF5.out⟩
         ·exact .inl ⟨p - 1, by omega, by go_num, by rw [show p - 1 + 1 = p by omega]; exact HF5.out, cAt_go F p (by omega) (by omega) HCAR.out HX.out⟩
        ·have HX := Lib.hid hx
         have hlt5 : nt F p < 255 := by omega
         have HNEW : Hid (nt (incTo F p) p = (nt F p + 1) % 256) := Lib.hid (by rw [incTo, all16_at _ _ (by omega), if_pos (by omega), HCAR.out])
         have hm5 : (nt F p + 1) % 256 = nt F p + 1 := by omega
         rw [hm5] at HSET HNEW
         have hnz : (nt F p + 1 != 0) = true := by rw [bne_iff_ne]; omega
         clear hx hm5 x1
         have hS := blk_set HF.out p (.int .u8 (nt F p + 1))
         rw [nums_set, HSET.out] at hS
         have HF5 := Lib.hid hS
         have HO5 := Lib.hid (own_move (w1 := wr.setCell ⟨gf, p, none⟩ (.int .u8 (nt F p + 1))) HO.out (fun k hk => Below.heap_setCell _ _ _ _ (by have hk' : go = k := Option.some.inj hk; have := HGP.out; show k ≠ gf; omega)))
         have HC5 : Hid (Ch (fun _ => False) w (wr.setCell ⟨gf, p, none⟩ (.int .u8 (nt F p + 1)))) := Lib.hid (HC.out.setCell (.inr (by have := HLO.out; show w.heap.size ≤ gf; omega)) _)
         clear hS HNEW
         go_wp2
         refine ⟨⟨q + 1, by omega, by go_num, ?_, HO5.out, HC5.out⟩, by simp [intOf]; omega⟩
         rw [HGFN.out, HFN.out, ← incTo_end F p (by omega) HIB.out HX.out]
         exact HF5.out
       ·have HF := Lib.hid hF
        clear hF
        go_wp2
        refine ⟨⟨q + 1, by omega, by go_num, ?_, HO.out, HC.out⟩, by simp [intOf]; omega⟩
        rw [HGFN.out, HFN.out]
        exact HF.out
  ·have hz := stTo_all ks f b (16 * q) (by rw [HBL.out]; omega)
   have HZ := Lib.hid hz
   clear hz
   go_wp2
   go_ret
   refine ⟨_, rfl, ?_, HC.out⟩
   rw [← HZ.out]
   exact own_weaken HO.out HLO.out.2.1
end Go.Proofs.YtejhjlfakfaegaaDoor
set_option linter.unusedSimpArgs false
set_option linter.unusedVariables false
namespace Go.Proofs.YtejhjlfakfaegaaDoor
open Go.RowKit Go.Proofs.YtejhjlfakfaegaaDoorW.PrintWords

/-- New, as others use it -/
theorem new5_at (l : List Int) (w : World) (hl : l.length = 16) (hb : Bs l) :
  Calls Tryd.prog 20 #[.agg (nums .u8 l).toArray] w fun e w' =>
   ∃ g bg, e = .returned (.pointer (some ⟨g, 0, none⟩)) ∧ CipherAt w' g bg (kGo l 160) ∧ w.heap.size ≤ g ∧ w.heap.size ≤ bg ∧ Ch (fun _ => False) w w' :=
 (new5_any l w hl hb).mono fun e w' ⟨g, bg, h1, h2, h3, h4, h5, h6⟩ => ⟨g, bg, h1, ⟨h2, h3, by rw [kGo_len, hl], kGo_bs l hb 160⟩, h4, h5, h6⟩
theorem blk_set_of {w w' : World} {g i : Nat} {v : Value} {o : Obj} (h : w.heap[g]? = w'.heap[g]?) (e : (w'.setCell ⟨g, i, none⟩ v).heap[g]? = some o) : (w.setCell ⟨g, i, none⟩ v).heap[g]? = some o := by
 rw [← e]
 show (w.heap.modify _ _)[g]? = (w'.heap.modify _ _)[g]?
 rw [Array.getElem?_modify, Array.getElem?_modify, h]
end Go.Proofs.YtejhjlfakfaegaaDoor
set_option linter.unusedSimpArgs false
set_option linter.unusedVariables false
namespace Go.Proofs.YtejhjlfakfaegaaDoor
open Go.RowKit Go.Proofs.YtejhjlfakfaegaaDoorW.PrintWords

theorem reads_blk {w : World} {g n : Nat} {k : IntKind} {l : List Int} {T : TypeId} (h : w.heap[g]? = some (.cells (nums k l).toArray T (0, 0))) (hl : l.length = n) (hn : n ≤ 9223372036854775807) : ReadsInt w k (some ⟨g, 0, none⟩) n l := by
 refine ⟨hl, hn, fun _ => ⟨_, rfl, fun j hj => ?_⟩⟩
 rw [add_plain, blk_nums h j (by omega)]
 rfl
theorem strm_at (ks f b : List Int) (i : Nat) (h : i < b.length) : nt (strm ks f b) i = x8 (nt b i) (nt (blk5 ks (incN f (i / 16))) (i % 16)) := by
 rw [nt_get (by rw [strm_len]; exact h)]
 simp [strm]
theorem x8_0 (y : Int) (h : B8 y) : x8 0 y = y := by
 obtain ⟨h0, h1⟩ := h
 obtain ⟨n, rfl⟩ := Int.eq_ofNat_of_zero_le h0
 have : ∀ m : Nat, m < 256 → x8 0 (m : Int) = (m : Int) := by decide +kernel
 exact this n (by omega)
end Go.Proofs.YtejhjlfakfaegaaDoor
