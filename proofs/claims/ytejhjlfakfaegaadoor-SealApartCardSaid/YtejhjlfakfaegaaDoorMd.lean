/- The reference's keyed sum. mac's Sum. mac's Derive and Text. mac's Text. Two keys compared. -/
import Derived.Test.YtejhjlfakfaegaaDoorMb
import Derived.Test.YtejhjlfakfaegaaDoorMc
import Derived.Deep.DeepCutAuto
import Derived.Deep.CutBlock
import Derived.Test.YtejhjlfakfaegaaDoorMa
import Derived.Deep.RegionHeld3
import Derived.DeepKeys
set_option linter.unusedSimpArgs false
set_option linter.unusedVariables false
namespace Go.Proofs.YtejhjlfakfaegaaDoor
open Go.RowKit Go.Proofs.YtejhjlfakfaegaaDoorW.PrintWords

/-- a key's bytes, at most sixty-four -/
def key64 (k : List Int) : List Int := if 64 < k.length then sha k else k
def padB (k : List Int) (by_ : Int) : List Int := (List.range 64).map fun i => x8 (nt k i) by_
def hmac (k m : List Int) : List Int := sha (padB (key64 k) 92 ++ sha (padB (key64 k) 54 ++ m))
theorem padB_len (k : List Int) (c : Int) : (padB k c).length = 64 := by simp [padB]
theorem padB_b (k : List Int) (c : Int) : Bs (padB k c) := by
 intro x hx
 simp only [padB, List.mem_map] at hx
 obtain ⟨i, _, rfl⟩ := hx
 exact x8_b _ _
theorem padB_take (k : List Int) (c : Int) (i : Nat) (h : i < 64) : (padB k c).take (i + 1) = (padB k c).take i ++ [x8 (nt k i) c] := by
 rw [List.take_succ_eq_append_getElem (by rw [padB_len]; exact h)]
 simp [padB]
theorem padB_tl (k : List Int) (c : Int) (i : Nat) (h : i ≤ 64) : ((padB k c).take i).length = i := by rw [List.length_take, padB_len]; omega
theorem nt_end (l : List Int) (i : Nat) (h : l.length ≤ i) : nt l i = 0 := by simp [nt, List.getD_eq_getElem?_getD, List.getElem?_eq_none h]
theorem out32_len (h : List Int) : (out32 h).length = 32 := by
 have := outTo_length h 8
 exact this
theorem sha_len (m : List Int) : (sha m).length = 32 := out32_len _
theorem sha_b (m : List Int) : Bs (sha m) := by
 intro x hx
 unfold sha out32 at hx
 simp only [List.mem_flatMap] at hx
 obtain ⟨i, _, hx⟩ := hx
 exact putBytes_bs _ x (List.mem_of_mem_drop hx)
theorem key64_b (k : List Int) (h : Bs k) : Bs (key64 k) := by
 unfold key64
 split
 ·exact sha_b k
 ·exact h
set_option maxRecDepth 100000 in
set_option maxHeartbeats 1000000 in
theorem padded_any (As Ak : Option Addr) (cs ck n : Nat) (k : List Int) (c : Int) (w : World) (hs : ReadsInt w .u32 As 64 kst) (hk : ReadsInt w .u8 Ak n k) (hn : n < 1000000) (hkb : Bs k) (hc : B8 c) :
  Calls Tryd.prog 44 #[.slice As 64 cs, .slice Ak n ck, .int .u8 c] w fun e w' => ∃ v, e = .returned v ∧ w'.ownsRow w.heap.size 5 1 v 64 (nums .u8 (padB (key64 k) c)) ∧ Below w.heap.size w w' := by
 have HS := Lib.hid hs
 have HK := Lib.hid hk
 have HKL := Lib.hid hk.1
 have HC := Lib.hid hc
 obtain ⟨c0, c1⟩ := hc
 have HD := Lib.hid (rdigest_any As Ak cs ck n kst k w hs hk hn kst_w hkb)
 clear hs hk
 go_enter Tryd.func44, Tryd.ntmps44
 go_upto_if 11 with fail
 go_cut [1] (fun s1 wx => ∃ A m cc, s1 = .slice A m cc ∧ m ≤ 64 ∧ ReadsInt wx .u8 A m (key64 k) ∧ Ch (fun _ => False) w wx)
 case first =>
  by_cases h64 : 64 < n
  ·have hk6 : key64 k = sha k := by unfold key64; rw [if_pos (by rw [HKL.out]; exact h64)]
   have HK6 := Lib.hid hk6
   clear hk6
   go_wp2_with (go_at_call 43; with_reducible refine (HD.out).mono ?_; rintro e w2 ⟨v, rfl, ho, hb⟩; rw [← sha_hAt] at ho; obtain ⟨A2, c2, rfl, -⟩ := q_slice ho; have HO := Lib.hid ho; have HB := Lib.hid hb; clear ho hb)
   go_meet
   exact ⟨A2, 32, c2, rfl, by omega, by rw [HK6.out]; exact q_reads HO.out, Ch.of_below HB.out⟩
  ·have hk6 : key64 k = k := by unfold key64; rw [if_neg (by rw [HKL.out]; exact h64)]
   have HK6 := Lib.hid hk6
   clear hk6
   go_wp2
   go_meet
   exact ⟨Ak, n, ck, rfl, by omega, by rw [HK6.out]; exact HK.out, Ch.refl _ _⟩
 case rest =>
  obtain ⟨A, m, cc, rfl, hm, hr, hC⟩ := hcut
  have HR := Lib.hid hr
  have HCX := Lib.hid hC
  have HKB := Lib.hid (key64_b k hkb)
  clear hr hC HD HKL HK
  generalize hkl : key64 k = kl at *
  have HKLL := Lib.hid hkl
  clear hkl
  go_wp2
  go_loopw [7, 8] (fun o i wr => ∃ j : Nat, j ≤ 64 ∧ i = .int .i64 j ∧ wr.ownsRow wc.heap.size 5 1 o j (nums .u8 ((padB kl c).take j)) ∧ Below wc.heap.size wc wr) (fun _ i _ => (64 - intOf i).toNat)
  case atStart => exact ⟨0, by omega, rfl, World.ownsRow_made wc _ 0 (Nat.le_refl _) (by unfold maxLen; omega) rfl, (Below.refl _ _).alloc (Nat.le_refl _) _⟩
  case round =>
   obtain ⟨j, hj, rfl, hO, hB⟩ := hrel
   obtain ⟨Ao, co, rfl⟩ := own_slice hO
   by_cases hlt : j < 64
   ·have hln := padB_tl kl c j (by omega)
    have HO : Hid (wr.ownsRow wc.heap.size 5 1 (.slice Ao j co) ((padB kl c).take j).length (nums .u8 ((padB kl c).take j))) := by rw [hln]; exact Lib.hid hO
    have HSU := Lib.hid (padB_take kl c j hlt)
    have hl64 : Hid ((((padB kl c).take j).length + 1) * 1 ≤ 140737488355328) := Lib.hid (by rw [hln]; omega)
    have HLK := Lib.hid (padB_tl kl c (j + 1) (by omega))
    have HBl := Lib.hid hB
    clear hO hln hB
    generalize hz : (padB kl c).take (j + 1) = zs' at *
    have HZ := Lib.hid hz
    clear hz
    generalize (padB kl c).take j = zs at *
    by_cases hjm : j < m
    ·obtain ⟨ad, hA, hcell⟩ := HR.out.2.2 (by omega)
     have ck := Ch.cell (S := fun _ => False) (Ch.of_below HBl.out) (hcell j hjm) (fun h => h)
     change wr.cell? _ = some (.int .u8 (nt kl j)) at ck
     subst hA
     obtain ⟨x0, x1⟩ := HKB.out.at j
     go_wp2_with (at_builtin; refine print_append_num (w0 := wc) wc.heap.size rfl _ _ 23 5 .u8 1 rfl Tryd.underlying23 info_u8 (by decide) (.slice Ao j co) zs (x8 (nt kl j) c) rfl rfl HO.out HBl.out HBl.out.size hl64.out ?_; intro v1 w4 hown hB1 hg hat; rw [← HSU.out, HLK.out] at hown; have HO4 := Lib.hid hown; have HB4 := Lib.hid hB1; obtain ⟨A4, c4, rfl⟩ := own_slice hown; clear hown hB1 hg hat)
     exact ⟨⟨j + 1, by omega, by go_num, by rw [HZ.out]; exact HO4.out, HB4.out⟩, by simp [intOf]; omega⟩
    ·have hx : x8 (nt kl j) c = c := by rw [nt_end kl j (by rw [HR.out.1]; omega)]; exact x8_0 c HC.out
     rw [hx] at HSU
     clear hx
     go_wp2_with (at_builtin; refine print_append_num (w0 := wc) wc.heap.size rfl _ _ 23 5 .u8 1 rfl Tryd.underlying23 info_u8 (by decide) (.slice Ao j co) zs c rfl rfl HO.out HBl.out HBl.out.size hl64.out ?_; intro v1 w4 hown hB1 hg hat; rw [← HSU.out, HLK.out] at hown; have HO4 := Lib.hid hown; have HB4 := Lib.hid hB1; obtain ⟨A4, c4, rfl⟩ := own_slice hown; clear hown hB1 hg hat)
     exact ⟨⟨j + 1, by omega, by go_num, by rw [HZ.out]; exact HO4.out, HB4.out⟩, by simp [intOf]; omega⟩
   ·obtain rfl : j = 64 := by omega
    have HO := Lib.hid hO
    have HBl := Lib.hid hB
    clear hO hB
    go_wp2
    go_ret
    refine ⟨_, rfl, ?_, ((HCX.out).trans (Ch.of_below HBl.out)).below⟩
    have := HO.out
    rw [List.take_of_length_le (by rw [padB_len]; exact Nat.le_refl _), ← HKLL.out] at this
    exact own_weaken this HCX.out.size
set_option maxRecDepth 100000 in
set_option maxHeartbeats 1000000 in
theorem rsum_any (As Ak Ab : Option Addr) (cs ck cb n m : Nat) (k b : List Int) (w : World) (hs : ReadsInt w .u32 As 64 kst) (hk : ReadsInt w .u8 Ak n k) (hb : ReadsInt w .u8 Ab m b) (hn : n < 100000) (hm : m < 100000) (hkb : Bs k) (hbb : Bs b) :
  Calls Tryd.prog 26 #[.slice As 64 cs, .slice Ak n ck, .slice Ab m cb] w fun e w' => ∃ A c, e = .returned (.slice A 32 c) ∧ ReadsInt w' .u8 A 32 (hmac k b) ∧ Below w.heap.size w w' ∧ 32 ≤ c := by
 have HS : Hid (∀ W, Ch (fun _ => False) w W → ReadsInt W .u32 As 64 kst) := Lib.hid fun W hC => hC.reads hs (fun _ _ h => h)
 have HK : Hid (∀ W, Ch (fun _ => False) w W → ReadsInt W .u8 Ak n k) := Lib.hid fun W hC => hC.reads hk (fun _ _ h => h)
 have HB : Hid (∀ W, Ch (fun _ => False) w W → ReadsInt W .u8 Ab m b) := Lib.hid fun W hC => hC.reads hb (fun _ _ h => h)
 have HBL := Lib.hid hb.1
 clear hs hk hb
 have HP1 := Lib.hid (padded_any As Ak cs ck n k 54 w (HS.out _ (Ch.refl _ _)) (HK.out _ (Ch.refl _ _)) (by omega) hkb (by unfold B8; omega))
 go_enter Tryd.func26, Tryd.ntmps26
 go_wp2_with (first
  | (go_at_call 44; with_reducible refine (HP1.out).mono ?_; rintro e w1 ⟨v1, rfl, ho, hb1⟩; have HO1 := Lib.hid ho; have HC1 := Lib.hid (Ch.of_below (S := fun _ => False) hb1); clear ho hb1)
  | (at_builtin; refine print_append_row (w0 := w) w.heap.size rfl _ _ 23 5 .u8 1 rfl Tryd.underlying23 info_u8 (by decide) v1 (padB (key64 k) 54) b _ _ _ rfl rfl (by rw [padB_len]; exact HO1.out) (HB.out _ HC1.out) HC1.out.below HC1.out.size (by rw [padB_len]; omega) ?_; intro v2 w2 ho hb2 _ _; rw [List.length_append, padB_len, HBL.out] at ho; obtain ⟨A2, c2, rfl⟩ := own_slice ho; have HO2 := Lib.hid ho; have HC2 := Lib.hid (Ch.of_below (S := fun _ => False) hb2); clear ho hb2))
 refine (rdigest_any As A2 cs c2 (64 + m) kst (padB (key64 k) 54 ++ b) w2 (HS.out _ HC2.out) (rd_own HO2.out) (by omega) kst_w ((padB_b _ _).append hbb)).mono ?_
 rintro e w3 ⟨v3, rfl, ho3, hb3⟩
 rw [← sha_hAt] at ho3
 obtain ⟨A3, c3, rfl, -⟩ := q_slice ho3
 have HO3 := Lib.hid ho3
 have HC3 := Lib.hid (HC2.out.trans (Ch.of_below hb3))
 have HIN : Hid (hmac k b = sha (padB (key64 k) 92 ++ sha (padB (key64 k) 54 ++ b))) := Lib.hid rfl
 have HIL := Lib.hid (sha_len (padB (key64 k) 54 ++ b))
 have HIB := Lib.hid (sha_b (padB (key64 k) 54 ++ b))
 clear ho3 hb3 HO2 HO1 HP1
 generalize sha (padB (key64 k) 54 ++ b) = si at *
 have HP2 := Lib.hid (padded_any As Ak cs ck n k 92 w3 (HS.out _ HC3.out) (HK.out _ HC3.out) (by omega) hkb (by unfold B8; omega))
 go_wp2_with (first
  | (go_at_call 44; with_reducible refine (HP2.out).mono ?_; rintro e w4 ⟨v4, rfl, ho, hb4⟩; have HO4 := Lib.hid ho; have HC4 := Lib.hid (Ch.of_below (S := fun _ => False) hb4); clear ho hb4)
  | (at_builtin; refine print_append_row (w0 := w3) w3.heap.size rfl _ _ 23 5 .u8 1 rfl Tryd.underlying23 info_u8 (by decide) v4 (padB (key64 k) 92) si _ _ _ rfl rfl (by rw [padB_len]; exact HO4.out) (HC4.out.reads (q_reads HO3.out) (fun _ _ h => h)) HC4.out.below HC4.out.size (by rw [padB_len]; omega) ?_; intro v5 w5 ho hb5 _ _; rw [List.length_append, padB_len, HIL.out] at ho; obtain ⟨A5, c5, rfl⟩ := own_slice ho; have HO5 := Lib.hid ho; have HC5 := Lib.hid (Ch.of_below (S := fun _ => False) hb5); clear ho hb5))
 refine (rdigest_any As A5 cs c5 96 kst (padB (key64 k) 92 ++ si) w5 (HS.out _ (HC3.out.trans HC5.out)) (rd_own HO5.out) (by omega) kst_w ((padB_b _ _).append HIB.out)).mono ?_
 rintro e w6 ⟨v6, rfl, ho6, hb6⟩
 rw [← sha_hAt] at ho6
 obtain ⟨A6, c6, rfl, h32⟩ := q_slice ho6
 have H32 := Lib.hid h32
 clear h32
 have HO6 := Lib.hid ho6
 have HC6 := Lib.hid ((HC3.out.trans HC5.out).trans (Ch.of_below hb6))
 clear ho6 hb6
 go_wp2
 go_ret
 exact ⟨A6, c6, rfl, by rw [HIN.out]; exact q_reads HO6.out, HC6.out.below, H32.out⟩
end Go.Proofs.YtejhjlfakfaegaaDoor
set_option linter.unusedSimpArgs false
set_option linter.unusedVariables false
namespace Go.Proofs.YtejhjlfakfaegaaDoor
open Go.RowKit Go.Proofs.YtejhjlfakfaegaaDoorW.PrintWords

/-! ### Rows of rows, as triples -/
def encT (x : Option Addr × Nat × Nat) : Value := .slice x.1 x.2.1 x.2.2
theorem rows_triples {w : World} {A : Option Addr} {n : Nat} {ls : List (List Int)} (h : Rows2 w A n ls) :
  ∃ ts : List (Option Addr × Nat × Nat), ReadsOf encT (none, 0, 0) w A n ts ∧ ∀ j, j < n → (ts.getD j (none, 0, 0)).2.1 = (ls.getD j []).length ∧ ReadsInt w .u8 (ts.getD j (none, 0, 0)).1 (ls.getD j []).length (ls.getD j []) := by
 obtain ⟨h1, h2, h3⟩ := h
 rcases Nat.eq_zero_or_pos n with h0 | h0
 ·subst h0
  exact ⟨[], ⟨rfl, by omega, fun h => by omega⟩, fun j hj => by omega⟩
 ·obtain ⟨ad, rfl, hc⟩ := h3 h0
  have hch : ∀ j : Fin n, ∃ t : Option Addr × Nat × Nat, w.cell? (ad.add j) = some (encT t) ∧ t.2.1 = (ls.getD j []).length ∧ ReadsInt w .u8 t.1 (ls.getD j []).length (ls.getD j []) := fun j => by
   obtain ⟨Aj, cj, hcell, hr⟩ := hc j j.2
   exact ⟨(Aj, (ls.getD j []).length, cj), hcell, rfl, hr⟩
  refine ⟨List.ofFn fun j => Classical.choose (hch j), ⟨by simp, h2, fun _ => ⟨ad, rfl, fun j hj => ?_⟩⟩, fun j hj => ?_⟩
  ·have := Classical.choose_spec (hch ⟨j, hj⟩)
   rw [this.1]
   simp [List.getD_eq_getElem?_getD, hj]
  ·have := Classical.choose_spec (hch ⟨j, hj⟩)
   simp only [List.getD_eq_getElem?_getD, List.getElem?_ofFn, hj, dif_pos, Option.getD_some] at this ⊢
   exact this.2
theorem triples_rows {w : World} {A : Option Addr} {n : Nat} {ls : List (List Int)} {ts : List (Option Addr × Nat × Nat)} (h : ReadsOf encT (none, 0, 0) w A n ts) (hl : ls.length = n)
  (ht : ∀ j, j < n → (ts.getD j (none, 0, 0)).2.1 = (ls.getD j []).length ∧ ReadsInt w .u8 (ts.getD j (none, 0, 0)).1 (ls.getD j []).length (ls.getD j [])) : Rows2 w A n ls := by
 obtain ⟨h1, h2, h3⟩ := h
 refine ⟨hl, h2, fun hn => ?_⟩
 obtain ⟨ad, e, hc⟩ := h3 hn
 refine ⟨ad, e, fun j hj => ?_⟩
 obtain ⟨t1, t2⟩ := ht j hj
 refine ⟨_, (ts.getD j (none, 0, 0)).2.2, ?_, t2⟩
 rw [hc j hj, ← t1]
 rfl
theorem ReadsOf.ch {α : Type} {enc : α → Value} {d : α} {w w' : World} {A : Option Addr} {n : Nat} {xs : List α} (hC : Ch (fun _ => False) w w') (h : ReadsOf enc d w A n xs) : ReadsOf enc d w' A n xs :=
 ⟨h.1, h.2.1, fun hn => by
  obtain ⟨ad, e, hc⟩ := h.2.2 hn
  exact ⟨ad, e, fun j hj => hC.cell (hc j hj) (fun h => h)⟩⟩
/-! ### The blocks filled -/
def pdTo (f : Nat → Int) (i : Nat) : List Int := (List.range 64).map fun j => if j < i then f j else 0
theorem pdTo_len (f : Nat → Int) (i : Nat) : (pdTo f i).length = 64 := by simp [pdTo]
theorem pdTo_set (f : Nat → Int) (i : Nat) (h : i < 64) : (pdTo f i).set i (f i) = pdTo f (i + 1) := by
 apply List.ext_getElem
 ·simp [pdTo]
 ·intro j h1 h2
  rw [List.getElem_set]
  simp only [pdTo, List.getElem_map, List.getElem_range]
  by_cases e : i = j
  ·subst e; rw [if_pos rfl, if_pos (by omega)]
  ·rw [if_neg e]
   by_cases e2 : j < i
   ·rw [if_pos e2, if_pos (by omega)]
   ·rw [if_neg e2, if_neg (by omega)]
theorem pdTo_64 (k : List Int) (c : Int) : pdTo (fun j => x8 (nt k j) c) 64 = padB k c := by
 unfold pdTo padB
 apply List.map_congr_left
 intro j hj
 rw [if_pos (List.mem_range.1 hj)]
theorem pdTo_0 (f : Nat → Int) : pdTo f 0 = List.replicate 64 0 := by
 unfold pdTo
 rw [List.map_congr_left (g := fun _ => 0) (fun j _ => if_neg (by omega))]
 rfl
theorem info_bs : (Tryd.prog.info? 23).map (fun i => (i.zero, i.size, i.bytes)) = some (some (.slice none 0 0), 1, 24) := by kernel_rfl
def z64b : List Int := List.replicate 64 0
theorem make64 (W : World) : (Instr.makeSlice 23 (.int .i64 64) (.int .i64 64)).run Tryd.prog W = .ok (.slice (some ⟨W.heap.size, 0, none⟩) 64 64) (W.alloc (.cells (nums .u8 z64b).toArray 5)) := by kernel_rfl
set_option maxRecDepth 100000 in
set_option maxHeartbeats 2000000 in
theorem msum_any (Ak Ar : Option Addr) (n ck nr cr : Nat) (k : List Int) (ls : List (List Int)) (w : World) (hk : ReadsInt w .u8 Ak n k) (hr : Rows2 w Ar nr ls) (hkb : Bs k) (hlb : ∀ l ∈ ls, Bs l) (hn : n < 100000) (hsz : ls.flatten.length < 1000000) (hnr : nr < 1000000) :
  Calls Tryd.prog 19 #[.slice Ak n ck, .slice Ar nr cr] w fun e w' => ∃ v, e = .returned v ∧ w'.ownsRow w.heap.size 5 1 v 32 (nums .u8 (hmac k ls.flatten)) ∧ Below w.heap.size w w' := by
 have HK := Lib.hid hk
 have HKL := Lib.hid hk.1
 have HRR := Lib.hid hr
 have HOF := Lib.hid (fun W (hC : Ch (fun _ => False) w W) (h : Rows2 W (some ⟨w.heap.size, 0, none⟩) 1 [k]) => of_any _ 1 1 [k] W h (by simp; have := hk.1; omega) (by simpa using hkb))
 clear hk hr
 go_enter Tryd.func19, Tryd.ntmps19
 go_upto_if 11 with fail
 go_cut [0] (fun s0 wx => ∃ A m cc, s0 = .slice A m cc ∧ m ≤ 64 ∧ ReadsInt wx .u8 A m (key64 k) ∧ Ch (fun _ => False) w wx)
 case first =>
  by_cases h64 : 64 < n
  ·have hk6 : key64 k = sha k := by unfold key64; rw [if_pos (by rw [HKL.out]; exact h64)]
   have HK6 := Lib.hid hk6
   clear hk6
   have HO := Lib.hid (HOF.out (w.alloc (.cells #[.slice Ak n ck] 23)) ((Ch.refl _ _).alloc _) (rows2_one1 (heap_alloc_new w _) (((Ch.refl (fun _ => False) _).alloc _).reads HK.out (fun _ _ h => h))))
   go_wp2_with fail
   refine (HO.out).mono ?_
   rintro e w2 ⟨v, rfl, ho, hb⟩
   rw [show ([k] : List (List Int)).flatten = k by simp] at ho
   obtain ⟨A2, c2, rfl, -⟩ := q_slice (q_of_own ho)
   have HO2 := Lib.hid ho
   have HC2 := Lib.hid (((Ch.refl (fun _ => False) w).alloc (.cells #[.slice Ak n ck] 23)).trans (Ch.of_below hb))
   clear ho hb
   go_wp2
   go_meet
   exact ⟨A2, 32, c2, rfl, by omega, by rw [HK6.out]; exact rd_own HO2.out, HC2.out⟩
  ·have hk6 : key64 k = k := by unfold key64; rw [if_neg (by rw [HKL.out]; exact h64)]
   have HK6 := Lib.hid hk6
   clear hk6
   go_wp2
   go_meet
   exact ⟨Ak, n, ck, rfl, by omega, by rw [HK6.out]; exact HK.out, Ch.refl _ _⟩
 case rest =>
  obtain ⟨A, m, cc, rfl, hm, hr, hC⟩ := hcut
  have HR := Lib.hid hr
  have HCX := Lib.hid hC
  have HKB := Lib.hid (key64_b k hkb)
  have HKLL : Hid (hmac k ls.flatten = sha (padB (key64 k) 92 ++ sha (padB (key64 k) 54 ++ ls.flatten))) := Lib.hid rfl
  clear hr hC HOF HKL HK
  generalize key64 k = kl at *
  have hmk := make64
  obtain ⟨wa, rfl⟩ : ∃ wa : World, wa = wc := ⟨_, rfl⟩
  go_upto_region 3 with fail
  go_cut [5, 6] (fun s5 s6 wx => ∃ g5 g6, s5 = .slice (some ⟨g5, 0, none⟩) 64 64 ∧ s6 = .slice (some ⟨g6, 0, none⟩) 64 64 ∧ g5 ≠ g6 ∧ wx.heap[g5]? = some (.cells (nums .u8 z64b).toArray 5 (0, 0)) ∧ wx.heap[g6]? = some (.cells (nums .u8 z64b).toArray 5 (0, 0)) ∧ wa.heap.size ≤ g5 ∧ wa.heap.size ≤ g6 ∧ Ch (fun _ => False) wa wx)
  case first =>
   go_region
   all_goals
    go_wp2
    go_meet
    first
     | exact ⟨_, _, rfl, rfl, by omega, heap_alloc2_old wa _ _, heap_alloc2_new wa _ _, by omega, by omega, (((Ch.refl _ _).alloc _).alloc _).drew⟩
     | exact ⟨_, _, rfl, rfl, by omega, heap_alloc2_new wa _ _, heap_alloc2_old wa _ _, by omega, by omega, (((Ch.refl _ _).alloc _).alloc _).drew⟩
  case rest =>
   obtain ⟨g5, g6, rfl, rfl, hne, h5, h6, hl5, hl6, hC⟩ := hcut
   have HG5 := Lib.hid h5
   have HG6 := Lib.hid h6
   have HCY := Lib.hid (HCX.out.trans hC)
   have HR2 := Lib.hid (hC.reads HR.out (fun _ _ h => h))
   have HLO : Hid (w.heap.size ≤ g5 ∧ w.heap.size ≤ g6 ∧ (∀ a, A = some a → 0 < m → a.block < wa.heap.size ∧ a.block ≠ g5 ∧ a.block ≠ g6)) := Lib.hid ⟨by have := HCX.out.size; omega, by have := HCX.out.size; omega, fun a ha hp => by
    obtain ⟨a', ha', hcc⟩ := HR.out.2.2 hp
    rw [ha] at ha'
    injection ha' with ha'
    subst ha'
    have := World.block_lt_of_cell? wa _ (hcc 0 hp)
    simp [Addr.add] at this
    omega⟩
   clear h5 h6 hC HR HCX
   go_wp2
   go_loopw [7, 8, 19] (fun _ _ i wr => ∃ j : Nat, j ≤ 64 ∧ i = .int .i64 j ∧ wr.heap[g5]? = some (.cells (nums .u8 (pdTo (fun q => x8 (nt kl q) 54) j)).toArray 5 (0, 0)) ∧ wr.heap[g6]? = some (.cells (nums .u8 (pdTo (fun q => x8 (nt kl q) 92) j)).toArray 5 (0, 0)) ∧ ReadsInt wr .u8 A m kl ∧ Ch (fun _ => False) w wr) (fun _ _ i _ => (64 - intOf i).toNat)
   case atStart => exact ⟨0, by omega, rfl, by rw [pdTo_0]; exact HG5.out, by rw [pdTo_0]; exact HG6.out, HR2.out, HCY.out⟩
   case round =>
    obtain ⟨j, hj, rfl, h5, h6, hr, hC⟩ := hrel
    clear HG5 HG6 HR2 HCY
    have HG5 := Lib.hid h5
    have HG6 := Lib.hid h6
    have HR := Lib.hid hr
    have HC := Lib.hid hC
    clear h5 h6 hr hC
    by_cases hlt : j < 64
    ·have c5 := blk_nums HG5.out j (by rw [pdTo_len]; exact hlt)
     have c6 := blk_nums HG6.out j (by rw [pdTo_len]; exact hlt)
     have f5 : wr.frozen? ⟨g5, j, none⟩ = false := blk_frozen HG5.out _
     have f6 : wr.frozen? ⟨g6, j, none⟩ = false := blk_frozen HG6.out _
     have hne' : g6 ≠ g5 := fun e => hne e.symm
     obtain ⟨x0, x1⟩ := HKB.out.at j
     have e5 := blk_set HG5.out j (.int .u8 (x8 (nt kl j) 54))
     rw [nums_set, pdTo_set (fun q => x8 (nt kl q) 54) j hlt] at e5
     have e6 := blk_set HG6.out j (.int .u8 (x8 (nt kl j) 92))
     rw [nums_set, pdTo_set (fun q => x8 (nt kl q) 92) j hlt] at e6
     have E5 := Lib.hid e5
     have E6 := Lib.hid e6
     clear e5 e6
     by_cases hjm : j < m
     ·obtain ⟨ad, hA, hcell⟩ := HR.out.2.2 (by omega)
      have ck := hcell j hjm
      change wr.cell? _ = some (.int .u8 (nt kl j)) at ck
      subst hA
      go_wp2
      exact ⟨⟨j + 1, by omega, by go_num, (Below.heap_setCell _ _ _ _ (by show g5 ≠ g6; omega)).trans E5.out, blk_set_of (Below.heap_setCell _ _ _ _ (by show g6 ≠ g5; omega)) E6.out, (((Ch.refl (fun i => i = g5 ∨ i = g6) wr).setCell (.inl (.inl rfl)) _).setCell (.inl (.inr rfl)) _).reads' HR.out (fun a ha hp e => by have := HLO.out.2.2 a ha hp; omega), (HC.out.setCell (.inr (by have := HLO.out; show w.heap.size ≤ g5; omega)) _).setCell (.inr (by have := HLO.out; show w.heap.size ≤ g6; omega)) _⟩, by simp [intOf]; omega⟩
     ·have hx : nt kl j = 0 := nt_end kl j (by rw [HR.out.1]; omega)
      rw [hx] at E5 E6
      clear hx x0 x1
      go_wp2
      exact ⟨⟨j + 1, by omega, by go_num, (Below.heap_setCell _ _ _ _ (by show g5 ≠ g6; omega)).trans E5.out, blk_set_of (Below.heap_setCell _ _ _ _ (by show g6 ≠ g5; omega)) E6.out, (((Ch.refl (fun i => i = g5 ∨ i = g6) wr).setCell (.inl (.inl rfl)) _).setCell (.inl (.inr rfl)) _).reads' HR.out (fun a ha hp e => by have := HLO.out.2.2 a ha hp; omega), (HC.out.setCell (.inr (by have := HLO.out; show w.heap.size ≤ g5; omega)) _).setCell (.inr (by have := HLO.out; show w.heap.size ≤ g6; omega)) _⟩, by simp [intOf]; omega⟩
    ·obtain rfl : j = 64 := by omega
     have h5 := HG5.out
     have h6 := HG6.out
     rw [pdTo_64] at h5 h6
     have HG5 := Lib.hid h5
     have HG6 := Lib.hid h6
     clear h5 h6
     obtain ⟨ts, hts, htr⟩ := rows_triples HRR.out
     have HTS := Lib.hid hts
     have HTR := Lib.hid htr
     have HLB := Lib.hid hlb
     have hlen := HRR.out.1
     have HLEN := Lib.hid hlen
     have HTL : Hid (∀ g : Nat, List.length ([((some ⟨g, 0, none⟩ : Option Addr), 64, 64)] ++ ts : List (Option Addr × Nat × Nat)) = nr + 1) := Lib.hid fun g => by rw [List.length_append, hts.1, List.length_singleton]; omega
     clear hts htr hlb hlen
     rw [show ((64 : Nat) : Int) = 64 from rfl]
     go_wp2_with (at_builtin; go_must (refine print_append_row_of (w0 := w) encT (none, 0, 0) w.heap.size rfl _ _ 62 23 (.slice none 0 0) 24 rfl Tryd.underlying62 info_bs rfl (by decide) (fun _ => rfl) (.slice (some ⟨wr.heap.size, 0, none⟩) 1 1) [((some ⟨g5, 0, none⟩ : Option Addr), 64, 64)] ts Ar nr cr rfl rfl (own_lit_of (enc := encT) wr w.heap.size 23 [((some ⟨g5, 0, none⟩ : Option Addr), 64, 64)] HC.out.size (by simp)) (ReadsOf.ch (HC.out.alloc _) HTS.out) (HC.out.alloc _).below (HC.out.alloc (.cells #[.slice (some ⟨g5, 0, none⟩) 64 64] 23)).size (by simp; omega) ?_; intro v1 w1 hown hB1 hg hat; rw [HTL.out g5] at hown; obtain ⟨A1, c1, rfl⟩ := own_slice hown; have HO1 := Lib.hid hown; have HB1 := Lib.hid hB1; have HGR := Lib.hid hg; clear hown hB1 hg hat))
     have HC1 : Hid (Ch (fun _ => False) w w1) := Lib.hid ((Ch.refl _ _).then_ (S' := fun _ => False) (Ch.of_below HB1.out) (fun _ _ h => h.elim))
     have hW : Ch (fun k => k = wr.heap.size) wr w1 := (((Ch.refl _ wr).alloc _).grown HGR.out (fun k hk => .inl (by have h2 : some wr.heap.size = some k := hk; injection h2 with h2; exact h2.symm)))
     have r5 : ReadsInt w1 .u8 (some ⟨g5, 0, none⟩) 64 (padB kl 54) := reads_blk (hW.blk HG5.out (by have := blk_lt HG5.out; show g5 ≠ wr.heap.size; omega)) (padB_len _ _) (by omega)
     have b6 := hW.blk HG6.out (by have := blk_lt HG6.out; show g6 ≠ wr.heap.size; omega)
     obtain ⟨A1', c1', e1, hrd⟩ := own_reads_of (d := (none, 0, 0)) HO1.out
     injection e1 with e1 e2 e3
     subst e1 e3
     have hr2 : Rows2 w1 A1 (nr + 1) ([padB kl 54] ++ ls) := triples_rows hrd (by rw [List.length_append, HLEN.out, List.length_singleton]; omega) (fun j hj => by
      rcases j with _ | j
      ·exact ⟨(padB_len _ _).symm, by
        show ReadsInt w1 .u8 (some ⟨g5, 0, none⟩) (padB kl 54).length (padB kl 54)
        rw [padB_len]; exact r5⟩
      ·have := HTR.out j (by omega)
       exact ⟨this.1, HC1.out.reads this.2 (fun _ _ h => h)⟩)
     have HB6 := Lib.hid b6
     have HO := Lib.hid (of_any A1 (nr + 1) c1 ([padB kl 54] ++ ls) w1 hr2 (by rw [List.flatten_append, List.length_append, List.flatten_singleton, padB_len]; omega) (by intro l hl; rcases List.mem_append.1 hl with h | h; (rw [List.mem_singleton] at h; subst h; exact padB_b _ _); exact HLB.out l h))
     clear hW r5 b6 hrd hr2
     refine (HO.out).mono ?_
     clear HO
     rintro e w2 ⟨v, rfl, ho, hb⟩
     rw [List.flatten_append, List.flatten_singleton] at ho
     obtain ⟨A2, c2, rfl, -⟩ := q_slice (q_of_own ho)
     have HO2 := Lib.hid (rd_own ho)
     have HB7 := Lib.hid ((Ch.of_below (S := fun _ => False) hb).blk HB6.out (fun h => h))
     have HC2 := Lib.hid (HC1.out.then_ (S' := fun _ => False) (Ch.of_below hb) (fun _ _ h => h.elim))
     clear ho hb HB6
     go_wp2_with fail
     refine (of_any _ 2 2 [padB kl 92, sha (padB kl 54 ++ ls.flatten)] _ (rows2_two (heap_alloc_new w2 _) (reads_blk (((Ch.refl (fun _ => False) w2).alloc _).blk HB7.out (fun h => h)) (padB_len _ _) (by omega)) (((Ch.refl (fun _ => False) w2).alloc _).reads HO2.out (fun _ _ h => h))) (by simp [padB_len, sha_len]) (by intro l hl; simp only [List.mem_cons, List.not_mem_nil, or_false] at hl; rcases hl with rfl | rfl; exact padB_b _ _; exact sha_b _)).mono ?_
     rintro e w3 ⟨v, rfl, ho, hb⟩
     rw [show ([padB kl 92, sha (padB kl 54 ++ ls.flatten)] : List (List Int)).flatten = padB kl 92 ++ sha (padB kl 54 ++ ls.flatten) by simp, ← HKLL.out] at ho
     have HR3 := Lib.hid (own_less ho (show w.heap.size ≤ _ by have := HC2.out.size; simp; omega))
     have HB3 := Lib.hid ((HC2.out.alloc _).then_ (S' := fun _ => False) (Ch.of_below hb) (fun _ _ h => h.elim)).below
     clear ho hb
     go_wp2
     go_ret
     exact ⟨_, rfl, HR3.out, HB3.out⟩
end Go.Proofs.YtejhjlfakfaegaaDoor
set_option linter.unusedSimpArgs false
set_option linter.unusedVariables false
namespace Go.Proofs.YtejhjlfakfaegaaDoor
open Go.RowKit Go.Proofs.YtejhjlfakfaegaaDoorW.PrintWords

set_option maxRecDepth 100000 in
set_option maxHeartbeats 1000000 in
theorem okey_any (A : Option Addr) (c : Nat) (l : List Int) (w : World) (hr : ReadsInt w .u8 A 16 l) :
  Calls Tryd.prog 32 #[.slice A 16 c] w fun e w' => e = .returned (.tuple #[.agg (nums .u8 l).toArray, .bool true]) ∧ Ch (fun _ => False) w w' := by
 obtain ⟨hl, -, hc⟩ := hr
 obtain ⟨ad, rfl, hcell⟩ := hc (by omega)
 have HSRC : Hid (∀ j v, (nums .u8 l)[j]? = some v → w.cell? (ad.add j) = some v) := Lib.hid fun j v hv => by
  obtain ⟨hj, e⟩ := List.getElem?_eq_some_iff.1 hv
  have hj' : j < 16 := by rw [← hl]; simpa [nums] using hj
  rw [hcell j hj', ← e]
  simp [nums, List.getD_eq_getElem?_getD, hl, hj']
 have HL := Lib.hid hl
 clear hl hc hcell
 go_enter Tryd.func32, Tryd.ntmps32
 go_wp2_with first
  | (refine wpList_copy_row rfl (.tmp 9) (.tmp 10) 23 23 rfl 5 Tryd.underlying23 (by kernel_rfl) (w.heap.size + 1) 0 16 16 ad 16 c rfl rfl (nums .u8 (List.replicate 16 0)).toArray 35 (heap_alloc2_new w _ _) (nums .u8 l) (by rw [nums_len, HL.out]; rfl) (fun j v hv => (((Ch.refl (fun _ => False) w).alloc _).alloc _).cell (HSRC.out j v hv) (fun h => h)) (by rw [nums_len, HL.out]; decide) (nums_one _ _) ?_; intro w2 h2 hc2; (have H2 : Hid (w2.heap[w.heap.size + 1]? = some (.cells (nums .u8 l).toArray 35 (0, 0))) := Lib.hid (by rw [h2, List.take_zero, List.nil_append, nums_len, HL.out]; (rw [show List.drop (0 + 16) (nums .u8 (List.replicate 16 0)).toArray.toList = [] by rfl, List.append_nil]))); have HK2 : Hid (w2.heap[w.heap.size]? = some (.cells (nums .u8 (List.replicate 16 0)).toArray 35 (0, 0))) := Lib.hid (hc2.blk (heap_alloc2_old w _ _) (by show w.heap.size ≠ w.heap.size + 1; omega)); have HC2 : Hid (Ch (fun _ => False) w w2) := Lib.hid ((((Ch.refl (fun _ => False) w).alloc _).alloc _).then_ hc2 (fun i hi e => by omega)); clear h2 hc2 HSRC)
  | (refine wpList_load_mid rfl 35 (.tmp 4) rfl (w.heap.size + 1) 0 rfl (nums .u8 l) (.array 16 5) (range_nums H2.out) Tryd.underlying35 rfl (by rw [nums_len, HL.out]; kernel_rfl) ?_)
  | (refine wpList_store_blk rfl 35 (.tmp 2) (.tmp 12) rfl w.heap.size 0 (nums .u8 l) rfl rfl (nums .u8 (List.replicate 16 0)).toArray 35 HK2.out (by rw [nums_len, HL.out]; decide) (by rw [nums_len, HL.out]; kernel_rfl) (nums_one _ _) ?_; intro w3 h3 hc3; (have H3 : Hid (w3.heap[w.heap.size]? = some (.cells (nums .u8 l).toArray 35 (0, 0))) := Lib.hid (by rw [h3, List.take_zero, List.nil_append, nums_len, HL.out]; (rw [show List.drop (0 + 16) (nums .u8 (List.replicate 16 0)).toArray.toList = [] by rfl, List.append_nil]))); have HC3 : Hid (Ch (fun _ => False) w w3) := Lib.hid (HC2.out.then_ hc3 (fun i hi e => by omega)); clear h3 hc3)
 refine bodyPost_ret (results_ct rfl _ _ w.heap.size 35 (nums .u8 l).toArray (0, 0) (.array 16 5) rfl H3.out Tryd.underlying35 rfl (by rw [List.size_toArray, nums_len, HL.out]; kernel_rfl)) rfl ⟨rfl, HC3.out⟩
/-- the key that a key has for a label -/
def drv (k s : List Int) : List Int := (hmac k (s ++ [0, 1])).take 16
theorem hmac_len (k m : List Int) : (hmac k m).length = 32 := sha_len _
theorem hmac_b (k m : List Int) : Bs (hmac k m) := sha_b _
theorem drv_len (k s : List Int) : (drv k s).length = 16 := by rw [drv, List.length_take, hmac_len]; rfl
theorem bytesOf_bs (s : ByteArray) : Bs (bytesOf s) := by
 intro x hx
 simp only [bytesOf, List.mem_map] at hx
 obtain ⟨b, _, rfl⟩ := hx
 have := b.toNat_lt
 constructor <;> omega
set_option maxRecDepth 100000 in
set_option maxHeartbeats 1000000 in
theorem derive_any (l : List Int) (s : ByteArray) (w : World) (hl : l.length = 16) (hb : Bs l) (hs : s.size < 100000) :
  Calls Tryd.prog 34 #[.agg (nums .u8 l).toArray, .string s] w fun e w' => e = .returned (.agg (nums .u8 (drv l (bytesOf s))).toArray) ∧ Ch (fun _ => False) w w' := by
 have HL := Lib.hid hl
 have HB := Lib.hid hb
 clear hl hb
 have kb := fun W => print_bytes (P := Tryd.prog) 9 23 5 Tryd.underlying9 Tryd.underlying23 Tryd.underlying5 s W
 go_enter Tryd.func34, Tryd.ntmps34
 go_wp2_with fail
 have e2 : ((w.alloc (.cells (nums .u8 l).toArray 35)).alloc (.cells (nums .u8 (List.replicate 16 0)).toArray 35)).heap.size = w.heap.size + 1 + 1 := by simp
 have hbr := bytes_reads ((w.alloc (.cells (nums .u8 l).toArray 35)).alloc (.cells (nums .u8 (List.replicate 16 0)).toArray 35)) 5 s (by omega)
 have hbb := (Ch.of_below (S := fun _ => False) (bytes_below (Below.refl _ ((w.alloc (.cells (nums .u8 l).toArray 35)).alloc (.cells (nums .u8 (List.replicate 16 0)).toArray 35))) (Nat.le_refl _) 5 s))
 rw [e2] at hbr
 have hk0 := hbb.blk (heap_alloc2_old w _ _) (fun h => h)
 have hz0 := hbb.blk (heap_alloc2_new w _ _) (fun h => h)
 have hch := (((Ch.refl (fun _ => False) w).alloc _).alloc _).then_ (S' := fun _ => False) hbb (fun _ _ h => h.elim)
 clear hbb kb
 obtain ⟨WB, hWB⟩ : ∃ WB, WB = Lib.bytesWorld ((w.alloc (.cells (nums .u8 l).toArray 35)).alloc (.cells (nums .u8 (List.replicate 16 0)).toArray 35)) 5 s := ⟨_, rfl⟩
 rw [← hWB] at hbr hk0 hz0 hch
 have HBR := Lib.hid hbr
 have HK0 := Lib.hid hk0
 have HZ0 := Lib.hid hz0
 have HCH := Lib.hid hch
 clear hbr hk0 hz0 hch
 have HO : Hid (∀ c, Calls Tryd.prog 19 #[.slice (some ⟨w.heap.size, 0, none⟩) 16 16, .slice (some ⟨WB.heap.size + 1, 0, none⟩) 2 2] ((WB.alloc (.cells #[.int .u8 0, .int .u8 1] 5)).alloc (.cells #[.slice (some ⟨w.heap.size + 1 + 1, 0, none⟩) s.size c, .slice (some ⟨WB.heap.size, 0, none⟩) 2 2] 23)) fun e w' => ∃ v, e = .returned v ∧ w'.ownsRow w.heap.size 5 1 v 32 (nums .u8 (hmac l (bytesOf s ++ [0, 1]))) ∧ Ch (fun _ => False) w w' ∧ w'.heap[w.heap.size + 1]? = some (.cells (nums .u8 (List.replicate 16 0)).toArray 35 (0, 0))) := Lib.hid fun c => by
  have hcc : Ch (fun _ => False) WB ((WB.alloc (.cells #[.int .u8 0, .int .u8 1] 5)).alloc (.cells #[.slice (some ⟨w.heap.size + 1 + 1, 0, none⟩) s.size c, .slice (some ⟨WB.heap.size, 0, none⟩) 2 2] 23)) := ((Ch.refl _ _).alloc _).alloc _
  have hr2 := rows2_two (heap_alloc2_new WB (.cells #[.int .u8 0, .int .u8 1] 5) (.cells #[.slice (some ⟨w.heap.size + 1 + 1, 0, none⟩) s.size c, .slice (some ⟨WB.heap.size, 0, none⟩) 2 2] 23)) (hcc.reads HBR.out (fun _ _ h => h)) (reads_blk (l := [0, 1]) (k := .u8) (n := 2) (heap_alloc2_old WB _ _) rfl (by decide))
  refine (msum_any _ _ 16 16 2 2 l [bytesOf s, [0, 1]] _ (reads_blk (hcc.blk HK0.out (fun h => h)) HL.out (by decide)) hr2 HB.out ?_ (by decide) (by simp [bytesOf_length]; omega) (by decide)).mono ?_
  ·intro x hx
   simp only [List.mem_cons, List.not_mem_nil, or_false] at hx
   rcases hx with rfl | rfl
   ·exact bytesOf_bs s
   ·unfold Bs; decide
  ·rintro e w' ⟨v, rfl, ho, hb⟩
   rw [show ([bytesOf s, [0, 1]] : List (List Int)).flatten = bytesOf s ++ [0, 1] by simp] at ho
   exact ⟨v, rfl, own_less ho (by have := HCH.out.size; simp; omega), (HCH.out.then_ hcc (fun _ _ h => h.elim)).then_ (S' := fun _ => False) (Ch.of_below hb) (fun _ _ h => h.elim), (Ch.of_below (S := fun _ => False) hb).blk (hcc.blk HZ0.out (fun h => h)) (fun h => h)⟩
 subst hWB
 refine (HO.out _).mono ?_
 clear HO HBR HK0 HZ0 HCH e2 HB
 rintro e w2 ⟨v, rfl, ho, hC, hz⟩
 have HZ := Lib.hid hz
 obtain ⟨A2, c2, rfl, h32⟩ := q_slice (q_of_own ho)
 have HR2 := Lib.hid ((rd_own ho).take_ 16 (by omega))
 have HC2 := Lib.hid hC
 clear ho hC hz
 go_wp2_with fail
 have hdl : (drv l (bytesOf s)).length = 16 := drv_len _ _
 have HD : Hid (ReadsInt w2 .u8 A2 16 (drv l (bytesOf s))) := HR2
 have HDL := Lib.hid hdl
 clear HR2 hdl
 obtain ⟨d, hd⟩ : ∃ d, d = drv l (bytesOf s) := ⟨_, rfl⟩
 rw [← hd] at HD HDL
 have HDE := Lib.hid hd
 clear hd
 refine (okey_any A2 c2 d w2 HD.out).mono ?_
 rintro e w3 ⟨rfl, hC3⟩
 have HC3 := Lib.hid (HC2.out.then_ hC3 (fun _ _ h => h.elim))
 have HZ3 := Lib.hid (hC3.blk HZ.out (fun h => h))
 have HB3 : Hid (w.heap.size + 1 < w3.heap.size) := Lib.hid (blk_lt HZ3.out)
 clear hC3 HZ
 go_wp2_with first
  | (refine wpList_store_blk rfl 35 (.tmp 5) (.tmp 16) rfl w3.heap.size 0 (nums .u8 d) rfl rfl (nums .u8 (List.replicate 16 0)).toArray 35 (heap_alloc_new w3 _) (by rw [nums_len, HDL.out]; decide) (by rw [nums_len, HDL.out]; kernel_rfl) (nums_one _ _) ?_; intro w4 h4 hc4; (have H4 : Hid (w4.heap[w3.heap.size]? = some (.cells (nums .u8 d).toArray 35 (0, 0))) := Lib.hid (by rw [h4, List.take_zero, List.nil_append, nums_len, HDL.out]; (rw [show List.drop (0 + 16) (nums .u8 (List.replicate 16 0)).toArray.toList = [] by rfl, List.append_nil]))); have HZ4 : Hid (w4.heap[w.heap.size + 1]? = some (.cells (nums .u8 (List.replicate 16 0)).toArray 35 (0, 0))) := Lib.hid (hc4.blk (((Ch.refl (fun _ => False) w3).alloc _).blk HZ3.out (fun h => h)) (by show w.heap.size + 1 ≠ w3.heap.size; have := HB3.out; omega)); have HC4 : Hid (Ch (fun _ => False) w w4) := Lib.hid ((HC3.out.alloc _).then_ hc4 (fun i hi e => by have := HB3.out; omega)); clear h4 hc4 HZ3)
  | (refine wpList_load_mid rfl 35 (.tmp 5) rfl w3.heap.size 0 rfl (nums .u8 d) (.array 16 5) (range_nums H4.out) Tryd.underlying35 rfl (by rw [nums_len, HDL.out]; kernel_rfl) ?_)
  | (refine wpList_store_blk rfl 35 (.tmp 4) (.tmp 18) rfl (w.heap.size + 1) 0 (nums .u8 d) rfl rfl (nums .u8 (List.replicate 16 0)).toArray 35 HZ4.out (by rw [nums_len, HDL.out]; decide) (by rw [nums_len, HDL.out]; kernel_rfl) (nums_one _ _) ?_; intro w5 h5 hc5; (have H5 : Hid (w5.heap[w.heap.size + 1]? = some (.cells (nums .u8 d).toArray 35 (0, 0))) := Lib.hid (by rw [h5, List.take_zero, List.nil_append, nums_len, HDL.out]; (rw [show List.drop (0 + 16) (nums .u8 (List.replicate 16 0)).toArray.toList = [] by rfl, List.append_nil]))); have HC5 : Hid (Ch (fun _ => False) w w5) := Lib.hid (HC4.out.then_ hc5 (fun i hi e => by omega)); clear h5 hc5)
 refine bodyPost_ret (results_cell_row rfl _ _ (w.heap.size + 1) 35 (nums .u8 d).toArray (0, 0) (.array 16 5) rfl H5.out Tryd.underlying35 rfl (by rw [List.size_toArray, nums_len, HDL.out]; kernel_rfl)) rfl ⟨by rw [HDE.out], HC5.out⟩
end Go.Proofs.YtejhjlfakfaegaaDoor
set_option linter.unusedSimpArgs false
set_option linter.unusedVariables false
namespace Go.Proofs.YtejhjlfakfaegaaDoor
open Go.RowKit Go.Proofs.YtejhjlfakfaegaaDoorW.PrintWords
def zx (f : Nat → Int) (j : Nat) : List Int := (List.range 32).map fun q => if q < j then f q else 0
theorem zx_len (f : Nat → Int) (i : Nat) : (zx f i).length = 32 := by simp [zx]
theorem zx_set (f : Nat → Int) (i : Nat) (h : i < 32) : (zx f i).set i (f i) = zx f (i + 1) := by
 apply List.ext_getElem
 ·simp [zx]
 ·intro j h1 h2
  rw [List.getElem_set]
  simp only [zx, List.getElem_map, List.getElem_range]
  by_cases e : i = j
  ·subst e; rw [if_pos rfl, if_pos (by omega)]
  ·rw [if_neg e]
   by_cases e2 : j < i
   ·rw [if_pos e2, if_pos (by omega)]
   ·rw [if_neg e2, if_neg (by omega)]
theorem zx_0 (f : Nat → Int) : zx f 0 = List.replicate 32 0 := by
 unfold zx
 rw [List.map_congr_left (g := fun _ => 0) (fun j _ => if_neg (by omega))]
 rfl
/-- the password's rounds: t and u -/
def tx (p s : List Int) : Nat → List Int × List Int
 | 0 => (hmac p (s ++ [0, 0, 0, 1]), hmac p (s ++ [0, 0, 0, 1]))
 | n + 1 => (zx (fun q => x8 (nt (tx p s n).1 q) (nt (hmac p (tx p s n).2) q)) 32, hmac p (tx p s n).2)
def txt (p s : List Int) : List Int := (tx p s 15).1.take 16
theorem zx_b (a b : List Int) (i : Nat) : Bs (zx (fun q => x8 (nt a q) (nt b q)) i) := by
 intro x hx
 simp only [zx, List.mem_map] at hx
 obtain ⟨q, _, rfl⟩ := hx
 split
 ·exact x8_b _ _
 ·decide
theorem tx_len (p s : List Int) : ∀ n, (tx p s n).1.length = 32 ∧ (tx p s n).2.length = 32
 | 0 => ⟨hmac_len _ _, hmac_len _ _⟩
 | n + 1 => ⟨zx_len _ _, hmac_len _ _⟩
theorem tx_b (p s : List Int) : ∀ n, Bs (tx p s n).1 ∧ Bs (tx p s n).2
 | 0 => ⟨hmac_b _ _, hmac_b _ _⟩
 | n + 1 => ⟨zx_b _ _ _, hmac_b _ _⟩
def z32b : List Int := List.replicate 32 0
theorem make32 (W : World) : (Instr.makeSlice 23 (.int .i64 32) (.int .i64 32)).run Tryd.prog W = .ok (.slice (some ⟨W.heap.size, 0, none⟩) 32 32) (W.alloc (.cells (nums .u8 z32b).toArray 5)) := by kernel_rfl
theorem bytes_ch {w W : World} (e : TypeId) (s : ByteArray) (h : Ch (fun _ => False) w W) : Ch (fun _ => False) w (Lib.bytesWorld W e s) :=
 h.then_ (S' := fun _ => False) (Ch.of_below (bytes_below (Below.refl _ W) (Nat.le_refl _) e s)) (fun _ _ h => h.elim)
set_option maxRecDepth 100000 in
set_option maxHeartbeats 2000000 in
theorem text_any (p s : ByteArray) (w : World) (hp : p.size < 100000) (hs : s.size < 100000) :
  Calls Tryd.prog 33 #[.string p, .string s] w fun e w' => e = .returned (.agg (nums .u8 (txt (bytesOf p) (bytesOf s))).toArray) ∧ Ch (fun _ => False) w w' := by
 have kb := fun W => print_bytes (P := Tryd.prog) 9 23 5 Tryd.underlying9 Tryd.underlying23 Tryd.underlying5 p W
 have kc := fun W => print_bytes (P := Tryd.prog) 9 23 5 Tryd.underlying9 Tryd.underlying23 Tryd.underlying5 s W
 go_enter Tryd.func33, Tryd.ntmps33
 go_wp2_with fail
 have e1 : (w.alloc (.cells (nums .u8 (List.replicate 16 0)).toArray 35)).heap.size = w.heap.size + 1 := by simp
 have hr1 := bytes_reads (w.alloc (.cells (nums .u8 (List.replicate 16 0)).toArray 35)) 5 p (by omega)
 rw [e1] at hr1
 have hc1 := bytes_ch 5 p ((Ch.refl (fun _ => False) w).alloc (.cells (nums .u8 (List.replicate 16 0)).toArray 35))
 have hz1 := (bytes_ch 5 p (Ch.refl (fun _ => False) (w.alloc (.cells (nums .u8 (List.replicate 16 0)).toArray 35)))).blk (heap_alloc_new w _) (fun h => h)
 obtain ⟨W1, hW1⟩ : ∃ W1, W1 = Lib.bytesWorld (w.alloc (.cells (nums .u8 (List.replicate 16 0)).toArray 35)) 5 p := ⟨_, rfl⟩
 rw [← hW1] at hr1 hc1 hz1
 have hr2 := bytes_reads W1 5 s (by omega)
 have hcb := bytes_ch 5 s (Ch.refl (fun _ => False) W1)
 obtain ⟨WB, hWB⟩ : ∃ WB, WB = Lib.bytesWorld W1 5 s := ⟨_, rfl⟩
 rw [← hWB] at hr2 hcb
 have HR1 := Lib.hid (hcb.reads hr1 (fun _ _ h => h))
 have HR2 := Lib.hid hr2
 have HZB := Lib.hid (hcb.blk hz1 (fun h => h))
 have HCB := Lib.hid (hc1.then_ hcb (fun _ _ h => h.elim))
 clear hr1 hr2 hcb hz1 hc1 e1
 have HO : Hid (∀ c0 c1, Calls Tryd.prog 19 #[.slice (some ⟨w.heap.size + 1, 0, none⟩) p.size c0, .slice (some ⟨WB.heap.size + 1, 0, none⟩) 2 2] ((WB.alloc (.cells #[.int .u8 0, .int .u8 0, .int .u8 0, .int .u8 1] 5)).alloc (.cells #[.slice (some ⟨W1.heap.size, 0, none⟩) s.size c1, .slice (some ⟨WB.heap.size, 0, none⟩) 4 4] 23)) fun e w' => ∃ v, e = .returned v ∧ w'.ownsRow w.heap.size 5 1 v 32 (nums .u8 (hmac (bytesOf p) (bytesOf s ++ [0, 0, 0, 1]))) ∧ Ch (fun _ => False) w w' ∧ w'.heap[w.heap.size]? = some (.cells (nums .u8 (List.replicate 16 0)).toArray 35 (0, 0))) := Lib.hid fun c0 c1 => by
  have hcc : Ch (fun _ => False) WB ((WB.alloc (.cells #[.int .u8 0, .int .u8 0, .int .u8 0, .int .u8 1] 5)).alloc (.cells #[.slice (some ⟨W1.heap.size, 0, none⟩) s.size c1, .slice (some ⟨WB.heap.size, 0, none⟩) 4 4] 23)) := ((Ch.refl _ _).alloc _).alloc _
  have hr2 := rows2_two (heap_alloc2_new WB (.cells #[.int .u8 0, .int .u8 0, .int .u8 0, .int .u8 1] 5) (.cells #[.slice (some ⟨W1.heap.size, 0, none⟩) s.size c1, .slice (some ⟨WB.heap.size, 0, none⟩) 4 4] 23)) (hcc.reads HR2.out (fun _ _ h => h)) (reads_blk (l := [0, 0, 0, 1]) (k := .u8) (n := 4) (heap_alloc2_old WB _ _) rfl (by decide))
  refine (msum_any _ _ p.size c0 2 2 (bytesOf p) [bytesOf s, [0, 0, 0, 1]] _ (hcc.reads HR1.out (fun _ _ h => h)) hr2 (bytesOf_bs p) ?_ hp (by simp [bytesOf_length]; omega) (by decide)).mono ?_
  ·intro x hx
   simp only [List.mem_cons, List.not_mem_nil, or_false] at hx
   rcases hx with rfl | rfl
   ·exact bytesOf_bs s
   ·unfold Bs; decide
  ·rintro e w' ⟨v, rfl, ho, hb⟩
   rw [show ([bytesOf s, [0, 0, 0, 1]] : List (List Int)).flatten = bytesOf s ++ [0, 0, 0, 1] by simp] at ho
   exact ⟨v, rfl, own_less ho (by have := HCB.out.size; simp; omega), (HCB.out.then_ hcc (fun _ _ h => h.elim)).then_ (S' := fun _ => False) (Ch.of_below hb) (fun _ _ h => h.elim), (Ch.of_below (S := fun _ => False) hb).blk (hcc.blk HZB.out (fun h => h)) (fun h => h)⟩
 subst hWB
 subst hW1
 refine (HO.out _ _).mono ?_
 clear HO HR1 HR2 HZB HCB kc
 rintro e w2 ⟨v, rfl, ho, hC, hz⟩
 obtain ⟨A2, c2, rfl, h32⟩ := q_slice (q_of_own ho)
 have HO2 := Lib.hid (rd_own ho)
 have HC2 := Lib.hid hC
 have HZ2 := Lib.hid hz
 clear ho hC hz
 go_wp2_with fail
 go_loopw [5, 6, 19] (fun t u i wr => ∃ (j : Nat) (At Au : Option Addr) (ct cu : Nat), j ≤ 15 ∧ i = .int .i64 j ∧ t = .slice At 32 ct ∧ u = .slice Au 32 cu ∧ 32 ≤ ct ∧ ReadsInt wr .u8 At 32 (tx (bytesOf p) (bytesOf s) j).1 ∧ ReadsInt wr .u8 Au 32 (tx (bytesOf p) (bytesOf s) j).2 ∧ Ch (fun _ => False) w wr ∧ wr.heap[w.heap.size]? = some (.cells (nums .u8 (List.replicate 16 0)).toArray 35 (0, 0))) (fun _ _ i _ => (15 - intOf i).toNat)
 case atStart => exact ⟨0, A2, A2, c2, c2, by omega, rfl, rfl, rfl, by have := h32; omega, HO2.out, HO2.out, HC2.out, HZ2.out⟩
 case round =>
  obtain ⟨j, At, Au, ct, cu, hj, rfl, rfl, rfl, hct, ht, hu, hC, hz⟩ := hrel
  clear HO2 HC2 HZ2
  by_cases hlt : j < 15
  ·have HT := Lib.hid ht
   have HC := Lib.hid hC
   have HZ := Lib.hid hz
   have HO : Hid (∀ c0, Calls Tryd.prog 19 #[.slice (some ⟨wr.heap.size, 0, none⟩) p.size c0, .slice (some ⟨(Lib.bytesWorld wr 5 p).heap.size, 0, none⟩) 1 1] ((Lib.bytesWorld wr 5 p).alloc (.cells #[.slice Au 32 cu] 23)) fun e w' => ∃ v, e = .returned v ∧ w'.ownsRow w.heap.size 5 1 v 32 (nums .u8 (hmac (bytesOf p) (tx (bytesOf p) (bytesOf s) j).2)) ∧ Ch (fun _ => False) wr w') := Lib.hid fun c0 => by
    have hcc : Ch (fun _ => False) (Lib.bytesWorld wr 5 p) ((Lib.bytesWorld wr 5 p).alloc (.cells #[.slice Au 32 cu] 23)) := (Ch.refl _ _).alloc _
    have hcw := (bytes_ch 5 p (Ch.refl (fun _ => False) wr)).trans hcc
    have hl2 := (tx_len (bytesOf p) (bytesOf s) j).2
    refine (msum_any _ _ p.size c0 1 1 (bytesOf p) [(tx (bytesOf p) (bytesOf s) j).2] _ (hcc.reads (bytes_reads wr 5 p (by omega)) (fun _ _ h => h)) (rows2_one1 (heap_alloc_new _ _) (hcw.reads hu (fun _ _ h => h))) (bytesOf_bs p) ?_ hp (by simp [hl2]) (by decide)).mono ?_
    ·intro x hx
     rw [List.mem_singleton] at hx
     subst hx
     exact (tx_b _ _ j).2
    ·rintro e w' ⟨v, rfl, ho, hb⟩
     rw [show ([(tx (bytesOf p) (bytesOf s) j).2] : List (List Int)).flatten = (tx (bytesOf p) (bytesOf s) j).2 by simp] at ho
     exact ⟨v, rfl, own_less ho (by have := hcw.size; have := hC.size; omega), hcw.then_ (S' := fun _ => False) (Ch.of_below hb) (fun _ _ h => h.elim)⟩
   clear ht hC hz
   go_wp2_with fail
   refine (HO.out _).mono ?_
   clear HO hu
   rintro e w3 ⟨v, rfl, ho, hC⟩
   obtain ⟨A3, c3, rfl, -⟩ := q_slice (q_of_own ho)
   have HU3 := Lib.hid (rd_own ho)
   have HT3 := Lib.hid (hC.reads HT.out (fun _ _ h => h))
   have HZ3 := Lib.hid (hC.blk HZ.out (fun h => h))
   have HC3 := Lib.hid (HC.out.then_ hC (fun _ _ h => h.elim))
   have HTB := Lib.hid (tx_b (bytesOf p) (bytesOf s) j).1
   have HUB := Lib.hid (hmac_b (bytesOf p) (tx (bytesOf p) (bytesOf s) j).2)
   have HTX : Hid ((tx (bytesOf p) (bytesOf s) (j + 1)).1 = zx (fun q => x8 (nt (tx (bytesOf p) (bytesOf s) j).1 q) (nt (hmac (bytesOf p) (tx (bytesOf p) (bytesOf s) j).2) q)) 32 ∧ (tx (bytesOf p) (bytesOf s) (j + 1)).2 = hmac (bytesOf p) (tx (bytesOf p) (bytesOf s) j).2) := Lib.hid ⟨rfl, rfl⟩
   clear ho hC HT HC HZ
   have hmk := make32
   obtain ⟨T, hT⟩ : ∃ T, T = (tx (bytesOf p) (bytesOf s) j).1 := ⟨_, rfl⟩
   obtain ⟨U, hU⟩ : ∃ U, U = hmac (bytesOf p) (tx (bytesOf p) (bytesOf s) j).2 := ⟨_, rfl⟩
   rw [← hT] at HT3 HTX HTB
   rw [← hU] at HU3 HTX HUB
   clear hT hU
   obtain ⟨we, rfl⟩ : ∃ we : World, we = wr := ⟨_, rfl⟩
   go_wp2_with fail
   go_loopw [8, 31] (fun _ i wq => ∃ q : Nat, q ≤ 32 ∧ i = .int .i64 q ∧ wq.heap[w3.heap.size]? = some (.cells (nums .u8 (zx (fun q => x8 (nt T q) (nt U q)) q)).toArray 5 (0, 0)) ∧ Ch (fun _ => False) w3 wq) (fun _ i _ => (32 - intOf i).toNat)
   case atStart => exact ⟨0, by omega, rfl, by rw [zx_0]; exact heap_alloc_new w3 _, (Ch.refl _ _).alloc _⟩
   case round =>
    obtain ⟨q, hq, rfl, hg, hC⟩ := hrel
    have HG := Lib.hid hg
    have HC := Lib.hid hC
    clear hg hC
    by_cases hlt2 : q < 32
    ·have c5 := blk_nums HG.out q (by rw [zx_len]; exact hlt2)
     have f5 : wr.frozen? ⟨w3.heap.size, q, none⟩ = false := blk_frozen HG.out _
     obtain ⟨x0, x1⟩ := HTB.out.at q
     obtain ⟨y0, y1⟩ := HUB.out.at q
     obtain ⟨at_, eT, hct1⟩ := (HC.out.reads HT3.out (fun _ _ h => h)).2.2 (by omega)
     obtain ⟨au_, eU, hcu1⟩ := (HC.out.reads HU3.out (fun _ _ h => h)).2.2 (by omega)
     have ct1 := hct1 q hlt2
     have cu1 := hcu1 q hlt2
     change wr.cell? _ = some (.int .u8 (nt T q)) at ct1
     change wr.cell? _ = some (.int .u8 (nt U q)) at cu1
     subst eT eU
     have e5 := blk_set HG.out q (.int .u8 (x8 (nt T q) (nt U q)))
     rw [nums_set, zx_set (fun q => x8 (nt T q) (nt U q)) q hlt2] at e5
     have E5 := Lib.hid e5
     clear e5 hct1 hcu1
     go_wp2
     go_region
     all_goals
      go_wp2
      exact ⟨⟨q + 1, by omega, by go_num, E5.out, (HC.out.setCell (.inr (Nat.le_refl _)) _).drew⟩, by simp [intOf]; omega⟩
    ·obtain rfl : q = 32 := by omega
     have hrt := reads_blk HG.out (zx_len _ _) (by omega)
     have HRT := Lib.hid hrt
     have HRU := Lib.hid (HC.out.reads HU3.out (fun _ _ h => h))
     have HRZ := Lib.hid (HC.out.blk HZ3.out (fun h => h))
     have HRC := Lib.hid (HC3.out.then_ HC.out (fun _ _ h => h.elim))
     clear hrt
     rw [show ((32 : Nat) : Int) = 32 from rfl]
     go_wp2_with fail
     exact ⟨⟨j + 1, some ⟨w3.heap.size, 0, none⟩, A3, 32, c3, by omega, by go_num, rfl, rfl, Nat.le_refl _, by rw [HTX.out.1]; exact HRT.out, by rw [HTX.out.2]; exact HRU.out, HRC.out, HRZ.out⟩, by simp [intOf]; omega⟩
  ·obtain rfl : j = 15 := by omega
   have HT := Lib.hid (ht.take_ 16 (by omega))
   have HC := Lib.hid hC
   have HZ := Lib.hid hz
   clear ht hu hC hz
   go_wp2_with fail
   obtain ⟨d, hd⟩ : ∃ d, d = txt (bytesOf p) (bytesOf s) := ⟨_, rfl⟩
   have HD : Hid (ReadsInt wr .u8 At 16 d) := Lib.hid (by rw [hd]; exact HT.out)
   have HDL : Hid (d.length = 16) := Lib.hid HD.out.1
   have HDE := Lib.hid hd
   clear hd HT
   obtain ⟨we, rfl⟩ : ∃ we : World, we = wr := ⟨_, rfl⟩
   refine (okey_any At ct d we HD.out).mono ?_
   rintro e w3 ⟨rfl, hC3⟩
   have HC3 := Lib.hid (HC.out.then_ hC3 (fun _ _ h => h.elim))
   have HZ3 := Lib.hid (hC3.blk HZ.out (fun h => h))
   have HB3 : Hid (w.heap.size < w3.heap.size) := Lib.hid (blk_lt HZ3.out)
   clear hC3 HZ
   go_wp2_with first
    | (refine wpList_store_blk rfl 35 (.tmp 9) (.tmp 53) rfl w3.heap.size 0 (nums .u8 d) rfl rfl (nums .u8 (List.replicate 16 0)).toArray 35 (heap_alloc_new w3 _) (by rw [nums_len, HDL.out]; decide) (by rw [nums_len, HDL.out]; kernel_rfl) (nums_one _ _) ?_; intro w4 h4 hc4; (have H4 : Hid (w4.heap[w3.heap.size]? = some (.cells (nums .u8 d).toArray 35 (0, 0))) := Lib.hid (by rw [h4, List.take_zero, List.nil_append, nums_len, HDL.out]; (rw [show List.drop (0 + 16) (nums .u8 (List.replicate 16 0)).toArray.toList = [] by rfl, List.append_nil]))); have HZ4 : Hid (w4.heap[w.heap.size]? = some (.cells (nums .u8 (List.replicate 16 0)).toArray 35 (0, 0))) := Lib.hid (hc4.blk (((Ch.refl (fun _ => False) w3).alloc _).blk HZ3.out (fun h => h)) (by show w.heap.size ≠ w3.heap.size; have := HB3.out; omega)); have HC4 : Hid (Ch (fun _ => False) w w4) := Lib.hid ((HC3.out.alloc _).then_ hc4 (fun i hi e => by have := HB3.out; omega)); clear h4 hc4 HZ3)
    | (refine wpList_load_mid rfl 35 (.tmp 9) rfl w3.heap.size 0 rfl (nums .u8 d) (.array 16 5) (range_nums H4.out) Tryd.underlying35 rfl (by rw [nums_len, HDL.out]; kernel_rfl) ?_)
    | (refine wpList_store_blk rfl 35 (.tmp 4) (.tmp 55) rfl w.heap.size 0 (nums .u8 d) rfl rfl (nums .u8 (List.replicate 16 0)).toArray 35 HZ4.out (by rw [nums_len, HDL.out]; decide) (by rw [nums_len, HDL.out]; kernel_rfl) (nums_one _ _) ?_; intro w5 h5 hc5; (have H5 : Hid (w5.heap[w.heap.size]? = some (.cells (nums .u8 d).toArray 35 (0, 0))) := Lib.hid (by rw [h5, List.take_zero, List.nil_append, nums_len, HDL.out]; (rw [show List.drop (0 + 16) (nums .u8 (List.replicate 16 0)).toArray.toList = [] by rfl, List.append_nil]))); have HC5 : Hid (Ch (fun _ => False) w w5) := Lib.hid (HC4.out.then_ hc5 (fun i hi e => by omega)); clear h5 hc5)
   refine bodyPost_ret (results_cell_row rfl _ _ w.heap.size 35 (nums .u8 d).toArray (0, 0) (.array 16 5) rfl H5.out Tryd.underlying35 rfl (by rw [List.size_toArray, nums_len, HDL.out]; kernel_rfl)) rfl ⟨by rw [HDE.out], HC5.out⟩
end Go.Proofs.YtejhjlfakfaegaaDoor
set_option linter.unusedSimpArgs false
set_option linter.unusedVariables false
namespace Go.Proofs.YtejhjlfakfaegaaDoor
open Go.RowKit Go.Proofs.YtejhjlfakfaegaaDoorW.PrintWords
theorem iteAnd {α : Type} (p q : Prop) [Decidable p] [Decidable q] (a b : α) : (if p then if q then a else b else b) = if p ∧ q then a else b := by
 by_cases hp : p <;> by_cases hq : q <;> simp [hp, hq]
theorem list16 {l : List Int} (h : l.length = 16) : ∃ a0 a1 a2 a3 a4 a5 a6 a7 a8 a9 b0 b1 b2 b3 b4 b5, l = [a0, a1, a2, a3, a4, a5, a6, a7, a8, a9, b0, b1, b2, b3, b4, b5] := by
 match l, h with
 | [a0, a1, a2, a3, a4, a5, a6, a7, a8, a9, b0, b1, b2, b3, b4, b5], _ => exact ⟨a0, a1, a2, a3, a4, a5, a6, a7, a8, a9, b0, b1, b2, b3, b4, b5, rfl⟩
set_option maxRecDepth 100000 in
set_option maxHeartbeats 2000000 in
theorem key_eq (l l' : List Int) (h : l.length = 16) (h' : l'.length = 16) (W : World) :
  (Op.equalIn 10000 35 (.agg (nums .u8 l).toArray) (.agg (nums .u8 l').toArray)).run Tryd.prog W = .ok (decide (l = l')) W := by
 obtain ⟨a0, a1, a2, a3, a4, a5, a6, a7, a8, a9, b0, b1, b2, b3, b4, b5, rfl⟩ := list16 h
 obtain ⟨c0, c1, c2, c3, c4, c5, c6, c7, c8, c9, d0, d1, d2, d3, d4, d5, rfl⟩ := list16 h'
 generalize hr : decide ([a0, a1, a2, a3, a4, a5, a6, a7, a8, a9, b0, b1, b2, b3, b4, b5] = [c0, c1, c2, c3, c4, c5, c6, c7, c8, c9, d0, d1, d2, d3, d4, d5]) = r
 have u3 := Tryd.underlying5
 have a3 := Tryd.isAgg5
 have z3 := Tryd.sizeOf5
 have e : ∀ (x : List Int), (nums .u8 x).toArray = (x.map (Value.int .u8)).toArray := fun _ => rfl
 simp only [e, List.map_cons, List.map_nil]
 rw [show (10000 : Nat) = 9999 + 1 from rfl, Op.equalIn]
 simp only [Sem.run_bind, run_underlying Tryd.underlying35, Result.andThen_ok]
 simp only [Std.Legacy.Range.forIn_eq_forIn_range', Std.Legacy.Range.size, Nat.sub_zero, Nat.add_sub_cancel, Nat.div_one, List.range'_succ, List.range'_zero, List.forIn_cons, List.forIn_nil]
 go_simp
 have hd : ∀ (p q : Prop) [Decidable p] [Decidable q], (p ↔ q) → (if p then Result.ok true W else Result.ok false W) = Result.ok (decide q) W := fun p q _ _ h => by
  by_cases hp : p
  ·rw [if_pos hp, decide_eq_true (h.1 hp)]
  ·rw [if_neg hp, decide_eq_false (fun hq => hp (h.2 hq))]
 rw [iteAnd, iteAnd, iteAnd, iteAnd, iteAnd, iteAnd, iteAnd, iteAnd, iteAnd, iteAnd, iteAnd, iteAnd, iteAnd, iteAnd, iteAnd]
 rw [← hr]
 apply hd
 simp only [List.cons.injEq, and_true, and_assoc]
end Go.Proofs.YtejhjlfakfaegaaDoor
