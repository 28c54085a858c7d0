/- mac's Sum. -/
import Derived.Test.YtejhjlfakfaegaaMacR
import Derived.Test.YtejhjlfakfaegaaLawR1
import Derived.Deep.RegionHeld3
set_option linter.unusedSimpArgs false
set_option linter.unusedVariables false
namespace Go.Proofs.Ytejhjlfakfaegaa
open Go.RowKit Go.Proofs.YtejhjlfakfaegaaW.PrintWords

/-! ### Rows of rows, as triples -/
def encT (x : Option Addr × Nat × Nat) : Value := .slice x.1 x.2.1 x.2.2
theorem rows_triples {w : World} {A : Option Addr} {n : Nat} {ls : List (List Int)} (h : Rows2 w A n ls) :
    ∃ ts : List (Option Addr × Nat × Nat), ReadsOf encT (none, 0, 0) w A n ts ∧ ∀ j, j < n → (ts.getD j (none, 0, 0)).2.1 = (ls.getD j []).length ∧ ReadsInt w .u8 (ts.getD j (none, 0, 0)).1 (ls.getD j []).length (ls.getD j []) := by
  obtain ⟨h1, h2, h3⟩ := h
  rcases Nat.eq_zero_or_pos n with h0 | h0
  · subst h0
    exact ⟨[], ⟨rfl, by omega, fun h => by omega⟩, fun j hj => by omega⟩
  · obtain ⟨ad, rfl, hc⟩ := h3 h0
    have hch : ∀ j : Fin n, ∃ t : Option Addr × Nat × Nat, w.cell? (ad.add j) = some (encT t) ∧ t.2.1 = (ls.getD j []).length ∧ ReadsInt w .u8 t.1 (ls.getD j []).length (ls.getD j []) := fun j => by
      obtain ⟨Aj, cj, hcell, hr⟩ := hc j j.2
      exact ⟨(Aj, (ls.getD j []).length, cj), hcell, rfl, hr⟩
    refine ⟨List.ofFn fun j => Classical.choose (hch j), ⟨by simp, h2, fun _ => ⟨ad, rfl, fun j hj => ?_⟩⟩, fun j hj => ?_⟩
    · have := Classical.choose_spec (hch ⟨j, hj⟩)
      rw [this.1]
      simp [List.getD_eq_getElem?_getD, hj]
    · have := Classical.choose_spec (hch ⟨j, hj⟩)
      simp only [List.getD_eq_getElem?_getD, List.getElem?_ofFn, hj, dif_pos, Option.getD_some] at this ⊢
      exact this.2
theorem triples_rows {w : World} {A : Option Addr} {n : Nat} {ls : List (List Int)} {ts : List (Option Addr × Nat × Nat)} (h : ReadsOf encT (none, 0, 0) w A n ts) (hl : ls.length = n)
    (ht : ∀ j, j < n → (ts.getD j (none, 0, 0)).2.1 = (ls.getD j []).length ∧ ReadsInt w .u8 (ts.getD j (none, 0, 0)).1 (ls.getD j []).length (ls.getD j [])) : Rows2 w A n ls := by
  obtain ⟨h1, h2, h3⟩ := h
  refine ⟨hl, h2, fun hn => ?_⟩
  obtain ⟨ad, e, hc⟩ := h3 hn
  refine ⟨ad, e, fun j hj => ?_⟩
  obtain ⟨t1, t2⟩ := ht j hj
  refine ⟨_, (ts.getD j (none, 0, 0)).2.2, ?_, t2⟩
  rw [hc j hj, ← t1]
  rfl
theorem ReadsOf.ch {α : Type} {enc : α → Value} {d : α} {w w' : World} {A : Option Addr} {n : Nat} {xs : List α} (hC : Ch (fun _ => False) w w') (h : ReadsOf enc d w A n xs) : ReadsOf enc d w' A n xs :=
  ⟨h.1, h.2.1, fun hn => by
    obtain ⟨ad, e, hc⟩ := h.2.2 hn
    exact ⟨ad, e, fun j hj => hC.cell (hc j hj) (fun h => h)⟩⟩
/-! ### The blocks filled -/
def pdTo (f : Nat → Int) (i : Nat) : List Int := (List.range 64).map fun j => if j < i then f j else 0
theorem pdTo_len (f : Nat → Int) (i : Nat) : (pdTo f i).length = 64 := by simp [pdTo]
theorem pdTo_set (f : Nat → Int) (i : Nat) (h : i < 64) : (pdTo f i).set i (f i) = pdTo f (i + 1) := by
  apply List.ext_getElem
  · simp [pdTo]
  · intro j h1 h2
    rw [List.getElem_set]
    simp only [pdTo, List.getElem_map, List.getElem_range]
    by_cases e : i = j
    · subst e; rw [if_pos rfl, if_pos (by omega)]
    · rw [if_neg e]
      by_cases e2 : j < i
      · rw [if_pos e2, if_pos (by omega)]
      · rw [if_neg e2, if_neg (by omega)]
theorem pdTo_64 (k : List Int) (c : Int) : pdTo (fun j => x8 (nt k j) c) 64 = padB k c := by
  unfold pdTo padB
  apply List.map_congr_left
  intro j hj
  rw [if_pos (List.mem_range.1 hj)]
theorem pdTo_0 (f : Nat → Int) : pdTo f 0 = List.replicate 64 0 := by
  unfold pdTo
  rw [List.map_congr_left (g := fun _ => 0) (fun j _ => if_neg (by omega))]
  rfl
theorem info_bs : (Try.prog.info? 22).map (fun i => (i.zero, i.size, i.bytes)) = some (some (.slice none 0 0), 1, 24) := by kernel_rfl
def z64b : List Int := List.replicate 64 0
theorem make64 (W : World) : (Instr.makeSlice 22 (.int .i64 64) (.int .i64 64)).run Try.prog W = .ok (.slice (some ⟨W.heap.size, 0, none⟩) 64 64) (W.alloc (.cells (nums .u8 z64b).toArray 5)) := by kernel_rfl
set_option maxRecDepth 100000 in
set_option maxHeartbeats 2000000 in
theorem msum_any (Ak Ar : Option Addr) (n ck nr cr : Nat) (k : List Int) (ls : List (List Int)) (w : World) (hk : ReadsInt w .u8 Ak n k) (hr : Rows2 w Ar nr ls) (hkb : Bs k) (hlb : ∀ l ∈ ls, Bs l) (hn : n < 100000) (hsz : ls.flatten.length < 1000000) (hnr : nr < 1000000) :
    Calls Try.prog 19 #[.slice Ak n ck, .slice Ar nr cr] w fun e w' => ∃ v, e = .returned v ∧ w'.ownsRow w.heap.size 5 1 v 32 (nums .u8 (hmac k ls.flatten)) ∧ Below w.heap.size w w' := by
  have HK := Lib.hid hk
  have HKL := Lib.hid hk.1
  have HRR := Lib.hid hr
  have HOF := Lib.hid (fun W (hC : Ch (fun _ => False) w W) (h : Rows2 W (some ⟨w.heap.size, 0, none⟩) 1 [k]) => of_any _ 1 1 [k] W h (by simp; have := hk.1; omega) (by simpa using hkb))
  clear hk hr
  go_enter Try.func19, Try.ntmps19
  go_upto_if 11 with fail
  go_cut [0] (fun s0 wx => ∃ A m cc, s0 = .slice A m cc ∧ m ≤ 64 ∧ ReadsInt wx .u8 A m (key64 k) ∧ Ch (fun _ => False) w wx)
  case first =>
    by_cases h64 : 64 < n
    · have hk6 : key64 k = sha k := by unfold key64; rw [if_pos (by rw [HKL.out]; exact h64)]
      have HK6 := Lib.hid hk6
      clear hk6
      have HO := Lib.hid (HOF.out (w.alloc (.cells #[.slice Ak n ck] 22)) ((Ch.refl _ _).alloc _) (rows2_one1 (heap_alloc_new w _) (((Ch.refl (fun _ => False) _).alloc _).reads HK.out (fun _ _ h => h))))
      go_wp2_with fail
      refine (HO.out).mono ?_
      rintro e w2 ⟨v, rfl, ho, hb⟩
      rw [show ([k] : List (List Int)).flatten = k by simp] at ho
      obtain ⟨A2, c2, rfl, -⟩ := q_slice (q_of_own ho)
      have HO2 := Lib.hid ho
      have HC2 := Lib.hid (((Ch.refl (fun _ => False) w).alloc (.cells #[.slice Ak n ck] 22)).trans (Ch.of_below hb))
      clear ho hb
      go_wp2
      go_meet
      exact ⟨A2, 32, c2, rfl, by omega, by rw [HK6.out]; exact rd_own HO2.out, HC2.out⟩
    · have hk6 : key64 k = k := by unfold key64; rw [if_neg (by rw [HKL.out]; exact h64)]
      have HK6 := Lib.hid hk6
      clear hk6
      go_wp2
      go_meet
      exact ⟨Ak, n, ck, rfl, by omega, by rw [HK6.out]; exact HK.out, Ch.refl _ _⟩
  case rest =>
    obtain ⟨A, m, cc, rfl, hm, hr, hC⟩ := hcut
    have HR := Lib.hid hr
    have HCX := Lib.hid hC
    have HKB := Lib.hid (key64_b k hkb)
    have HKLL : Hid (hmac k ls.flatten = sha (padB (key64 k) 92 ++ sha (padB (key64 k) 54 ++ ls.flatten))) := Lib.hid rfl
    clear hr hC HOF HKL HK
    generalize key64 k = kl at *
    have hmk := make64
    obtain ⟨wa, rfl⟩ : ∃ wa : World, wa = wc := ⟨_, rfl⟩
    go_upto_region 3 with fail
    go_cut [5, 6] (fun s5 s6 wx => ∃ g5 g6, s5 = .slice (some ⟨g5, 0, none⟩) 64 64 ∧ s6 = .slice (some ⟨g6, 0, none⟩) 64 64 ∧ g5 ≠ g6 ∧ wx.heap[g5]? = some (.cells (nums .u8 z64b).toArray 5 (0, 0)) ∧ wx.heap[g6]? = some (.cells (nums .u8 z64b).toArray 5 (0, 0)) ∧ wa.heap.size ≤ g5 ∧ wa.heap.size ≤ g6 ∧ Ch (fun _ => False) wa wx)
    case first =>
      go_region
      all_goals
        go_wp2
        go_meet
        first
          | exact ⟨_, _, rfl, rfl, by omega, heap_alloc2_old wa _ _, heap_alloc2_new wa _ _, by omega, by omega, (((Ch.refl _ _).alloc _).alloc _).drew⟩
          | exact ⟨_, _, rfl, rfl, by omega, heap_alloc2_new wa _ _, heap_alloc2_old wa _ _, by omega, by omega, (((Ch.refl _ _).alloc _).alloc _).drew⟩
    case rest =>
      obtain ⟨g5, g6, rfl, rfl, hne, h5, h6, hl5, hl6, hC⟩ := hcut
      have HG5 := Lib.hid h5
      have HG6 := Lib.hid h6
      have HCY := Lib.hid (HCX.out.trans hC)
      have HR2 := Lib.hid (hC.reads HR.out (fun _ _ h => h))
      have HLO : Hid (w.heap.size ≤ g5 ∧ w.heap.size ≤ g6 ∧ (∀ a, A = some a → 0 < m → a.block < wa.heap.size ∧ a.block ≠ g5 ∧ a.block ≠ g6)) := Lib.hid ⟨by have := HCX.out.size; omega, by have := HCX.out.size; omega, fun a ha hp => by
        obtain ⟨a', ha', hcc⟩ := HR.out.2.2 hp
        rw [ha] at ha'
        injection ha' with ha'
        subst ha'
        have := World.block_lt_of_cell? wa _ (hcc 0 hp)
        simp [Addr.add] at this
        omega⟩
      clear h5 h6 hC HR HCX
      go_wp2
      go_loopw [7, 8, 19] (fun _ _ i wr => ∃ j : Nat, j ≤ 64 ∧ i = .int .i64 j ∧ wr.heap[g5]? = some (.cells (nums .u8 (pdTo (fun q => x8 (nt kl q) 54) j)).toArray 5 (0, 0)) ∧ wr.heap[g6]? = some (.cells (nums .u8 (pdTo (fun q => x8 (nt kl q) 92) j)).toArray 5 (0, 0)) ∧ ReadsInt wr .u8 A m kl ∧ Ch (fun _ => False) w wr) (fun _ _ i _ => (64 - intOf i).toNat)
      case atStart => exact ⟨0, by omega, rfl, by rw [pdTo_0]; exact HG5.out, by rw [pdTo_0]; exact HG6.out, HR2.out, HCY.out⟩
      case round =>
        obtain ⟨j, hj, rfl, h5, h6, hr, hC⟩ := hrel
        clear HG5 HG6 HR2 HCY
        have HG5 := Lib.hid h5
        have HG6 := Lib.hid h6
        have HR := Lib.hid hr
        have HC := Lib.hid hC
        clear h5 h6 hr hC
        by_cases hlt : j < 64
        · have c5 := blk_nums HG5.out j (by rw [pdTo_len]; exact hlt)
          have c6 := blk_nums HG6.out j (by rw [pdTo_len]; exact hlt)
          have f5 : wr.frozen? ⟨g5, j, none⟩ = false := blk_frozen HG5.out _
          have f6 : wr.frozen? ⟨g6, j, none⟩ = false := blk_frozen HG6.out _
          have hne' : g6 ≠ g5 := fun e => hne e.symm
          obtain ⟨x0, x1⟩ := HKB.out.at j
          have e5 := blk_set HG5.out j (.int .u8 (x8 (nt kl j) 54))
          rw [nums_set, pdTo_set (fun q => x8 (nt kl q) 54) j hlt] at e5
          have e6 := blk_set HG6.out j (.int .u8 (x8 (nt kl j) 92))
          rw [nums_set, pdTo_set (fun q => x8 (nt kl q) 92) j hlt] at e6
          have E5 := Lib.hid e5
          have E6 := Lib.hid e6
          clear e5 e6
          by_cases hjm : j < m
          · obtain ⟨ad, hA, hcell⟩ := HR.out.2.2 (by omega)
            have ck := hcell j hjm
            change wr.cell? _ = some (.int .u8 (nt kl j)) at ck
            subst hA
            go_wp2
            exact ⟨⟨j + 1, by omega, by go_num, (Below.heap_setCell _ _ _ _ (by show g5 ≠ g6; omega)).trans E5.out, blk_set_of (Below.heap_setCell _ _ _ _ (by show g6 ≠ g5; omega)) E6.out, (((Ch.refl (fun i => i = g5 ∨ i = g6) wr).setCell (.inl (.inl rfl)) _).setCell (.inl (.inr rfl)) _).reads' HR.out (fun a ha hp e => by have := HLO.out.2.2 a ha hp; omega), (HC.out.setCell (.inr (by have := HLO.out; show w.heap.size ≤ g5; omega)) _).setCell (.inr (by have := HLO.out; show w.heap.size ≤ g6; omega)) _⟩, by simp [intOf]; omega⟩
          · have hx : nt kl j = 0 := nt_end kl j (by rw [HR.out.1]; omega)
            rw [hx] at E5 E6
            clear hx x0 x1
            go_wp2
            exact ⟨⟨j + 1, by omega, by go_num, (Below.heap_setCell _ _ _ _ (by show g5 ≠ g6; omega)).trans E5.out, blk_set_of (Below.heap_setCell _ _ _ _ (by show g6 ≠ g5; omega)) E6.out, (((Ch.refl (fun i => i = g5 ∨ i = g6) wr).setCell (.inl (.inl rfl)) _).setCell (.inl (.inr rfl)) _).reads' HR.out (fun a ha hp e => by have := HLO.out.2.2 a ha hp; omega), (HC.out.setCell (.inr (by have := HLO.out; show w.heap.size ≤ g5; omega)) _).setCell (.inr (by have := HLO.out; show w.heap.size ≤ g6; omega)) _⟩, by simp [intOf]; omega⟩
        · obtain rfl : j = 64 := by omega
          have h5 := HG5.out
          have h6 := HG6.out
          rw [pdTo_64] at h5 h6
          have HG5 := Lib.hid h5
          have HG6 := Lib.hid h6
          clear h5 h6
          obtain ⟨ts, hts, htr⟩ := rows_triples HRR.out
          have HTS := Lib.hid hts
          have HTR := Lib.hid htr
          have HLB := Lib.hid hlb
          have hlen := HRR.out.1
          have HLEN := Lib.hid hlen
          have HTL : Hid (∀ g : Nat, List.length ([((some ⟨g, 0, none⟩ : Option Addr), 64, 64)] ++ ts : List (Option Addr × Nat × Nat)) = nr + 1) := Lib.hid fun g => by rw [List.length_append, hts.1, List.length_singleton]; omega
          clear hts htr hlb hlen
          rw [show ((64 : Nat) : Int) = 64 from rfl]
          go_wp2_with (at_builtin; go_must (refine print_append_row_of (w0 := w) encT (none, 0, 0) w.heap.size rfl _ _ 43 22 (.slice none 0 0) 24 rfl Try.underlying43 info_bs rfl (by decide) (fun _ => rfl) (.slice (some ⟨wr.heap.size, 0, none⟩) 1 1) [((some ⟨g5, 0, none⟩ : Option Addr), 64, 64)] ts Ar nr cr rfl rfl (own_lit_of (enc := encT) wr w.heap.size 22 [((some ⟨g5, 0, none⟩ : Option Addr), 64, 64)] HC.out.size (by simp)) (ReadsOf.ch (HC.out.alloc _) HTS.out) (HC.out.alloc _).below (HC.out.alloc (.cells #[.slice (some ⟨g5, 0, none⟩) 64 64] 22)).size (by simp; omega) ?_; intro v1 w1 hown hB1 hg hat; rw [HTL.out g5] at hown; obtain ⟨A1, c1, rfl⟩ := own_slice hown; have HO1 := Lib.hid hown; have HB1 := Lib.hid hB1; have HGR := Lib.hid hg; clear hown hB1 hg hat))
          have HC1 : Hid (Ch (fun _ => False) w w1) := Lib.hid ((Ch.refl _ _).then_ (S' := fun _ => False) (Ch.of_below HB1.out) (fun _ _ h => h.elim))
          have hW : Ch (fun k => k = wr.heap.size) wr w1 := (((Ch.refl _ wr).alloc _).grown HGR.out (fun k hk => .inl (by have h2 : some wr.heap.size = some k := hk; injection h2 with h2; exact h2.symm)))
          have r5 : ReadsInt w1 .u8 (some ⟨g5, 0, none⟩) 64 (padB kl 54) := reads_blk (hW.blk HG5.out (by have := blk_lt HG5.out; show g5 ≠ wr.heap.size; omega)) (padB_len _ _) (by omega)
          have b6 := hW.blk HG6.out (by have := blk_lt HG6.out; show g6 ≠ wr.heap.size; omega)
          obtain ⟨A1', c1', e1, hrd⟩ := own_reads_of (d := (none, 0, 0)) HO1.out
          injection e1 with e1 e2 e3
          subst e1 e3
          have hr2 : Rows2 w1 A1 (nr + 1) ([padB kl 54] ++ ls) := triples_rows hrd (by rw [List.length_append, HLEN.out, List.length_singleton]; omega) (fun j hj => by
            rcases j with _ | j
            · exact ⟨(padB_len _ _).symm, by
                show ReadsInt w1 .u8 (some ⟨g5, 0, none⟩) (padB kl 54).length (padB kl 54)
                rw [padB_len]; exact r5⟩
            · have := HTR.out j (by omega)
              exact ⟨this.1, HC1.out.reads this.2 (fun _ _ h => h)⟩)
          have HB6 := Lib.hid b6
          have HO := Lib.hid (of_any A1 (nr + 1) c1 ([padB kl 54] ++ ls) w1 hr2 (by rw [List.flatten_append, List.length_append, List.flatten_singleton, padB_len]; omega) (by intro l hl; rcases List.mem_append.1 hl with h | h; (rw [List.mem_singleton] at h; subst h; exact padB_b _ _); exact HLB.out l h))
          clear hW r5 b6 hrd hr2
          refine (HO.out).mono ?_
          clear HO
          rintro e w2 ⟨v, rfl, ho, hb⟩
          rw [List.flatten_append, List.flatten_singleton] at ho
          obtain ⟨A2, c2, rfl, -⟩ := q_slice (q_of_own ho)
          have HO2 := Lib.hid (rd_own ho)
          have HB7 := Lib.hid ((Ch.of_below (S := fun _ => False) hb).blk HB6.out (fun h => h))
          have HC2 := Lib.hid (HC1.out.then_ (S' := fun _ => False) (Ch.of_below hb) (fun _ _ h => h.elim))
          clear ho hb HB6
          go_wp2_with fail
          refine (of_any _ 2 2 [padB kl 92, sha (padB kl 54 ++ ls.flatten)] _ (rows2_two (heap_alloc_new w2 _) (reads_blk (((Ch.refl (fun _ => False) w2).alloc _).blk HB7.out (fun h => h)) (padB_len _ _) (by omega)) (((Ch.refl (fun _ => False) w2).alloc _).reads HO2.out (fun _ _ h => h))) (by simp [padB_len, sha_len]) (by intro l hl; simp only [List.mem_cons, List.not_mem_nil, or_false] at hl; rcases hl with rfl | rfl; exact padB_b _ _; exact sha_b _)).mono ?_
          rintro e w3 ⟨v, rfl, ho, hb⟩
          rw [show ([padB kl 92, sha (padB kl 54 ++ ls.flatten)] : List (List Int)).flatten = padB kl 92 ++ sha (padB kl 54 ++ ls.flatten) by simp, ← HKLL.out] at ho
          have HR3 := Lib.hid (own_less ho (show w.heap.size ≤ _ by have := HC2.out.size; simp; omega))
          have HB3 := Lib.hid ((HC2.out.alloc _).then_ (S' := fun _ => False) (Ch.of_below hb) (fun _ _ h => h.elim)).below
          clear ho hb
          go_wp2
          go_ret
          exact ⟨_, rfl, HR3.out, HB3.out⟩
end Go.Proofs.Ytejhjlfakfaegaa
