/- The reference's limbs: at, times. -/
import Derived.Test.YtejhjlfakfaegaaApp
set_option linter.unusedSimpArgs false
set_option linter.unusedVariables false
namespace Go.Proofs.Ytejhjlfakfaegaa
open Go.RowKit Go.Proofs.YtejhjlfakfaegaaW.PrintWords

def W64 (x : Int) : Prop := 0 ≤ x ∧ x < 18446744073709551616
theorem nt_w64 {l : List Int} (h : ∀ x ∈ l, W64 x) (k : Nat) : W64 (nt l k) := by
  by_cases hk : k < l.length
  · rw [nt_get hk]; exact h _ (List.getElem_mem hk)
  · simp [nt, List.getD_eq_getElem?_getD, List.getElem?_eq_none (Nat.le_of_not_lt hk), W64]
theorem set_w64 {l : List Int} (h : ∀ x ∈ l, W64 x) (k : Nat) {y : Int} (hy : W64 y) : ∀ x ∈ l.set k y, W64 x := fun x hx => by
  rcases List.mem_or_eq_of_mem_set hx with h1 | rfl
  · exact h x h1
  · exact hy
theorem mod_w64 (x : Int) : W64 (x % 18446744073709551616) := by unfold W64; omega
theorem info_u64 : (Try.prog.info? 44).map (fun i => (i.zero, i.size, i.bytes)) = some (some (.int .u64 0), 1, 8) := by kernel_rfl
theorem own_drewN {w : World} {base : Nat} {e : TypeId} {size n : Nat} {v : Value} {xs : List Value} (h : w.ownsRow base e size v n xs) (m : Nat) : (w.drewN m).ownsRow base e size v n xs := h
theorem own_here {w : World} {base : Nat} {e : TypeId} {k : IntKind} {g n c : Nat} {xs : List Int} (h : w.ownsRow base e 1 (.slice (some ⟨g, 0, none⟩) n c) n (nums k xs)) (j : Nat) (hj : j < n) : w.cell? ⟨g, j, none⟩ = some (.int k (nt xs j)) ∧ w.frozen? ⟨g, j, none⟩ = false ∧ base ≤ g := by
  obtain ⟨A', c', he, hr⟩ := own_reads h
  injection he with he
  subst he
  obtain ⟨ad, ha, hc⟩ := hr.2.2 (by omega)
  injection ha with ha
  subst ha
  have := hc j hj
  rw [add_plain] at this
  refine ⟨this, ?_⟩
  rcases h.2 with ⟨h', _⟩ | ⟨g', cap', cur, h', hb, hh, _⟩
  · cases h'
  · have e : g = g' := by injection h' with h'; injection h' with h'; injection h' with h'
    subst e
    exact ⟨by simp [World.frozen?, hh], hb⟩
theorem at_any (A : Option Addr) (n c k : Nat) (l : List Int) (w : World) (h : ReadsInt w .u64 A n l) (hk : k < 1000) (hn : n < 1000000) :
    Calls Try.prog 48 #[.slice A n c, .int .i64 k] w fun e w' => e = .returned (.int .u64 (nt l k)) ∧ w' = w := by
  by_cases hkn : k < n
  · obtain ⟨ad, rfl, hc⟩ := h.2.2 (by omega)
    have c0 : w.cell? (ad.add k) = some (.int .u64 (nt l k)) := hc k hkn
    have i0 : (k : Int) < n := by omega
    clear h hc
    generalize nt l k = x at *
    go_enter Try.func48, Try.ntmps48
    go_wp2
    go_ret
    exact ⟨rfl, rfl⟩
  · have i0 : ¬ (k : Int) < n := by omega
    have hz : nt l k = 0 := by
      have := h.1
      simp [nt, List.getD_eq_getElem?_getD, List.getElem?_eq_none (show l.length ≤ k by omega)]
    rw [hz]
    clear h hz
    go_enter Try.func48, Try.ntmps48
    go_wp2
    go_ret
    exact ⟨rfl, rfl⟩

def inn (a b : List Int) (i : Nat) : Nat → List Int → List Int
  | 0, o => o
  | j + 1, o => (inn a b i j o).set (i + j) ((nt (inn a b i j o) (i + j) + nt a i * nt b j) % 18446744073709551616)
def outer (a b : List Int) : Nat → List Int → List Int
  | 0, o => o
  | i + 1, o => inn a b i b.length (outer a b i o)
def carry1 (o : List Int) (k : Nat) : List Int := o.set (k + 1) ((nt o (k + 1) + nt o k / 262144) % 18446744073709551616)
def carry : Nat → List Int → List Int
  | 0, o => o
  | k + 1, o => (carry1 (carry k o) k).set k (nt (carry1 (carry k o) k) k % 262144)
def timesM (a b : List Int) : List Int := carry (a.length + b.length - 1) (outer a b a.length (List.replicate (a.length + b.length) 0))
theorem inn_length (a b : List Int) (i : Nat) (o : List Int) : ∀ j, (inn a b i j o).length = o.length
  | 0 => rfl
  | j + 1 => by rw [inn, List.length_set, inn_length a b i o j]
theorem outer_length (a b : List Int) (o : List Int) : ∀ i, (outer a b i o).length = o.length
  | 0 => rfl
  | i + 1 => by rw [outer, inn_length, outer_length a b o i]
theorem inn_w (a b : List Int) (i : Nat) (o : List Int) (h : ∀ x ∈ o, W64 x) : ∀ j, ∀ x ∈ inn a b i j o, W64 x
  | 0 => h
  | j + 1 => set_w64 (inn_w a b i o h j) _ (mod_w64 _)
theorem outer_w (a b : List Int) (o : List Int) (h : ∀ x ∈ o, W64 x) : ∀ i, ∀ x ∈ outer a b i o, W64 x
  | 0 => h
  | i + 1 => inn_w a b i _ (outer_w a b o h i) _
theorem carry1_w (o : List Int) (k : Nat) (h : ∀ x ∈ o, W64 x) : ∀ x ∈ carry1 o k, W64 x := set_w64 h _ (mod_w64 _)
theorem carry1_length (o : List Int) (k : Nat) : (carry1 o k).length = o.length := by simp [carry1]
theorem carry_length (o : List Int) : ∀ k, (carry k o).length = o.length
  | 0 => rfl
  | k + 1 => by rw [carry, List.length_set, carry1_length, carry_length o k]
theorem carry_w (o : List Int) (h : ∀ x ∈ o, W64 x) : ∀ k, ∀ x ∈ carry k o, W64 x
  | 0 => h
  | k + 1 => set_w64 (carry1_w _ k (carry_w o h k)) _ (by have := nt_w64 (carry1_w _ k (carry_w o h k)) k; unfold W64 at *; omega)
theorem timesM_length (a b : List Int) : (timesM a b).length = a.length + b.length := by rw [timesM, carry_length, outer_length, List.length_replicate]
theorem timesM_w (a b : List Int) : ∀ x ∈ timesM a b, W64 x := carry_w _ (outer_w _ _ _ (fun x hx => by rw [List.eq_of_mem_replicate hx]; unfold W64; omega) _) _
set_option maxHeartbeats 4000000 in
set_option maxRecDepth 100000 in
theorem times_any (Aa Ab : Option Addr) (ca cb na nb : Nat) (a b : List Int) (w : World)
    (ha : ReadsInt w .u64 Aa na a) (hb : ReadsInt w .u64 Ab nb b) (hna : 0 < na) (hnb : 0 < nb) (hsm : na + nb < 100) (haw : ∀ x ∈ a, W64 x) (hbw : ∀ x ∈ b, W64 x) :
    Calls Try.prog 47 #[.slice Aa na ca, .slice Ab nb cb] w fun e w' =>
      ∃ v, e = .returned v ∧ w'.ownsRow w.heap.size 44 1 v (na + nb) (nums .u64 (timesM a b)) ∧ Below w.heap.size w w' := by
  obtain ⟨aa, rfl, hca⟩ := ha.2.2 hna
  obtain ⟨ab', rfl, hcb⟩ := hb.2.2 hnb
  have HA := Lib.hid hca
  have HB := Lib.hid hcb
  have LA := Lib.hid ha.1
  have LB := Lib.hid hb.1
  have HAW := Lib.hid haw
  have HBW := Lib.hid hbw
  clear ha hb hca hcb haw hbw
  have z0 : IntKind.i64.wrap ((na : Int) + nb) = (na : Int) + nb := IntWalk.i64_in _ (by omega)
  go_enter Try.func47, Try.ntmps47
  go_wp2
  go_loopw [5, 6] (fun o i wr => ∃ k : Nat, k ≤ na + nb ∧ i = .int .i64 k ∧ wr.ownsRow w.heap.size 44 1 o k (nums .u64 (List.replicate k 0)) ∧ Below w.heap.size w wr) (fun _ i _ => (na + nb - intOf i).toNat)
  case atStart => exact ⟨0, by omega, rfl, World.ownsRow_made w _ 0 (Nat.le_refl _) (by unfold maxLen; omega) rfl, (Below.refl _ _).alloc (Nat.le_refl _) _⟩
  case round =>
    obtain ⟨k, hk, rfl, hown, hBl⟩ := hrel
    by_cases hlt : k < na + nb
    · --[T1
      obtain ⟨A, c, rfl⟩ := own_slice hown
      have i0 : (k : Int) < (na : Int) + nb := by omega
      have z4 : Hid (((List.replicate k (0 : Int)).length + 1) * 8 ≤ 140737488355328) := Lib.hid (by simp; omega)
      have z5 : Hid (List.replicate k (0 : Int) ++ [0] = List.replicate (k + 1) 0) := Lib.hid (by simp [List.replicate_succ'])
      have HO : Hid (wr.ownsRow w.heap.size 44 1 (.slice A k c) (List.replicate k (0 : Int)).length (nums .u64 (List.replicate k 0))) := by rw [List.length_replicate]; exact Lib.hid hown
      have z6 : Hid ((List.replicate (k + 1) (0 : Int)).length = k + 1) := Lib.hid (by simp)
      have HBl := Lib.hid hBl
      clear hown hBl
      generalize List.replicate k (0 : Int) = zs at *
      go_wp2_with (at_builtin; (refine print_append_num (w0 := w) w.heap.size rfl _ _ 48 44 .u64 8 rfl Try.underlying48 info_u64 (by decide) (.slice A k c) zs 0 rfl rfl HO.out (HBl.out) HBl.out.size z4.out ?_; intro v1 w1 hown hB1 hg hat; rw [z5.out, z6.out] at hown; have HO1 := Lib.hid hown; have HB1 := Lib.hid hB1; obtain ⟨A1, c1, rfl⟩ := own_slice hown); clear hown hB1 hg hat)
      go_roundw
      case rel => exact ⟨k + 1, by omega, by go_num, HO1.out, HB1.out⟩
      case measure => simp [intOf]; omega
      --T1]
    · obtain rfl : k = na + nb := by omega
      have hn0 : (List.replicate (na + nb) (0 : Int)).length = na + nb := by simp
      obtain ⟨g, c, hv, hg0, _⟩ := hown.form (by omega)
      subst hv
      have hbg : w.heap.size ≤ g := (own_here hown 0 (by omega)).2.2
      have hzw : ∀ x ∈ List.replicate (na + nb) (0 : Int), W64 x := fun x hx => by rw [List.eq_of_mem_replicate hx]; unfold W64; omega
      have HM : Hid (timesM a b = carry (na + nb - 1) (outer a b na (List.replicate (na + nb) 0))) := by unfold timesM; rw [LA.out, LB.out]; exact Lib.hid rfl
      have HO := Lib.hid hown
      have HC := Lib.hid (Ch.of_below (S := fun _ => False) hBl)
      have HZW := Lib.hid hzw
      have HN0 := Lib.hid hn0
      clear hown hBl hzw hlt hk hn0
      generalize List.replicate (na + nb) (0 : Int) = zs at *
      go_wp2
      obtain ⟨w5, rfl⟩ : ∃ w5 : World, w5 = wr := ⟨_, rfl⟩
      go_loopw [7, 8] (fun i _ wr => ∃ k : Nat, k ≤ na ∧ i = .int .i64 k ∧ wr.ownsRow w.heap.size 44 1 (.slice (some ⟨g, 0, none⟩) (na + nb) c) (na + nb) (nums .u64 (outer a b k zs)) ∧ Ch (fun _ => False) w wr) (fun i _ _ => (na - intOf i).toNat)
      case atStart => exact ⟨0, by omega, rfl, HO.out, HC.out⟩
      case round =>
        obtain ⟨i, hi, rfl, hown, hC⟩ := hrel
        by_cases hlt : i < na
        · --[T2
          have i0 : (i : Int) < na := by omega
          have how := outer_w a b zs HZW.out i
          have hsuc : Hid (outer a b (i + 1) zs = inn a b i nb (outer a b i zs)) := by rw [← LB.out]; exact Lib.hid rfl
          have HO := Lib.hid hown
          have HC := Lib.hid hC
          have HOW := Lib.hid how
          clear hown hC how
          generalize outer a b i zs = os at *
          go_wp2
          go_loopw [8] (fun j wr => ∃ k : Nat, k ≤ nb ∧ j = .int .i64 k ∧ wr.ownsRow w.heap.size 44 1 (.slice (some ⟨g, 0, none⟩) (na + nb) c) (na + nb) (nums .u64 (inn a b i k os)) ∧ Ch (fun _ => False) w wr) (fun j _ => (nb - intOf j).toNat)
          case atStart => exact ⟨0, by omega, rfl, HO.out, HC.out⟩
          case round =>
            obtain ⟨j, hj, rfl, hown, hC⟩ := hrel
            by_cases hlt2 : j < nb
            · --[T3
              have c0 := hC.cell (HA.out i hlt) (fun h => h)
              have c1 := hC.cell (HB.out j hlt2) (fun h => h)
              change wr.cell? _ = some (.int .u64 (nt a i)) at c0
              change wr.cell? _ = some (.int .u64 (nt b j)) at c1
              obtain ⟨c2, f2, _⟩ := own_here hown (i + j) (by omega)
              obtain ⟨a0, a1⟩ := nt_w64 HAW.out i
              obtain ⟨b0, b1⟩ := nt_w64 HBW.out j
              obtain ⟨o0, o1⟩ := nt_w64 (inn_w a b i os HOW.out j) (i + j)
              have hst := (own_store hown ((i + j : Nat) : Int) ((nt (inn a b i j os) (i + j) + nt a i * nt b j) % 18446744073709551616)).1
              have hin : inn a b i (j + 1) os = (inn a b i j os).set (i + j) ((nt (inn a b i j os) (i + j) + nt a i * nt b j) % 18446744073709551616) := rfl
              rw [Int.toNat_natCast, ← hin] at hst
              have i1 : IntKind.i64.wrap ((i : Int) + j) = (i : Int) + j := IntWalk.i64_in _ (by omega)
              have i2 : 0 ≤ (i : Int) + j := by omega
              have i3 : (i : Int) + j < (na : Int) + nb := by omega
              have i4 : ((i : Int) + j).toNat = i + j := by omega
              have i5 : (j : Int) < nb := by omega
              have HST := Lib.hid hst
              have HC := Lib.hid hC
              have HO := Lib.hid hown
              clear hst hin hown hC
              generalize nt a i = x at *
              generalize nt b j = y at *
              generalize nt (inn a b i j os) (i + j) = z at *
              go_wp2
              refine wp_region_quiet_tail 21 (by kernel_rfl) (by kernel_rfl) ?_
              simp only [List.take_succ_cons, List.take_zero, List.drop_succ_cons, List.drop_zero]
              repeat (go_big_quiet_step (fail))
              refine wpQuiet_nil ?_
              intro _ hw'
              obtain ⟨nd, hw''⟩ := hw'
              subst hw''
              go_wp2
              refine ⟨⟨j + 1, by omega, by go_num, ?_, (HC.out.drewN nd).setCell (.inr hbg) _⟩, by simp [intOf]; omega⟩
              rw [show IntKind.u64.wrap (z + IntKind.u64.wrap (x * y)) = (z + x * y) % 18446744073709551616 by simp only [IntKind.wrap_u64]; omega]
              exact HST.out
              --T3]
            · obtain rfl : j = nb := by omega
              have i5 : ¬ (j : Int) < j := by omega
              have HO := Lib.hid hown
              have HC := Lib.hid hC
              clear hown hC
              go_wp2
              refine ⟨⟨i + 1, by omega, by go_num, by rw [hsuc.out]; exact HO.out, HC.out⟩, by simp [intOf]; omega⟩
          --T2]
        · --[T4
          obtain rfl : i = na := by omega
          have how := outer_w a b zs HZW.out i
          have hol := outer_length a b zs i
          rw [HN0.out] at hol
          have HO := Lib.hid hown
          have HC := Lib.hid hC
          have HOW := Lib.hid how
          have HOL := Lib.hid hol
          clear hown hC how hol hlt hi
          generalize outer a b i zs = os at *
          go_wp2
          obtain ⟨w6, rfl⟩ : ∃ w6 : World, w6 = wr := ⟨_, rfl⟩
          go_loopw [9] (fun k wr => ∃ q : Nat, q ≤ i + nb - 1 ∧ k = .int .i64 q ∧ wr.ownsRow w.heap.size 44 1 (.slice (some ⟨g, 0, none⟩) (i + nb) c) (i + nb) (nums .u64 (carry q os)) ∧ Ch (fun _ => False) w wr) (fun k _ => (i + nb - intOf k).toNat)
          case atStart => exact ⟨0, by omega, rfl, HO.out, HC.out⟩
          case round =>
            obtain ⟨k, hk, rfl, hown, hC⟩ := hrel
            have i1 : IntKind.i64.wrap ((k : Int) + 1) = (k : Int) + 1 := IntWalk.i64_in _ (by omega)
            by_cases hlt2 : k < i + nb - 1
            · --[T5
              obtain ⟨c1, f1, _⟩ := own_here hown (k + 1) (by omega)
              obtain ⟨c2, f2, _⟩ := own_here hown k (by omega)
              obtain ⟨o0, o1⟩ := nt_w64 (carry_w os HOW.out k) (k + 1)
              obtain ⟨p0, p1⟩ := nt_w64 (carry_w os HOW.out k) k
              have hst := (own_store hown ((k + 1 : Nat) : Int) ((nt (carry k os) (k + 1) + nt (carry k os) k / 262144) % 18446744073709551616)).1
              rw [Int.toNat_natCast] at hst
              change World.ownsRow _ _ _ _ _ _ (nums .u64 (carry1 (carry k os) k)) at hst
              obtain ⟨c3, f3, _⟩ := own_here hst k (by omega)
              have hsame : nt (carry1 (carry k os) k) k = nt (carry k os) k := by simp [carry1, nt, List.getD_eq_getElem?_getD, List.getElem?_set]
              have hst2 := (own_store hst ((k : Nat) : Int) (nt (carry1 (carry k os) k) k % 262144)).1
              rw [Int.toNat_natCast] at hst2
              change World.ownsRow _ _ _ _ _ _ (nums .u64 (carry (k + 1) os)) at hst2
              rw [hsame] at hst2 c3
              have i2 : 0 ≤ (k : Int) + 1 := by omega
              have i3 : (k : Int) + 1 < (i : Int) + nb := by omega
              have i4 : ((k : Int) + 1).toNat = k + 1 := by omega
              have i5 : (k : Int) < (i : Int) + nb := by omega
              have HST := Lib.hid hst2
              have HC := Lib.hid hC
              have HO := Lib.hid hown
              have C3 := Lib.hid c3
              have F3 := Lib.hid f3
              clear hst hst2 hown hC hsame c3 f3
              generalize nt (carry k os) (k + 1) = x at *
              generalize nt (carry k os) k = y at *
              go_wp2
              refine wp_region_quiet_tail 15 (by kernel_rfl) (by kernel_rfl) ?_
              simp only [List.take_succ_cons, List.take_zero, List.drop_succ_cons, List.drop_zero]
              repeat (go_big_quiet_step (fail))
              refine wpQuiet_nil ?_
              intro _ hw'
              obtain ⟨nd, hw''⟩ := hw'
              subst hw''
              go_wp2
              refine ⟨⟨k + 1, by omega, by go_num, ?_, ((HC.out.drewN nd).setCell (.inr hbg) _).setCell (.inr hbg) _⟩, by simp [intOf]; omega⟩
              rw [show IntKind.u64.wrap (x + y / 262144) = (x + y / 262144) % 18446744073709551616 by simp only [IntKind.wrap_u64]]
              exact HST.out
              --T5]
            · obtain rfl : k = i + nb - 1 := by omega
              have i6 : ¬ (((i + nb - 1 : Nat) : Int) + 1) < (i : Int) + nb := by omega
              rw [← HM.out] at hown
              have HO := Lib.hid hown
              have HC := Lib.hid hC
              clear hown hC
              generalize i + nb - 1 = q at *
              go_wp2
              go_ret
              exact ⟨_, rfl, HO.out, HC.out.below⟩
          --T4]
end Go.Proofs.Ytejhjlfakfaegaa
