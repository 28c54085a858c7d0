/- The reference's Digest. -/
import Derived.Test.YtejhjlfakfaegaaRefB
set_option linter.unusedSimpArgs false
set_option linter.unusedVariables false
namespace Go.Proofs.Ytejhjlfakfaegaa
open Go.RowKit Go.Proofs.YtejhjlfakfaegaaW.PrintWords

/-- behind the first i blocks -/
def hAt (ks m : List Int) : Nat → List Int
  | 0 => h0s
  | i + 1 => blk ks (hAt ks m i) ((m.drop (64 * i)).take 64)
theorem hAt_length (ks m : List Int) : ∀ i, (hAt ks m i).length = 8
  | 0 => rfl
  | i + 1 => blk_length _ _ _
theorem hAt_w (ks m : List Int) : ∀ i, ∀ x ∈ hAt ks m i, W32 x
  | 0 => h0s_w
  | i + 1 => blk_w _ _ _
theorem hAt_absorb (ks m : List Int) : ∀ (n i : Nat), 64 * i ≤ m.length → m.length < 64 * (i + n + 1) → (absorb ks n (hAt ks m i) (m.drop (64 * i))).1 = hAt ks m (m.length / 64)
  | 0, i, h0, h1 => by
    rw [show m.length / 64 = i by omega]
    rfl
  | n + 1, i, h0, h1 => by
    unfold absorb
    by_cases h : 64 ≤ (m.drop (64 * i)).length
    · rw [if_pos h, List.drop_drop]
      rw [List.length_drop] at h
      exact hAt_absorb ks m n (i + 1) (by omega) (by omega)
    · rw [if_neg h]
      rw [List.length_drop] at h
      rw [show m.length / 64 = i by omega]
theorem padded_length (m : List Int) : (padded m).length = 64 * ((padded m).length / 64) := by
  have : (padded m).length = m.length + 1 + ((119 - m.length % 64) % 64 + 8) := by simp [padded, putBytes_length]; omega
  omega
theorem sha_hAt (m : List Int) : sha m = out32 (hAt kst (padded m) ((padded m).length / 64)) := by
  unfold sha
  have := hAt_absorb kst (padded m) (m.length + 64) 0 (by omega) (by simp [padded, putBytes_length]; omega)
  rw [← this]
  rfl
theorem pad_stop (n j : Nat) (h : j ≤ (119 - n % 64) % 64) : ((n + 1 + j) % 64 = 56) ↔ j = (119 - n % 64) % 64 := by omega
theorem put_take (N : Int) (p : Nat) (h : p < 8) : (putBytes N).take (8 - p) = (putBytes N).take (8 - (p + 1)) ++ [N / 2 ^ (8 * p) % 256] := by
  rcases p with _|_|_|_|_|_|_|_|p
  all_goals first | omega | rfl
theorem padded_bs (b : List Int) (h : Bs b) : Bs (padded b) := by
  intro x hx
  simp only [padded, List.mem_append, List.mem_cons, List.mem_replicate] at hx
  rcases hx with h1 | rfl | ⟨_, rfl⟩ | h1
  · exact h x h1
  · omega
  · omega
  · exact putBytes_bs _ x h1
theorem four_reads {W : World} {g : Nat} {k : IntKind} {x y z u : Int} {T : TypeId} (h : W.heap[g]? = some (.cells #[.int k x, .int k y, .int k z, .int k u] T (0, 0))) : ReadsInt W k (some ⟨g, 0, none⟩) 4 [x, y, z, u] := by
  refine ⟨rfl, by omega, fun _ => ⟨_, rfl, fun j hj => ?_⟩⟩
  rw [add_plain, blk_cell h]
  match j, hj with
  | 0, _ => rfl
  | 1, _ => rfl
  | 2, _ => rfl
  | 3, _ => rfl
theorem put_low (x : Int) : (putBytes x).drop 4 = [x / 16777216 % 256, x / 65536 % 256, x / 256 % 256, x % 256] := by
  simp [putBytes, putAt, List.range_succ]
def lenV : Value → Nat
  | .slice _ n _ => n
  | _ => 0
set_option maxHeartbeats 4000000 in
set_option maxRecDepth 100000 in
theorem rdigest_any (Ak Ab : Option Addr) (ck cb n : Nat) (ks b : List Int) (w : World)
    (hk : ReadsInt w .u32 Ak 64 ks) (hb : ReadsInt w .u8 Ab n b) (hn : n < 1000000) (hkw : ∀ x ∈ ks, W32 x) (hl : Bs b) :
    Calls Try.prog 10 #[.slice Ak 64 ck, .slice Ab n cb] w fun e w' =>
      ∃ v, e = .returned v ∧ QRow w' w.heap.size 5 1 v 32 (nums .u8 (out32 (hAt ks (padded b) ((padded b).length / 64)))) ∧ Below w.heap.size w w' := by
  have HK := Lib.hid hk
  have HL := Lib.hid hb.1
  have hbk : ∀ a, Ab = some a → 0 < n → a.block < w.heap.size := by
    intro a ha hpos
    obtain ⟨a', ha', hcc⟩ := hb.2.2 hpos
    rw [ha] at ha'
    injection ha' with ha'
    subst ha'
    have := World.block_lt_of_cell? w _ (hcc 0 hpos)
    simpa [Addr.add] using this
  have HB := Lib.hid (((Ch.refl (fun _ => False) w).alloc (.cells #[] 5)).reads' hb (fun _ _ _ h => h))
  clear hk hb hbk
  have z0 : Hid ((([] : List Int).length + n) * 1 ≤ 140737488355328) := Lib.hid (by simp; omega)
  have z1 : Hid ((b.length + 1) * 1 ≤ 140737488355328) := Lib.hid (by rw [HL.out]; omega)
  have z2 : Hid (([] ++ b).length = n) := Lib.hid (by simp [HL.out])
  have z3 : Hid ((b ++ [128]).length = n + 1) := Lib.hid (by simp [HL.out])
  have hmade : QRow (w.alloc (.cells #[] 5)) w.heap.size 5 1 (.slice (some ⟨w.heap.size, 0, none⟩) 0 0) ([] : List Int).length (nums .u8 []) := q_of_own (World.ownsRow_made w _ 0 (Nat.le_refl _) (by unfold maxLen; omega) rfl)
  have HMADE := Lib.hid hmade
  clear hmade
  go_enter Try.func10, Try.ntmps10
  go_wp2_with (first
    | (refine wpList_append_q w.heap.size rfl _ _ 22 5 .u8 1 rfl Try.underlying22 info_u8 (by decide) (.slice (some ⟨w.heap.size, 0, none⟩) 0 0) [] b Ab n cb rfl rfl HMADE.out HB.out (by simp) z0.out ?_; intro v1 w1 hq hg hat; have hC1 : Hid (Ch (fun _ => False) w w1) := Lib.hid (Ch.grown ((Ch.refl _ _).alloc _) hg (fun k hk => .inr (q_typed HMADE.out k hk).1)); rw [z2.out, List.nil_append] at hq; obtain ⟨A1, k1, rfl, hk1⟩ := q_slice hq; have HQ := Lib.hid hq; clear hg hq hat)
    | (refine wpList_append_q w.heap.size rfl _ _ 22 5 .u8 1 rfl Try.underlying22 info_u8 (by decide) (.slice A1 n k1) b [128] (some ⟨w1.heap.size, 0, none⟩) 1 1 rfl rfl (by rw [HL.out]; exact q_alloc HQ.out _) (one_reads (heap_alloc_new w1 _)) (Ch.size (hC1.out.alloc _)) z1.out ?_; intro v2 w2 hq2 hg2 hat2; have hC2 : Hid (Ch (fun _ => False) w w2) := Lib.hid (Ch.grown (hC1.out.alloc _) hg2 (fun k hk => .inr (q_typed HQ.out k hk).1)); rw [z3.out] at hq2; obtain ⟨A2, k2, rfl, hk2⟩ := q_slice hq2; have HQ2 := Lib.hid hq2; clear hg2 hq2 hat2))
  go_loopw [5] (fun m wr => ∃ (j L : Nat) (A : Option Addr) (c : Nat), j ≤ (119 - n % 64) % 64 ∧ L = n + 1 + j ∧ m = .slice A L c ∧ QRow wr w.heap.size 5 1 m (b ++ 128 :: List.replicate j 0).length (nums .u8 (b ++ 128 :: List.replicate j 0)) ∧ Ch (fun _ => False) w wr) (fun m _ => n + 1 + 64 - lenV m)
  case atStart => exact ⟨0, n + 1, A2, k2, by omega, rfl, rfl, by rw [show b ++ 128 :: List.replicate 0 0 = b ++ [128] from rfl, z3.out]; exact HQ2.out, hC2.out⟩
  case round =>
    clear HQ2 hC2 HQ hC1 z0 z1 z2 HMADE
    obtain ⟨j, L, A, c, hj, hL, rfl, hq, hC⟩ := hrel
    have hst := pad_stop n j hj
    rw [← hL] at hst
    have HLL := Lib.hid hL
    by_cases hlt : j = (119 - n % 64) % 64
    · --[D2
      have hb1 : (((L : Int) % 64) != 56) = false := by have := hst.2 hlt; simp; omega
      have HPM : Hid (padded b = b ++ 128 :: List.replicate j 0 ++ putBytes (8 * n)) := Lib.hid (by unfold padded; rw [HL.out, ← hlt]; simp)
      have HQ := Lib.hid hq
      have HC := Lib.hid hC
      have HPL : Hid ((b ++ 128 :: List.replicate j 0).length = L) := Lib.hid (by simp [HL.out]; omega)
      clear hq hC hst hL
      generalize b ++ 128 :: List.replicate j 0 = ys at *
      go_wp2
      generalize hN : (n : Int) * 8 = N
      have hN8 : (8 * (n : Int)) = N := by omega
      rw [hN8] at HPM
      have n0 : 0 ≤ N := by omega
      have n1 : N < 8000000 := by omega
      obtain ⟨w5, rfl⟩ : ∃ w5 : World, w5 = wr := ⟨_, rfl⟩
      go_loopw [5, 7] (fun m i wr => ∃ (q S : Nat) (A : Option Addr) (c : Nat), q ≤ 8 ∧ i = .int .i64 ((q : Int) - 1) ∧ m = .slice A S c ∧ S = (ys ++ (putBytes N).take (8 - q)).length ∧ QRow wr w.heap.size 5 1 m (ys ++ (putBytes N).take (8 - q)).length (nums .u8 (ys ++ (putBytes N).take (8 - q))) ∧ Ch (fun _ => False) w wr) (fun _ i _ => (intOf i + 1).toNat)
      case atStart => exact ⟨8, L, A, c, by omega, rfl, rfl, by simp [HPL.out], by simpa using HQ.out, HC.out⟩
      case round =>
        obtain ⟨q, S, A3, c3, hq8, rfl, rfl, hS, hq, hC⟩ := hrel
        have HQ3 := Lib.hid hq
        have HC3 := Lib.hid hC
        have HS3 := Lib.hid hS
        have hlen8 : (ys ++ (putBytes N).take (8 - q)).length = L + (8 - q) := by simp [HPL.out, putBytes_length]
        have HL8 := Lib.hid hlen8
        clear hq hC hlen8 hS
        rcases q with _ | p
        · --[D4
          rw [show (((0 : Nat) : Int) - 1) = -1 from rfl]
          have hS0 : S ≤ 9223372036854775 := by have h1 := HS3.out; have h2 := HL8.out; have := HLL.out; omega
          have hM : ys ++ (putBytes N).take (8 - 0) = padded b := by rw [HPM.out, List.take_of_length_le (by rw [putBytes_length]; omega)]
          rw [hM] at HS3 HQ3
          have hT := padded_length b
          have HMB : Hid (Bs (padded b)) := Lib.hid (padded_bs b hl)
          generalize hMM : padded b = M at *
          have HMM := Lib.hid hMM
          obtain ⟨t, ht⟩ : ∃ t, M.length / 64 = t := ⟨_, rfl⟩
          have HT := Lib.hid ht
          have hST : S = 64 * t := by rw [HS3.out, ← ht]; exact hT
          have HST := Lib.hid hST
          clear HPM HPL HLL hM HL8 n0 n1 hN hN8 ht hb1 hlt HQ HC z3 hT hMM
          go_wp2
          obtain ⟨w7, rfl⟩ : ∃ w7 : World, w7 = wr := ⟨_, rfl⟩
          obtain ⟨w6, hw6⟩ : ∃ w6 : World, w6 = w7.alloc (.cells (nums .u32 h0s).toArray 46) := ⟨_, rfl⟩
          have HQh : Hid (QRow w6 w.heap.size 46 1 (.slice (some ⟨w7.heap.size, 0, none⟩) 8 8) 8 (nums .u32 h0s)) := by rw [hw6]; exact q_of_own (own_lit w7 w.heap.size 46 .u32 h0s HC3.out.size (by simp [h0s]))
          have HQM : Hid (QRow w6 w.heap.size 5 1 (.slice A3 S c3) S (nums .u8 M)) := by rw [hw6, HS3.out]; have := HQ3.out; rw [HS3.out] at this; exact q_alloc this _
          have HC6 : Hid (Ch (fun _ => False) w w6) := by rw [hw6]; exact HC3.out.alloc _
          have HW6 := Lib.hid hw6
          clear hw6 HQ3 HC3
          go_loopw [8, 9] (fun h i wr => ∃ k : Nat, k ≤ t ∧ i = .int .i64 ((64 * k : Nat) : Int) ∧ QRow wr w.heap.size 46 1 h 8 (nums .u32 (hAt ks M k)) ∧ Ch (fun _ => False) w6 wr) (fun _ i _ => (S - intOf i).toNat)
          case atStart => exact ⟨0, by omega, rfl, by have := HQh.out; rw [HW6.out] at this; exact this, by rw [HW6.out]; exact Ch.refl _ _⟩
          case round =>
            obtain ⟨k, hk, rfl, hqh, hC⟩ := hrel
            by_cases hlt : k < t
            · --[D5
              have hqm : QRow wr w.heap.size 5 1 (.slice A3 S c3) S (nums .u8 M) := q_move HQM.out fun j hj => hC.block j (q_lt HQM.out j hj) id
              obtain ⟨A8, c8, rfl, _⟩ := q_slice hqh
              obtain ⟨am, rfl, _⟩ := (q_reads hqm).2.2 (by have := HST.out; omega)
              have hqc := (q_slice HQM.out)
              have hrm := reads_sub (q_reads hqm) (64 * k) 64 (by have := HST.out; omega)
              have hrh := q_reads hqh
              have hrk := (HC6.out.trans hC).reads' HK.out (fun _ _ _ h => h)
              have hcon := rblock_any A8 (some (am.add (64 * k))) Ak c8 (c3 - 64 * k) ck (hAt ks M k) ((M.drop (64 * k)).take 64) ks wr hrh hrm hrk (hAt_w ks M k) (HMB.out.sub _ _) hkw
              have hsc : S ≤ c3 := by
                obtain ⟨_, _, e, h⟩ := hqc
                injection e with e1 e2 e3
                omega
              have HCON : Hid (Calls Try.prog 24 #[.slice A8 8 c8, .slice (some (am.add (64 * k))) 64 (c3 - 64 * k), .slice Ak 64 ck] wr fun e w' => ∃ v, e = .returned v ∧ w'.ownsRow wr.heap.size 46 1 v 8 (nums .u32 (hAt ks M (k + 1))) ∧ Below wr.heap.size wr w') := hcon
              have HCk := Lib.hid hC
              have hks : 64 * k + 64 ≤ S := by have := HST.out; omega
              clear hcon hrk hrh hrm hqc hqm hqh hC hST
              generalize hF : 64 * k = F at *
              have HF := Lib.hid hF
              clear hF
              have i0 : IntKind.i64.wrap ((F : Int) + 64) = (F : Int) + 64 := IntWalk.i64_in _ (by omega)
              have i1 : (F : Int) < S := by omega
              have i2 : (F : Int) + 64 ≤ S := by omega
              have i3 : (F : Int) + 64 ≤ c3 := by omega
              have i4 : ((F : Int) + 64).toNat = F + 64 := by omega
              have i5 : 0 ≤ (F : Int) + 64 := by omega
              have i6 : (F : Int) ≤ (F : Int) + 64 := by omega
              have i7 : F + 64 - F = 64 := by omega
              have i8 : ¬ c3 = F := by omega
              have i9 : ¬ c3 - F = 0 := by omega
              go_wp2_with (go_at_call 24; refine (HCON.out).mono ?_; rintro e w3 ⟨v, rfl, ho, hb⟩; obtain ⟨A9, c9, rfl⟩ := own_slice ho; have HO := Lib.hid ho; have HB3 := Lib.hid hb; clear ho hb)
              go_roundw
              case rel => exact ⟨k + 1, by omega, by have := HF.out; go_num, q_lower (q_of_own HO.out) (Nat.le_trans HC6.out.size HCk.out.size), HCk.out.trans (Ch.of_below HB3.out)⟩
              case measure => simp [intOf]; omega
              --D5]
            · --[D6
              obtain rfl : k = t := by omega
              obtain ⟨w8, rfl⟩ : ∃ w8 : World, w8 = wr := ⟨_, rfl⟩
              have HMM2 : Hid (hAt ks (padded b) ((padded b).length / 64) = hAt ks M k) := by rw [HMM.out, HT.out]; exact Lib.hid rfl
              have HC8 := Lib.hid (HC6.out.trans hC)
              have h8 := hAt_length ks M k
              have hw8 := hAt_w ks M k
              generalize hAt ks M k = hh at *
              have HQH := Lib.hid hqh
              have H8 := Lib.hid h8
              obtain ⟨A8, c8, rfl, _⟩ := q_slice hqh
              obtain ⟨ah, rfl, _⟩ := (q_reads hqh).2.2 (by omega)
              have hS1 : ((64 * k : Nat) : Int) = (S : Int) := by omega
              rw [hS1]
              clear hqh h8 hC hlt hk hS1 hST HMM HT HW6 HQM HC6 HQh
              go_wp2
              go_loopw [10, 11] (fun o i wr => ∃ (k : Nat) (A : Option Addr) (c : Nat), k ≤ 8 ∧ i = .int .i64 k ∧ o = .slice A (4 * k) c ∧ QRow wr w8.heap.size 5 1 o (outTo hh k).length (nums .u8 (outTo hh k)) ∧ Ch (fun _ => False) w8 wr) (fun _ i _ => (8 - intOf i).toNat)
              case atStart => exact ⟨0, some ⟨w8.heap.size, 0, none⟩, 0, by omega, rfl, rfl, q_of_own (World.ownsRow_made w8 _ 0 (Nat.le_refl _) (by unfold maxLen; omega) rfl), (Ch.refl _ _).alloc _⟩
              case round =>
                obtain ⟨k, A, c, hk, rfl, rfl, hq, hC⟩ := hrel
                by_cases hlt : k < 8
                · --[D7
                  have hcell : w8.cell? (ah.add k) = some (.int .u32 (nt hh k)) := q_at HQH.out rfl hlt
                  obtain ⟨x0, x1⟩ := nt_w hw8 k
                  have hsuc := Lib.hid (outTo_succ hh k)
                  have HLO := Lib.hid (outTo_length hh (k + 1))
                  have HZ := Lib.hid (outTo_length hh k)
                  have z4 : Hid (((outTo hh k).length + 4) * 1 ≤ 140737488355328) := Lib.hid (by rw [outTo_length]; omega)
                  have HQk := Lib.hid hq
                  have HCk := Lib.hid hC
                  have HMK : Hid (∀ w', Ch (fun _ => False) w8 w' → Ch (fun _ => False) w8 w' ∧ w'.cell? (ah.add k) = some (.int .u32 (nt hh k))) := Lib.hid fun w' hC => ⟨hC, hC.cell hcell (fun h => h)⟩
                  clear hq hC hcell
                  generalize nt hh k = x at *
                  generalize outTo hh k = zs at *
                  generalize hzt : outTo hh (k + 1) = zt at *
                  have HZT := Lib.hid hzt
                  clear hzt
                  go_wp2
                  go_region_held3 (fun w' => Ch (fun _ => False) w8 w' ∧ w'.cell? (ah.add k) = some (.int .u32 x))
                    ((refine HMK.out _ ?_; (repeat (first | (with_reducible refine Ch.drew ?_) | (with_reducible refine Ch.alloc ?_ _))); first | (with_reducible exact HCk.out) | (with_reducible exact And.left (by assumption)) | (with_reducible exact hC1)))
                    ((refine step_append_q w8.heap.size (by rfl) _ _ 22 5 .u8 1 (by rfl) Try.underlying22 info_u8 (by decide) (.slice A (4 * k) c) zs [_, _, _, _] (some ⟨wr.heap.size, 0, none⟩) 4 4 (by rfl) (by rfl) (q_move HQk.out fun k hk => heap_alloc_old wr _ (q_lt HQk.out k hk)) (four_reads (show (World.drew (World.alloc wr _)).heap[wr.heap.size]? = some _ from heap_alloc_new wr _)) (Ch.size (S := fun _ => False) (And.left (by assumption))) z4.out ?_; intro v1 w1 hq hg hat; have hC1 : Ch (fun _ => False) w8 w1 := Ch.grown (And.left (by assumption)) hg (fun k hk => .inr (q_typed HQk.out k hk).1); obtain ⟨A1, k1, rfl, hk1⟩ := q_slice hq; have HQ := Lib.hid hq; clear hg hq hat))
                  go_wp2_with fail
                  refine ⟨⟨k + 1, A1, k1, by omega, by go_num, by rw [show zs.length + 4 = 4 * (k + 1) by have := HZ.out; omega], ?_, hC1⟩, by simp [intOf]; omega⟩
                  rw [HZT.out, hsuc.out, put_low]
                  have := HQ.out
                  simp only [IntKind.wrap_u8, List.length_append, List.length_cons, List.length_nil] at this ⊢
                  exact this
                  --D7]
                · --[D8
                  obtain rfl : k = 8 := by omega
                  have HQ := Lib.hid hq
                  have HC := Lib.hid hC
                  have h32 : Hid (outTo hh 8 = out32 hh) := Lib.hid rfl
                  have hln : Hid ((outTo hh 8).length = 32) := Lib.hid (outTo_length hh 8)
                  clear hq hC
                  go_wp2
                  go_ret
                  refine ⟨_, rfl, ?_, (HC8.out.trans HC.out).below⟩
                  rw [HMM2.out, ← h32.out]
                  have := q_lower HQ.out HC8.out.size
                  rw [hln.out] at this
                  exact this
                  --D8]
              --D6]
          --D4]
        · --[D3
          rw [show (((p + 1 : Nat) : Int) - 1) = (p : Int) by omega]
          have i0 : IntKind.i64.wrap (8 * (p : Int)) = 8 * (p : Int) := IntWalk.i64_in _ (by omega)
          have i1 : IntKind.u64.wrap (8 * (p : Int)) = 8 * (p : Int) := by rw [IntKind.wrap_u64]; omega
          have i2 : (8 * (p : Int)).toNat = 8 * p := by omega
          have i3 : IntKind.u8.wrap (N / 2 ^ (8 * p)) = N / 2 ^ (8 * p) % 256 := IntKind.wrap_u8 _
          have i4 : 0 ≤ 8 * (p : Int) := by omega
          have i5 : 8 * (p : Int) < 64 := by omega
          have hdn := put_take N p (by omega)
          have z4 : Hid (((ys ++ (putBytes N).take (8 - (p + 1))).length + 1) * 1 ≤ 140737488355328) := Lib.hid (by have := HL8.out; have := HLL.out; omega)
          have z5 : Hid ((ys ++ (putBytes N).take (8 - (p + 1))) ++ [N / 2 ^ (8 * p) % 256] = ys ++ (putBytes N).take (8 - p)) := Lib.hid (by rw [hdn, List.append_assoc])
          have z6 : Hid ((ys ++ (putBytes N).take (8 - p)).length = S + 1) := Lib.hid (by rw [hdn, ← List.append_assoc, List.length_append, ← HS3.out]; rfl)
          clear hdn
          generalize ys ++ (putBytes N).take (8 - (p + 1)) = zs at *
          generalize hzt : ys ++ (putBytes N).take (8 - p) = zt at *
          go_wp2_with (refine wpList_append_q w.heap.size rfl _ _ 22 5 .u8 1 rfl Try.underlying22 info_u8 (by decide) (.slice A3 S c3) zs [N / 2 ^ (8 * p) % 256] (some ⟨wr.heap.size, 0, none⟩) 1 1 rfl rfl (q_alloc HQ3.out _) (one_reads (heap_alloc_new wr _)) (Ch.size (HC3.out.alloc _)) z4.out ?_; intro v4 w4 hq4 hg4 hat4; have hC4 : Hid (Ch (fun _ => False) w w4) := Lib.hid (Ch.grown (HC3.out.alloc _) hg4 (fun k hk => .inr (q_typed HQ3.out k hk).1)); rw [z5.out, z6.out] at hq4; obtain ⟨A4, k4, rfl, hk4⟩ := q_slice hq4; have HQ4 := Lib.hid hq4; clear hg4 hq4 hat4)
          go_roundw
          case rel => exact ⟨p, S + 1, A4, k4, by omega, by go_num, rfl, by rw [hzt, z6.out], by rw [hzt, z6.out]; exact HQ4.out, hC4.out⟩
          case measure => simp [intOf]
          --D3]
      --D2]
    · --[D1
      have hm : ¬ L % 64 = 56 := fun e => hlt (hst.1 e)
      have HQ := Lib.hid hq
      have HC := Lib.hid hC
      have hlen : (b ++ 128 :: List.replicate j 0).length = L := by simp [HL.out]; omega
      have z4 : Hid (((b ++ 128 :: List.replicate j 0).length + 1) * 1 ≤ 140737488355328) := Lib.hid (by rw [hlen]; omega)
      have z5 : Hid ((b ++ 128 :: List.replicate j 0) ++ [0] = b ++ 128 :: List.replicate (j + 1) 0) := Lib.hid (by simp [List.replicate_succ'])
      have z6 : Hid ((b ++ 128 :: List.replicate (j + 1) 0).length = L + 1) := Lib.hid (by simp [HL.out]; omega)
      clear hq hC hst hlen
      generalize b ++ 128 :: List.replicate j 0 = ys at *
      have hb1 : (((L : Int) % 64) != 56) = true := by simp; omega
      clear hL
      go_wp2_with (refine wpList_append_q w.heap.size rfl _ _ 22 5 .u8 1 rfl Try.underlying22 info_u8 (by decide) (.slice A L c) ys [0] (some ⟨wr.heap.size, 0, none⟩) 1 1 rfl rfl (q_alloc HQ.out _) (one_reads (heap_alloc_new wr _)) (Ch.size (HC.out.alloc _)) z4.out ?_; intro v4 w4 hq4 hg4 hat4; have hC4 : Hid (Ch (fun _ => False) w w4) := Lib.hid (Ch.grown (HC.out.alloc _) hg4 (fun k hk => .inr (q_typed HQ.out k hk).1)); rw [z5.out, z6.out] at hq4; obtain ⟨A4, k4, rfl, hk4⟩ := q_slice hq4; have HQ4 := Lib.hid hq4; clear hg4 hq4 hat4)
      go_roundw
      case rel => exact ⟨j + 1, L + 1, A4, k4, by omega, by rw [HLL.out]; omega, rfl, by rw [z6.out]; exact HQ4.out, hC4.out⟩
      case measure => simp only [lenV]; have := HLL.out; omega
      --D1]
end Go.Proofs.Ytejhjlfakfaegaa
