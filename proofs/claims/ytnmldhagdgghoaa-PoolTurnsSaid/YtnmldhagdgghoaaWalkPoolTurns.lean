/- The law PoolTurns, walked: each thread can take as many nodes as it has, and no more; brought back, they can be taken again. -/
import Derived.Test.YtnmldhagdgghoaaLaw06
import Derived.Deep.DeepMust
namespace Go.Proofs.Ytnmldhagdgghoaa.WalkPoolTurns
open Go Go.RowKit Go.Proofs.Ytnmldhagdgghoaa.Heap Go.Proofs.Ytnmldhagdgghoaa.Open Go.Proofs.Ytnmldhagdgghoaa.Sl Go.Proofs.Ytnmldhagdgghoaa.Pool Go.Proofs.Ytnmldhagdgghoaa.Law06

/-- The first m numbers, from 1 on. -/
def ids (m : Nat) : List Int := (List.range m).map fun j => ((j + 1 : Nat) : Int)
theorem ids_len (m : Nat) : (ids m).length = m := by simp [ids]
theorem ids_next (m : Nat) : ids m ++ [((m + 1 : Nat) : Int)] = ids (m + 1) := by simp [ids, List.range_succ]
theorem ids_get (m i : Nat) (h : i < m) : (ids m).getD i 0 = ((i + 1 : Nat) : Int) := by simp [ids, List.getD, h]

set_option maxHeartbeats 8000000 in
set_option maxRecDepth 100000 in
theorem main (a b c : Int) (ha0 : 0 ≤ a) (ha : a ≤ 255) (hb0 : 0 ≤ b) (hb : b ≤ 255) (hc0 : 0 ≤ c) (hc : c ≤ 255) (w : World) :
    Calls Try.prog 3 #[.int .u8 a, .int .u8 b, .int .u8 c] w fun e w' => e = .returned (.bool true) ∧ Below w.heap.size w w' := by
  obtain ⟨n, hn⟩ := Int.eq_ofNat_of_zero_le (show 0 ≤ 1 + a % 6 by omega)
  obtain ⟨k, hk⟩ := Int.eq_ofNat_of_zero_le (show 0 ≤ 1 + b % 8 by omega)
  obtain ⟨q, hq⟩ := Int.eq_ofNat_of_zero_le (show 0 ≤ 1 + c % 3 by omega)
  have n1 : 1 ≤ n := by omega
  have n2 : n ≤ 6 := by omega
  have k1 : 1 ≤ k := by omega
  have k2 : k ≤ 8 := by omega
  have q2 : q ≤ 3 := by omega
  have hnk : n * k ≤ 6 * 8 := Nat.mul_le_mul n2 k2
  go_enter Try.func3, Try.ntmps3
  go_wp2_with fail
  refine (new_yes _ n k n1 (by omega) k1 k2).mono ?_
  rintro e w1 ⟨p, rfl, hO, hB⟩
  obtain ⟨S, hS, hS2, hO⟩ : ∃ S : Nat → Prop, (∀ b, S b → w.heap.size ≤ b) ∧ (∀ b, S b → b < w1.heap.size) ∧ O w1 p S (newRows n k (n * k)) (List.replicate (1 + n * k) false) := ⟨_, fun b hb => hb.1, fun b hb => hb.2, hO⟩
  obtain ⟨M, hM⟩ : ∃ M, w1.heap.size = M := ⟨_, rfl⟩
  rw [hM] at hS2
  have hwM : w.heap.size ≤ M := by rw [← hM]; exact hB.size
  have hM1 : M ≤ w1.heap.size := by omega
  rw [outA_none] at hO
  have HN := Lib.hid hn; have HK := Lib.hid hk
  clear hM hn hk
  go_wp2_with fail
  go_loopw [43] (fun i wr => ∃ r : Nat, r ≤ q ∧ i = .int .i64 r ∧ O wr p S (newRows n k (n * k)) (outA (n * k) 0) ∧ Below w.heap.size w wr ∧ M ≤ wr.heap.size) (fun i _ => q - (intOf i).toNat)
  case atStart => exact ⟨0, Nat.zero_le _, rfl, hO, hB, hM1⟩
  case round =>
    obtain ⟨r, hr, rfl, hO, hB, hM1⟩ := hrel
    by_cases hrq : r < q
    · have hrq' : (r : Int) < (q : Int) := by omega
      go_wp2_with fail
      go_loopw [11, 46] (fun s11 i wr => ∃ t : Nat, t ≤ n ∧ i = .int .i64 t ∧ O wr p S (newRows n k (n * k)) (outA (n * k) (t * k)) ∧ wr.ownsRow M 3 1 s11 (t * k) (ints .i64 (ids (t * k))) ∧ Below w.heap.size w wr ∧ M ≤ wr.heap.size) (fun _ i _ => n - (intOf i).toNat)
      case atStart => exact ⟨0, Nat.zero_le _, rfl, by simpa using hO, by simpa [ids, ints] using World.ownsRow_nil _ _ _ _, hB, hM1⟩
      case round =>
        obtain ⟨t, ht, rfl, hO, hown, hB, hM1⟩ := hrel
        by_cases htn : t < n
        · have htn' : (t : Int) < (n : Int) := by omega
          go_wp2_with fail
          go_loopw [11, 50] (fun s11 i wr => ∃ j : Nat, j ≤ k ∧ i = .int .i64 j ∧ O wr p S (newRows n k (n * k)) (outA (n * k) (t * k + j)) ∧ wr.ownsRow M 3 1 s11 (t * k + j) (ints .i64 (ids (t * k + j))) ∧ Below w.heap.size w wr ∧ M ≤ wr.heap.size) (fun _ i _ => k - (intOf i).toNat)
          case atStart => exact ⟨0, Nat.zero_le _, rfl, hO, hown, hB, hM1⟩
          case round =>
            obtain ⟨j, hj, rfl, hO, hown, hB, hM1⟩ := hrel
            have hle : (t + 1) * k ≤ n * k := Nat.mul_le_mul_right _ htn
            rw [Nat.add_mul] at hle
            by_cases hjk : j < k
            · have hjk' : (j : Int) < (k : Int) := by omega
              have KT := take_all _ _ _ _ _ hO (t : Int)
              rw [take_next n k t j htn hjk] at KT
              have hw := whose_new n k t j htn hjk
              have hi := isOut_next (n * k) (t * k + j) (by omega)
              have hid := ids_next (t * k + j)
              have hms : t * k + j < 100 := by omega
              obtain ⟨y, hy⟩ : ∃ y : Int, ((t * k + j + 1 : Nat) : Int) = y := ⟨_, rfl⟩
              rw [hy] at KT hw hi hid
              obtain ⟨m, hm⟩ : ∃ m, t * k + j = m := ⟨_, rfl⟩
              rw [hm] at KT hi hid hown hms
              obtain ⟨va, vc, rfl⟩ := owned_len1 hown
              have HM := Lib.hid hm
              have HID := Lib.hid hid
              have HT := Lib.hid KT
              have HW := Lib.hid hw
              have HI := Lib.hid hi
              clear KT hO hy hw hi hid hm
              go_wp2_with fail
              refine HT.out.mono ?_
              rintro e w2 ⟨rfl, hO2, hu2⟩
              have hB2 := hu2.below hB hB.size hS
              have hown2 := own_upd hown hu2 (fun b hb e => by have := (own_lt hown hb).2; have := hS2 b e; omega)
              have hM2 : M ≤ w2.heap.size := Nat.le_trans hM1 hu2.size
              clear hown hB hu2
              go_wp2_with fail
              refine (of_all _ _ _ _ _ hO2 _).mono ?_
              rintro e w3 ⟨rfl, hb3⟩
              have hO3 := hO2.below hb3
              have hB3 := hB2.trans (hb3.mono hB2.size)
              have hown3 := own_upd hown2 (Upd.of_below (S := fun _ => False) hb3) (fun _ _ => id)
              have hM3 : M ≤ w3.heap.size := Nat.le_trans hM2 hb3.size
              have KO := out_all _ _ _ _ _ hO3 y
              rw [HI.out] at KO
              have HO := Lib.hid KO
              clear hO2 hB2 hown2 hb3 KO
              rw [HW.out]
              go_wp2_with (first
                | (go_at_call 9; refine HO.out.mono ?_; rintro e w4 ⟨rfl, rfl⟩)
                | (at_builtin; go_loud (refine wpList_append_near rfl (.tmp 73) (.tmp 75) 26 rfl M 3 (.int .i64 0) 1 8 Try.underlying26 info_i64 rfl (by decide) (.slice va m vc) m (ints .i64 (ids m)) rfl (own_upd hown3 ((Upd.refl (fun _ => False) _).alloc _) (fun _ _ => id)) ⟨w3.heap.size, 0, none⟩ 1 1 [.int .i64 y] rfl rfl (cell_newAt _ _ _ _ (by simp)) (one_cell rfl) (by unfold maxLen; omega) (by omega) (by simp; omega) ?_; intro v5 w5 hown5 hg5 near5; rw [ints_snoc, HID.out] at hown5; have u5 := Upd.grown hg5)))
              have u6 : Upd (fun b => M ≤ b) w3 w5 := ((Upd.refl _ _).alloc _).trans (u5.mono fun i _ e => by simp [Value.ownBlock] at e; exact (own_lt hown3 (by simpa [Value.ownBlock] using e)).2)
              go_roundw
              case rel =>
                refine ⟨j + 1, by omega, by go_num, ?_, ?_, ?_, Nat.le_trans hM3 u6.size⟩
                · rw [show t * k + (j + 1) = m + 1 by have := HM.out; omega]
                  exact hO3.keep u6 (fun b hb e => by have := hS2 b hb; omega)
                · rw [show t * k + (j + 1) = m + 1 by have := HM.out; omega]
                  exact hown5
                · exact u6.below hB3 hB3.size (fun i h => by omega)
              case measure => simp [intOf]; omega
            · obtain rfl : j = k := by omega
              have KT := take_all _ _ _ _ _ hO (t : Int)
              rw [take_full n j t htn] at KT
              have HT := Lib.hid KT
              clear KT hO
              obtain ⟨va, vc, rfl⟩ := owned_len1 hown
              go_wp2_with fail
              refine HT.out.mono ?_
              rintro e w2 ⟨rfl, hO2, hu2⟩
              have hB2 := hu2.below hB hB.size hS
              have hown2 := own_upd hown hu2 (fun b hb e => by have := (own_lt hown hb).2; have := hS2 b e; omega)
              have hM2 : M ≤ w2.heap.size := Nat.le_trans hM1 hu2.size
              clear hown hB hu2
              go_wp2_with fail
              go_roundw
              case rel => exact ⟨t + 1, by omega, by go_num, by rw [Nat.add_mul, Nat.one_mul]; exact hO2, by rw [Nat.add_mul, Nat.one_mul]; exact hown2, hB2, hM2⟩
              case measure => simp [intOf]; omega
        · obtain rfl : t = n := by omega
          rw [outA_all] at hO
          have hsrc := Src1.of_owned (xs := ids (t * k)) (by rw [ids_len]; exact hown)
          obtain ⟨va, vc, hv, _, hcell⟩ := hsrc
          subst hv
          rw [ids_len] at hcell
          have hnks : t * k < 100 := by omega
          have HC := Lib.hid hcell
          have HL := Lib.hid (ids_len (t * k))
          have HG := Lib.hid (ids_get (t * k))
          have HBN := Lib.hid (fun m => back_next (t * k) m)
          have HIB := Lib.hid (fun m => isOut_back (t * k) m)
          obtain ⟨L, hL⟩ : ∃ L, ids (t * k) = L := ⟨_, rfl⟩
          rw [hL] at HC HG HL hown ⊢
          have HO0 := hO
          have HB0 := hB
          clear hcell
          go_wp2_with fail
          go_loopw [89] (fun i wr => ∃ m : Nat, m ≤ t * k ∧ i = .int .i64 m ∧ O wr p S (newRows t k (t * k)) (outB (t * k) m) ∧ wr.ownsRow M 3 1 (.slice va L.length vc) (t * k) (ints .i64 L) ∧ Below w.heap.size w wr ∧ M ≤ wr.heap.size) (fun i _ => t * k - (intOf i).toNat)
          case atStart => exact ⟨0, Nat.zero_le _, rfl, hO, hown, hB, hM1⟩
          case round =>
            obtain ⟨m, hm, rfl, hO, hown, hB, hM1⟩ := hrel
            clear HO0 HB0
            by_cases hmt : m < t * k
            · obtain ⟨g, cap, hv, _, hrow⟩ := owned hown (by omega)
              simp only [Value.slice.injEq] at hv
              obtain ⟨rfl, -, -⟩ := hv
              have c1 := hrow.cell (ints_get (k := .i64) (i := m) (xs := L) (by rw [HL.out]; exact hmt))
              rw [HG.out m hmt] at c1
              have KB := back_all _ _ _ _ _ hO ((m + 1 : Nat) : Int)
              rw [HBN.out m hmt] at KB
              have hi := HIB.out m hmt
              have hlt' : (m : Int) < (L.length : Int) := by rw [HL.out]; omega
              obtain ⟨y, hy⟩ : ∃ y : Int, ((m + 1 : Nat) : Int) = y := ⟨_, rfl⟩
              rw [hy] at c1 KB hi
              have HK := Lib.hid KB
              have HI := Lib.hid hi
              clear KB hO hi hy hrow
              go_wp2_with fail
              refine HK.out.mono ?_
              rintro e w2 ⟨rfl, hO2, hu2⟩
              have hB2 := hu2.below hB hB.size hS
              have hown2 := own_upd hown hu2 (fun b hb e => by have := (own_lt hown hb).2; have := hS2 b e; omega)
              have hM2 : M ≤ w2.heap.size := Nat.le_trans hM1 hu2.size
              have KO := out_all _ _ _ _ _ hO2 y
              rw [HI.out] at KO
              have HO := Lib.hid KO
              clear hown hB hu2 KO
              go_wp2_with (go_at_call 9; refine HO.out.mono ?_; rintro e w4 ⟨rfl, rfl⟩)
              go_roundw
              case rel => exact ⟨m + 1, by omega, by go_num, hO2, hown2, hB2, hM2⟩
              case measure => simp [intOf]; omega
            · obtain rfl : m = t * k := by omega
              have hlt' : ¬ ((t * k : Nat) : Int) < (L.length : Int) := by rw [HL.out]; omega
              rw [outB_all] at hO
              go_wp2_with fail
              go_roundw
              case rel => exact ⟨r + 1, by omega, by go_num, hO, hB, hM1⟩
              case measure => simp [intOf]; omega
    · have KL := len_all _ _ _ _ _ hO
      unfold outA at KL
      rw [outs_len, show ((1 + n * k : Nat) : Int) - 1 = (n : Int) * (k : Int) by rw [← Int.natCast_mul]; omega] at KL
      have HL := Lib.hid KL
      have z1 : (0 : Int) ≤ (n : Int) * (k : Int) := by rw [← Int.natCast_mul]; omega
      have z2 : (n : Int) * (k : Int) ≤ 100 := by rw [← Int.natCast_mul]; omega
      have hrq' : ¬ (r : Int) < (q : Int) := by omega
      clear KL hO
      go_wp2_with (first
        | (go_at_call 11; refine HL.out.mono ?_; rintro e w4 ⟨rfl, rfl⟩)
        | (go_at_call 12; refine (awake _).mono ?_; rintro e w5 ⟨rfl, u5⟩))
      all_goals
        go_ret
        exact ⟨rfl, hB.trans ((by assumption : Below _ _ _).mono hB.size)⟩
theorem walk (a b c : Int) (w : World) (ha : (Lit.int .u8 a).wf = true) (hb : (Lit.int .u8 b).wf = true) (hc : (Lit.int .u8 c).wf = true) :
    Calls Try.prog 3 #[.int .u8 a, .int .u8 b, .int .u8 c] w fun e w' => e = .returned (.bool true) ∧ Below w.heap.size w w' := by
  have h1 := bounds_u8 ha; have h2 := bounds_u8 hb; have h3 := bounds_u8 hc
  exact main a b c h1.1 (by omega) h2.1 (by omega) h3.1 (by omega) w
end Go.Proofs.Ytnmldhagdgghoaa.WalkPoolTurns
