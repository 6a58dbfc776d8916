/- The law CacheOnce, walked: who reads a word again and again misses at most once, and once more for each write by another one. -/
import Derived.Test.YtcpbojjimfcbhaaTouch
import Derived.Deep.QuietTactic
import Derived.BigQuiet
namespace Go.Proofs.Ytcpbojjimfcbhaa.WalkCacheOnce
open Go Go.RowKit Go.Proofs.Ytcpbojjimfcbhaa.Heap Go.Proofs.Ytcpbojjimfcbhaa.Cache Go.Proofs.Ytcpbojjimfcbhaa.Law03 Go.Proofs.Ytcpbojjimfcbhaa.Open

theorem mod7 (t : Int) : ∃ (r : Int) (u : Nat), t.tmod 7 = r ∧ -6 ≤ r ∧ r ≤ 6 ∧ (r + 7) % 7 = (u : Int) ∧ u < 7 := by
  have h1 := Int.tmod_lt_of_pos t (show (0 : Int) < 7 by decide)
  have h2 : -7 < t.tmod 7 := by
    have := Int.tmod_lt_of_pos (-t) (show (0 : Int) < 7 by decide)
    rw [Int.neg_tmod] at this; omega
  exact ⟨t.tmod 7, ((t.tmod 7 + 7) % 7).toNat, rfl, by omega, by omega, by omega, by omega⟩

/-- What is known of thread 0: how many misses it had, by how many writes there were, and whether it has a copy. -/
def Few (m : Nat) (ms : List Int) (W : Nat) : Prop := ms.length = 8 ∧ m < 2 ^ 8 ∧ 0 ≤ ms.getD 0 0 ∧ ms.getD 0 0 ≤ (if m.testBit 0 then 1 else 0) + W

theorem few_other {m : Nat} {ms : List Int} {W u : Nat} (h : Few m ms W) (hu : u < 7) (wr : Bool) :
    ∃ m' ms', copies [m] (u + 1) 0 wr = [m'] ∧ misses [m] ms (u + 1) 0 wr = ms' ∧ Few m' ms' (W + if wr then 1 else 0) := by
  obtain ⟨h1, h2, h3, h4⟩ := h
  refine ⟨if wr then 2 ^ (u + 1) else m ||| 2 ^ (u + 1), _, rfl, rfl, ?_, ?_, ?_, ?_⟩
  · unfold misses; split <;> simp [h1]
  · have : 2 ^ (u + 1) < 2 ^ 8 := Nat.pow_lt_pow_right (by decide) (by omega)
    split
    · exact this
    · exact Nat.or_lt_two_pow h2 this
  · unfold misses; split
    · simpa [List.getD] using h3
    · exact h3
  · have e : (misses [m] ms (u + 1) 0 wr).getD 0 0 = ms.getD 0 0 := by
      unfold misses; split
      · simp [List.getD]
      · rfl
    rw [e]
    have t0 : (2 ^ (u + 1)).testBit 0 = false := Nat.testBit_two_pow_of_ne (by omega)
    cases wr
    · simp only [Bool.false_eq_true, if_false, Nat.testBit_or, t0, Bool.or_false, Nat.add_zero]; exact h4
    · simp only [if_true, t0, Bool.false_eq_true, if_false]; split at h4 <;> omega

theorem few_own {m : Nat} {ms : List Int} {W : Nat} (h : Few m ms W) (hW : W ≤ 60) :
    ∃ m' ms', copies [m] 0 0 false = [m'] ∧ misses [m] ms 0 0 false = ms' ∧ Few m' ms' W := by
  obtain ⟨h1, h2, h3, h4⟩ := h
  have t0 : (m ||| 2 ^ 0).testBit 0 = true := by rw [Nat.testBit_or, Nat.testBit_two_pow_self, Bool.or_true]
  refine ⟨m ||| 2 ^ 0, _, rfl, rfl, ?_, Nat.or_lt_two_pow h2 (by decide), ?_, ?_⟩
  · unfold misses; split <;> simp [h1]
  · unfold misses miss
    cases hb : m.testBit 0
    · simp [hb, List.getD, h1]
      rw [getD_lt ms 0 0 (by omega)] at h3 h4; unfold wrap64; split at h4 <;> omega
    · simp [hb]; exact h3
  · rw [t0]
    unfold misses miss
    cases hb : m.testBit 0
    · rw [hb] at h4
      simp [hb, List.getD, h1]
      rw [getD_lt ms 0 0 (by omega)] at h3 h4; simp at h4; unfold wrap64; omega
    · rw [hb] at h4; simp [hb] at h4 ⊢; exact h4

set_option maxHeartbeats 1000000 in
set_option maxRecDepth 100000 in
theorem walk (v : Value) (xs : List T) (w : World) (hT : Touches w v xs) :
    Calls Try.prog 5 #[v] w fun e w' => e = .returned (.bool true) ∧ Below w.heap.size w w' := by
  obtain ⟨⟨ao, cap, rfl, hlc, hlm, hcells⟩, hwf⟩ := hT
  by_cases hlong : 60 < xs.length
  · go_enter Try.func5, Try.ntmps5
    go_wp2_with fail
    refine (new_yes _ 8 1 (by decide) (by decide) (by decide)).mono ?_
    rintro e w1 ⟨c, cb, mb, rfl, hc, b1, b2, b3, u1⟩
    have hn := u1.none
    have hl60 : (60 : Int) < (xs.length : Int) := by omega
    go_wp2_with fail
    refine (awake _).mono ?_
    rintro e w4 ⟨rfl, u4⟩
    go_wp2
    go_ret
    exact ⟨rfl, hn.trans (u4.mono hn.size)⟩
  · go_enter Try.func5, Try.ntmps5
    go_wp2_with fail
    refine (new_yes _ 8 1 (by decide) (by decide) (by decide)).mono ?_
    rintro e w1 ⟨c, cb, mb, rfl, hc, b1, b2, b3, u1⟩
    have hn := u1.none
    have hl60 : (xs.length : Int) ≤ 60 := by omega
    go_wp2_with fail
    go_loopw [5, 35] (fun n i wr => ∃ k W : Nat, k ≤ xs.length ∧ W ≤ k ∧ i = .int .i64 k ∧ n = .int .i64 W ∧ ∃ (m : Nat) (ms : List Int), At wr c cb mb [m] ms ∧ Few m ms W ∧ Below w.heap.size w wr)
      (fun _ i _ => xs.length - (intOf i).toNat)
    case atStart => exact ⟨0, 0, Nat.zero_le _, Nat.zero_le _, rfl, rfl, 0, List.replicate 8 0, hc, ⟨by simp, by decide, by simp [List.getD], by simp [List.getD]⟩, hn⟩
    case round =>
      obtain ⟨k, W, hk, hWk, rfl, rfl, m, ms, hat, hfew, hbel⟩ := hrel
      have hW60 : W ≤ 60 := by omega
      by_cases hlt : k < xs.length
      · obtain ⟨b, off, rfl, hbw, hcell⟩ := hcells (by omega)
        obtain ⟨x, hx⟩ : ∃ x, xs.getD k default = x := ⟨_, rfl⟩
        have c0 := (hbel.cell (p := ⟨b, off + k * 3, none⟩) hbw).trans (hcell k hlt 0 (.int .i64 x.t) (by decide) (by rw [hx]; rfl))
        have c1 := (hbel.cell (p := ⟨b, off + k * 3 + 1, none⟩) hbw).trans (hcell k hlt 1 (.int .i64 x.a) (by decide) (by rw [hx]; rfl))
        have c2 := (hbel.cell (p := ⟨b, off + k * 3 + 2, none⟩) hbw).trans (hcell k hlt 2 (.bool x.wr) (by decide) (by rw [hx]; rfl))
        clear hx hcell
        obtain ⟨r, u, e1, r1, r2, e2, hu⟩ := mod7 x.t
        have q2 := hat.copies.lt
        have q3 := hat.misses.lt
        obtain ⟨xt, xa, xw⟩ := x
        have hm8 := hfew.2.1
        have hl8 := hfew.1
        obtain ⟨m1, ms1, em1, ems1, few1⟩ := few_other hfew hu xw
        obtain ⟨W1, hW1⟩ : ∃ W1, W + (if xw then 1 else 0) = W1 := ⟨_, rfl⟩
        rw [hW1] at few1
        have hW1k : W1 ≤ k + 1 := by rw [← hW1]; split <;> omega
        obtain ⟨m2, ms2, em2, ems2, few2⟩ := few_own few1 (by omega)
        obtain ⟨m3, ms3, em3, ems3, few3⟩ := few_own few2 (by omega)
        have EM := Lib.hid em1; have EMS := Lib.hid ems1; have HW := Lib.hid hW1
        have f1 := Lib.hid few1; have f2 := Lib.hid few2; have f3 := Lib.hid few3
        have EM2 := Lib.hid em2; have EMS2 := Lib.hid ems2; have EM3 := Lib.hid em3; have EMS3 := Lib.hid ems3
        clear em1 ems1 hW1 em2 ems2 em3 ems3 few1 few2 few3 hfew
        go_wp2_with fail
        refine (touch_to _ c cb mb [m] ms (hat.alloc _) _ _ xw (u + 1) 0 (by push_cast; rfl) rfl (by omega) (by simp) (by omega) (by show m < 2 ^ 64; omega) _ [m1] ms1 rfl EM.out EMS.out).mono ?_
        rintro e w2 ⟨rfl, hat2, u2⟩
        have ho : Row w2 wr.heap.size [.int .i64 xt, .int .i64 xa, .bool xw] := (Row.new' rfl).upd u2 (by omega)
        have c4 := ho.cell (i := 2) rfl
        have hB2 : Below w.heap.size w w2 := u2.below (hbel.alloc hbel.size _) (by have := hbel.size; simp; omega) (by rintro i (rfl | rfl) <;> assumption)
        have Z2 : w.heap.size ≤ w2.heap.size := Nat.le_trans hbel.size (Nat.le_trans (by simp) u2.size)
        cases xw
        all_goals
          go_wp2_with fail
          refine (touch_to _ c cb mb [m1] ms1 hat2 _ _ false 0 0 rfl rfl (by have := f1.out.1; omega) (by simp) (by omega) (by have := f1.out.2.1; show m1 < 2 ^ 64; omega) _ [m2] ms2 rfl EM2.out EMS2.out).mono ?_
          rintro e w3 ⟨rfl, hat3, u3⟩
          go_wp2_with fail
          refine (touch_to _ c cb mb [m2] ms2 hat3 _ _ false 0 0 rfl rfl (by have := f2.out.1; omega) (by simp) (by omega) (by have := f2.out.2.1; show m2 < 2 ^ 64; omega) _ [m3] ms3 rfl EM3.out EMS3.out).mono ?_
          rintro e w4 ⟨rfl, hat4, u4⟩
          go_wp2
          go_roundw
          case rel => exact ⟨k + 1, W1, by omega, by omega, by go_num, by have := HW.out; simp at this; subst this; go_num, m3, ms3, hat4, f3.out, (u4.below (u3.below hB2 Z2 (by rintro i (rfl | rfl) <;> assumption)) (Nat.le_trans Z2 u3.size) (by rintro i (rfl | rfl) <;> assumption))⟩
          case measure => simp [intOf]; omega
      · have L8 := hfew.1
        have F3 := hfew.2.2.1
        have F4 : ms.getD 0 0 ≤ 1 + W := by have := hfew.2.2.2; split at this <;> omega
        clear hfew hcells
        go_wp2_with fail
        refine (misses_in _ _ _ _ _ _ hat 0 (by omega)).mono ?_
        rintro e w2 ⟨rfl, rfl⟩
        obtain ⟨z, hz⟩ : ∃ z, ms.getD 0 0 = z := ⟨_, rfl⟩
        rw [hz] at F3 F4 ⊢
        clear hz
        go_wp2_with fail
        refine (awake _).mono ?_
        rintro e w4 ⟨rfl, u4⟩
        go_wp2
        go_ret
        exact ⟨rfl, hbel.trans (u4.mono hbel.size)⟩
end Go.Proofs.Ytcpbojjimfcbhaa.WalkCacheOnce
