/- The law CacheWrites, walked: who wrote last has a valid copy, and of all others just those who read behind it. -/
import Derived.Test.YtcpbojjimfcbhaaTouch
import Derived.Deep.QuietTactic
import Derived.BigQuiet
namespace Go.Proofs.Ytcpbojjimfcbhaa.WalkCacheWrites
open Go Go.RowKit Go.Proofs.Ytcpbojjimfcbhaa.Heap Go.Proofs.Ytcpbojjimfcbhaa.Cache Go.Proofs.Ytcpbojjimfcbhaa.Law03 Go.Proofs.Ytcpbojjimfcbhaa.Open

/-- The law's own truths: of each thread whether its bit is set. -/
def bits8 (m : Nat) : List Value := (List.range 8).map fun u => .bool (m.testBit u)
theorem bits8_get (m u : Nat) (h : u < 8) : (bits8 m)[u]? = some (.bool (m.testBit u)) := by simp [bits8, h]
theorem mod8 (t : Int) : ∃ (r : Int) (u : Nat), t.tmod 8 = r ∧ -7 ≤ r ∧ r ≤ 7 ∧ (r + 8) % 8 = (u : Int) ∧ u < 8 := by
  have h1 := Int.tmod_lt_of_pos t (show (0 : Int) < 8 by decide)
  have h2 : -8 < t.tmod 8 := by
    have := Int.tmod_lt_of_pos (-t) (show (0 : Int) < 8 by decide)
    rw [Int.neg_tmod] at this; omega
  exact ⟨t.tmod 8, ((t.tmod 8 + 8) % 8).toNat, rfl, by omega, by omega, by omega, by omega⟩

theorem bits8_or (m u : Nat) : (bits8 m).set u (.bool true) = bits8 (m ||| 2 ^ u) := by
  apply List.ext_getElem?
  intro j
  by_cases hj : j < 8
  · rw [bits8_get _ j hj]
    by_cases e : u = j
    · subst e
      rw [List.getElem?_set_self (by simp [bits8]; omega), Nat.testBit_or, Nat.testBit_two_pow_self, Bool.or_true]
    · rw [List.getElem?_set_ne e, bits8_get _ j hj, Nat.testBit_or, Nat.testBit_two_pow_of_ne e, Bool.or_false]
  · rw [List.getElem?_eq_none (by simp [bits8]; omega), List.getElem?_eq_none (by simp [bits8]; omega)]
theorem bits8_zero : [Value.bool false, .bool false, .bool false, .bool false, .bool false, .bool false, .bool false, .bool false] = bits8 0 := by simp [bits8, List.range_succ]
theorem has_bit (m j : Nat) (hj : j < 8) (k : Nat) (hk : k = 8) : has [m] k j 0 = m.testBit j := by
  subst hk; unfold has inB; simp; omega

set_option maxHeartbeats 600000 in
set_option maxRecDepth 100000 in
theorem walk (v : Value) (xs : List T) (w : World) (hT : Touches w v xs) :
    Calls Try.prog 4 #[v] w fun e w' => e = .returned (.bool true) ∧ Below w.heap.size w w' := by
  obtain ⟨⟨ao, cap, rfl, hlc, hlm, hcells⟩, hwf⟩ := hT
  by_cases hlong : 60 < xs.length
  · go_enter Try.func4, Try.ntmps4
    go_wp2_with fail
    refine (new_yes _ 8 1 (by decide) (by decide) (by decide)).mono ?_
    rintro e w1 ⟨c, cb, mb, rfl, hc, b1, b2, b3, u1⟩
    have hn := u1.none
    have hl60 : (60 : Int) < (xs.length : Int) := by omega
    go_wp2_with fail
    refine (awake _).mono ?_
    rintro e w4 ⟨rfl, u4⟩
    go_wp2
    go_ret
    exact ⟨rfl, hn.trans (u4.mono hn.size)⟩
  · go_enter Try.func4, Try.ntmps4
    go_wp2_with fail
    refine (new_yes _ 8 1 (by decide) (by decide) (by decide)).mono ?_
    rintro e w1 ⟨c, cb, mb, rfl, hc, b1, b2, b3, u1⟩
    have hn := u1.none
    go_wp2
    have hcl := hc.top.lt
    have hcbl := hc.copies.lt
    have hmbl := hc.misses.lt
    obtain ⟨hb, hhb⟩ : ∃ hb, w1.heap.size = hb := ⟨_, rfl⟩
    rw [hhb] at hcl hcbl hmbl ⊢
    have n1 : hb ≠ c := by omega
    have n2 : hb ≠ cb := by omega
    have n3 : hb ≠ mb := by omega
    go_loopw [36] (fun i wr => ∃ k : Nat, k ≤ xs.length ∧ i = .int .i64 k ∧ ∃ (m : Nat) (ms : List Int), At wr c cb mb [m] ms ∧ ms.length = 8 ∧ m < 2 ^ 8 ∧ Row wr hb (bits8 m) ∧ Below w.heap.size w wr ∧ hb < wr.heap.size)
      (fun i _ => xs.length - (intOf i).toNat)
    case atStart =>
      refine ⟨0, Nat.zero_le _, rfl, 0, List.replicate 8 0, hc.upd ((Upd.refl (fun _ => False) w1).alloc _) id id id, by simp, by decide, ?_, (hn.alloc hn.size _), by simp; omega⟩
      exact Row.new' hhb.symm
    case round =>
      obtain ⟨k, hk, rfl, m, ms, hat, hms, hm, hrow, hbel, hsz⟩ := hrel
      by_cases hlt : k < xs.length
      · obtain ⟨b, off, rfl, hbw, hcell⟩ := hcells (by omega)
        obtain ⟨x, hx⟩ : ∃ x, xs.getD k default = x := ⟨_, rfl⟩
        have c0 := (hbel.cell (p := ⟨b, off + k * 3, none⟩) hbw).trans (hcell k hlt 0 (.int .i64 x.t) (by decide) (by rw [hx]; rfl))
        have c1 := (hbel.cell (p := ⟨b, off + k * 3 + 1, none⟩) hbw).trans (hcell k hlt 1 (.int .i64 x.a) (by decide) (by rw [hx]; rfl))
        have c2 := (hbel.cell (p := ⟨b, off + k * 3 + 2, none⟩) hbw).trans (hcell k hlt 2 (.bool x.wr) (by decide) (by rw [hx]; rfl))
        clear hx hcell
        obtain ⟨r, u, e1, r1, r2, e2, hu⟩ := mod8 x.t
        have q1 := hat.top.lt
        have q2 := hat.copies.lt
        have q3 := hat.misses.lt
        go_wp2_with fail
        refine (touch_in _ c cb mb [m] ms (hat.alloc _) u 0 x.wr (by omega) (by simp) (by omega) (by show m < 2 ^ 64; omega)).mono ?_
        rintro e w2 ⟨rfl, hat2, u2⟩
        have ho : Row w2 wr.heap.size [.int .i64 x.t, .int .i64 x.a, .bool x.wr] := (Row.new' rfl).upd u2 (by omega)
        have c4 := ho.cell (i := 2) rfl
        have hrow2 : Row w2 hb (bits8 m) := (hrow.alloc _).upd u2 (by omega)
        have zf := hrow2.frozen
        obtain ⟨xt, xa, xw⟩ := x
        have L2 : (misses [m] ms u 0 xw).length = 8 := by unfold misses; split <;> simp [hms]
        have hcop : copies [m] u 0 xw = [if xw then 2 ^ u else m ||| 2 ^ u] := by unfold copies; rfl
        rw [hcop] at hat2
        obtain ⟨ms2, hms2⟩ : ∃ y, misses [m] ms u 0 xw = y := ⟨_, rfl⟩
        rw [hms2] at hat2 L2
        have hu8 : 2 ^ u < 2 ^ 8 := Nat.pow_lt_pow_right (by decide) hu
        have hB2 : Below w.heap.size w w2 := u2.below (hbel.alloc (by omega) _) (by simp; omega) (by rintro i (rfl | rfl) <;> assumption)
        have hZ2 : hb < w2.heap.size := Nat.lt_of_lt_of_le (by simp; omega) u2.size
        have q4 := hn.size
        have hbn : ¬ (hb = c ∨ hb = cb ∨ hb = mb) := by omega
        clear hms2 hcop c0 c1 c2 hcells hc ho u1 hn hwf hrow hat
        cases xw
        · obtain ⟨m2, hm2⟩ : ∃ y, m ||| 2 ^ u = y := ⟨_, rfl⟩
          have M2 : m2 < 2 ^ 8 := by rw [← hm2]; exact Nat.or_lt_two_pow hm hu8
          simp only [Bool.false_eq_true, if_false] at hat2
          rw [hm2] at hat2
          have A3 := hat2.upd ((Upd.refl (fun i => i = hb) w2).setCell (p := ⟨hb, u, none⟩) (.inl rfl) (.bool true)) (by omega) (by omega) (by omega)
          have R3 := hrow2.set u (.bool true)
          rw [bits8_or m u, hm2] at R3
          have B3 : Below w.heap.size w (w2.setCell ⟨hb, u, none⟩ (.bool true)) := hB2.setCell (by show w.heap.size ≤ hb; omega) _
          have Z3 : hb < (w2.setCell ⟨hb, u, none⟩ (.bool true)).heap.size := by simpa using hZ2
          obtain ⟨y, z⟩ : ∃ y, w2.cell? ⟨hb, u, none⟩ = some y := ⟨_, hrow2.cell (bits8_get m u hu)⟩
          clear hrow2 hm2
          go_wp2_with fail
          go_loopw [55] (fun i wi => ∃ j : Nat, j ≤ 8 ∧ i = .int .i64 j ∧ At wi c cb mb [m2] ms2 ∧ Row wi hb (bits8 m2) ∧ Below w.heap.size w wi ∧ hb < wi.heap.size) (fun i _ => 8 - (intOf i).toNat)
          case atStart => exact ⟨0, by decide, rfl, A3, R3, B3, Z3⟩
          case round =>
            obtain ⟨j, hj, rfl, A4, R4, B4, Z4⟩ := hrel
            by_cases hj8 : j < 8
            · have cj := R4.cell (bits8_get m2 j hj8)
              have hbit := Lib.hid (has_bit m2 j hj8 ms2.length L2)
              obtain ⟨tb, htb⟩ : ∃ tb, m2.testBit j = tb := ⟨_, rfl⟩
              rw [htb] at cj hbit
              clear htb
              go_wp2_with fail
              go_quiet ((go_at_call 10; exact Calls.quiet_of_same ((has_all _ _ _ _ _ _ (A4.drewN _) _ _ (by omega) (by intro y hy; simp at hy; subst hy; omega)).mono fun e w' ⟨he, hw⟩ => ⟨by rw [he, hbit.out], hw.symm⟩)))
              go_wp2
              go_roundw
              case rel => exact ⟨j + 1, by omega, by go_num, A4.drewN _, R4, below_drewN B4 _, Z4⟩
              case measure => simp [intOf]; omega
            · go_wp2
              go_roundw
              case rel => exact ⟨k + 1, by omega, by go_num, m2, ms2, A4, L2, M2, R4, B4, Z4⟩
              case measure => simp [intOf]; omega
        · obtain ⟨m2, hm2⟩ : ∃ y, 2 ^ u = y := ⟨_, rfl⟩
          have M2 : m2 < 2 ^ 8 := by rw [← hm2]; exact hu8
          simp only [if_true] at hat2
          rw [hm2] at hat2
          go_wp2_with (refine wpList_store_whole rfl 30 _ _ rfl hb #[.bool false, .bool false, .bool false, .bool false, .bool false, .bool false, .bool false, .bool false] rfl rfl hrow2 (by kernel_rfl) (by simp [bits8]) (by kernel_rfl) ?_; intro w3 R5 U5; have R6 : Row w3 hb (bits8 0) := (by rw [← bits8_zero]; exact R5); have hat3 := hat2.upd U5 (by omega) (by omega) (by omega); have hB3 : Below w.heap.size w w3 := U5.below hB2 (by omega) (by omega); have hZ3 : hb < w3.heap.size := Nat.lt_of_lt_of_le hZ2 U5.size; have A3 := hat3.upd ((Upd.refl (fun i => i = hb) w3).setCell (p := ⟨hb, u, none⟩) (.inl rfl) (.bool true)) (by omega) (by omega) (by omega); have R3 := R6.set u (.bool true); rw [bits8_or 0 u, Nat.zero_or, hm2] at R3; have B3 : Below w.heap.size w (w3.setCell ⟨hb, u, none⟩ (.bool true)) := hB3.setCell (show w.heap.size ≤ hb by omega) _; have Z3 : hb < (w3.setCell ⟨hb, u, none⟩ (.bool true)).heap.size := (by simpa using hZ3); obtain ⟨y, z⟩ : ∃ y, w3.cell? ⟨hb, u, none⟩ = some y := ⟨_, R6.cell (bits8_get 0 u hu)⟩; have zf3 := R6.frozen; clear R5 hm2 hrow2 zf R6 c4 hat2 U5)
          go_loopw [55] (fun i wi => ∃ j : Nat, j ≤ 8 ∧ i = .int .i64 j ∧ At wi c cb mb [m2] ms2 ∧ Row wi hb (bits8 m2) ∧ Below w.heap.size w wi ∧ hb < wi.heap.size) (fun i _ => 8 - (intOf i).toNat)
          case atStart => exact ⟨0, by decide, rfl, A3, R3, B3, Z3⟩
          case round =>
            obtain ⟨j, hj, rfl, A4, R4, B4, Z4⟩ := hrel
            by_cases hj8 : j < 8
            · have cj := R4.cell (bits8_get m2 j hj8)
              have hbit := Lib.hid (has_bit m2 j hj8 ms2.length L2)
              obtain ⟨tb, htb⟩ : ∃ tb, m2.testBit j = tb := ⟨_, rfl⟩
              rw [htb] at cj hbit
              clear htb
              go_wp2_with fail
              go_quiet ((go_at_call 10; exact Calls.quiet_of_same ((has_all _ _ _ _ _ _ (A4.drewN _) _ _ (by omega) (by intro y hy; simp at hy; subst hy; omega)).mono fun e w' ⟨he, hw⟩ => ⟨by rw [he, hbit.out], hw.symm⟩)))
              go_wp2
              go_roundw
              case rel => exact ⟨j + 1, by omega, by go_num, A4.drewN _, R4, below_drewN B4 _, Z4⟩
              case measure => simp [intOf]; omega
            · go_wp2
              go_roundw
              case rel => exact ⟨k + 1, by omega, by go_num, m2, ms2, A4, L2, M2, R4, B4, Z4⟩
              case measure => simp [intOf]; omega
      · have hl60 : ¬ (60 : Int) < (xs.length : Int) := by omega
        clear hcells
        go_wp2_with fail
        refine (awake _).mono ?_
        rintro e w4 ⟨rfl, u4⟩
        go_wp2
        go_ret
        exact ⟨rfl, hbel.trans (u4.mono hbel.size)⟩
end Go.Proofs.Ytcpbojjimfcbhaa.WalkCacheWrites
