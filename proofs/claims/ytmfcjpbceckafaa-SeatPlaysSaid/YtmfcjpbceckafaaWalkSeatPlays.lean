/- The law SeatPlays, walked: whatever is called of seats, each answer, each state and each deadline are what the document says. -/
import Derived.Test.YtmfcjpbceckafaaOps09
import Derived.Test.YtmfcjpbceckafaaRef09b
import Derived.Test.YtmfcjpbceckafaaRef09c
import Derived.Deep.RegionHeld3
namespace Go.Proofs.Ytmfcjpbceckafaa.WalkSeatPlays
open Go Go.RowKit Go.Proofs.Ytmfcjpbceckafaa.Heap Go.Proofs.Ytmfcjpbceckafaa.Seat Go.Proofs.Ytmfcjpbceckafaa.Ref09 Go.Proofs.Ytmfcjpbceckafaa.Law09 Go.Proofs.Ytmfcjpbceckafaa.Open

set_option maxHeartbeats 1000000 in
set_option maxRecDepth 100000 in
theorem many (n : Int) (td pd : Bool) (ao : Option Addr) (len cap : Nat) (w : World) (h : 12 < n ∨ 60 < len) :
    Calls Try.prog 5 #[.agg #[.int .i64 n, .bool td, .bool pd, .slice ao len cap]] w fun e w' => e = .returned (.bool true) ∧ Below w.heap.size w w' := by
  by_cases c : 12 < n
  · clear h
    go_enter Try.func5, Try.ntmps5
    go_wp2
    go_quiet (fail)
    go_wp2_with (go_at_call 7; refine (awake _).mono ?_; rintro e w1 ⟨rfl, u1⟩)
    go_ret
    exact ⟨rfl, (below_drewN ((Below.refl _ _).alloc (Nat.le_refl _) _) _).trans ((by assumption : Below _ _ _).mono (by simp [World.drewN]))⟩
  · have c2 : (60 : Int) < (len : Int) := by omega
    have c3 : ¬ 12 < n := c
    clear h
    go_enter Try.func5, Try.ntmps5
    go_wp2
    go_quiet (fail)
    go_wp2_with (go_at_call 7; refine (awake _).mono ?_; rintro e w1 ⟨rfl, u1⟩)
    go_ret
    exact ⟨rfl, (below_drewN ((Below.refl _ _).alloc (Nat.le_refl _) _) _).trans ((by assumption : Below _ _ _).mono (by simp [World.drewN]))⟩
set_option maxHeartbeats 1000000 in
set_option maxRecDepth 100000 in
theorem few (n : Int) (td pd : Bool) (ao : Option Addr) (len cap : Nat) (w : World) (h : n < 1) (h2 : len ≤ 60) :
    Calls Try.prog 5 #[.agg #[.int .i64 n, .bool td, .bool pd, .slice ao len cap]] w fun e w' => e = .returned (.bool true) ∧ Below w.heap.size w w' := by
  have c2 : (len : Int) ≤ 60 := by omega
  go_enter Try.func5, Try.ntmps5
  go_wp2
  go_quiet (fail)
  go_wp2_with (first
    | (go_at_call 6; refine (new_no _ _ _ _ (.inl h)).mono ?_; rintro e w1 ⟨rfl, rfl⟩)
    | (go_at_call 7; refine (awake _).mono ?_; rintro e w1 ⟨rfl, u1⟩))
  all_goals
    go_ret
    exact ⟨rfl, (below_drewN ((Below.refl _ _).alloc (Nat.le_refl _) _) _).trans ((by assumption : Below _ _ _).mono (by simp [World.drewN]))⟩

theorem lock_len (l : List (Int × Int)) (td : Bool) (t d : Int) : (lock l td t d).2.length = l.length := by unfold lock; (repeat' split) <;> simp
theorem turn_len (l : List (Int × Int)) (t st : Int) : (turn l t st).2.length = l.length := by unfold turn; dsimp only; split <;> simp
theorem probe_len (l : List (Int × Int)) (pd : Bool) (t : Int) : (probe l pd t).2.length = l.length := by unfold probe; split; exact turn_len _ _ _; rfl
theorem fin_len (l : List (Int × Int)) (t ev : Int) : (fin l t ev).2.length = l.length := by unfold fin; split <;> simp

/-- Both seats, side by side. -/
structure Both (w : World) (M s lb x sb db : Nat) (l : List (Int × Int)) (td pd : Bool) (n : Nat) : Prop where
  a : At w s lb l td pd
  r : RAt w x sb db l td pd
  len : l.length = n
  s1 : s < M
  s2 : lb < M
  x1 : M ≤ x
  x2 : M ≤ sb
  x3 : M ≤ db

set_option maxHeartbeats 8000000 in
set_option maxRecDepth 100000 in
theorem main (n : Nat) (td pd : Bool) (v : Value) (xs : List (List Int)) (w : World) (h1 : 1 ≤ n) (h2 : n ≤ 12) (h3 : xs.length ≤ 60) (hx : I64s w v 3 xs) :
    Calls Try.prog 5 #[.agg #[.int .i64 n, .bool td, .bool pd, v]] w fun e w' => e = .returned (.bool true) ∧ Below w.heap.size w w' := by
  obtain ⟨⟨ao, cap, rfl, hlc, hlm, hcells⟩, hwf⟩ := hx
  have c2 : (xs.length : Int) ≤ 60 := by omega
  go_enter Try.func5, Try.ntmps5
  go_wp2
  go_quiet (fail)
  go_wp2_with fail
  refine (new_yes _ n td pd h1 (by omega)).mono ?_
  rintro e w1 ⟨s, lb, rfl, ha, b1, b2, u1⟩
  have B1 : Below w.heap.size w w1 := (below_drewN ((Below.refl _ _).alloc (Nat.le_refl _) _) _).trans (u1.mono (by simp [World.drewN]))
  have hlb : w.heap.size ≤ lb := Nat.le_trans (by simp [World.drewN]) b2
  have s1 := ha.top.lt
  have s2 := ha.row.lt
  have hl : ((List.replicate n ((0 : Int), (-1 : Int))).length : Int) = n := by simp
  go_wp2_with fail
  refine (len_all _ _ _ _ _ _ ha).mono ?_
  rintro e w2 ⟨rfl, rfl⟩
  rw [hl]
  go_wp2_with fail
  refine (rnew _ n td pd h1 (by omega)).mono ?_
  rintro e w3 ⟨x, sb, db, rfl, hr, x1, x2, x3, u3⟩
  have ha3 := ha.upd (Upd.of_below (S := fun _ => False) u3) id id
  have B3 : Below w.heap.size w w3 := B1.trans (u3.mono B1.size)
  have both : Both w3 w1.heap.size s lb x sb db (List.replicate n (0, -1)) td pd n := ⟨ha3, hr, by simp, s1, s2, x1, x2, x3⟩
  have hM := u3.size
  have hBM := B1.size
  obtain ⟨M, hMM⟩ : ∃ M, w1.heap.size = M := ⟨_, rfl⟩
  rw [hMM] at both hM hBM
  clear ha ha3 hr u1 u3 x1 x2 x3 s1 s2 hl hMM
  go_wp2_with fail
  go_loopw [67] (fun i wr => ∃ k : Nat, k ≤ xs.length ∧ i = .int .i64 k ∧ ∃ l, Both wr M s lb x sb db l td pd n ∧ Below w.heap.size w wr) (fun i _ => xs.length - (intOf i).toNat)
  case atStart => exact ⟨0, Nat.zero_le _, rfl, _, both, B3⟩
  case round =>
    obtain ⟨k, hk, rfl, l, both, hbel⟩ := hrel
    by_cases hlt : k < xs.length
    · obtain ⟨b, off, rfl, hbw, hcell⟩ := hcells (by omega)
      have hy := hwf (xs.getD k []) (by rw [getD_lt _ _ _ hlt]; exact List.getElem_mem hlt)
      obtain ⟨y, hyy⟩ : ∃ y, xs.getD k [] = y := ⟨_, rfl⟩
      rw [hyy] at hy
      obtain ⟨hy3, hyw⟩ := hy
      match y, hy3 with
      | [q, t, N], _ =>
        have c0 := (hbel.cell (p := ⟨b, off + k * 3, none⟩) hbw).trans (hcell k hlt 0 (.int .i64 q) (by decide) (by rw [hyy]; rfl))
        have c1 := (hbel.cell (p := ⟨b, off + k * 3 + 1, none⟩) hbw).trans (hcell k hlt 1 (.int .i64 t) (by decide) (by rw [hyy]; rfl))
        have c3 := (hbel.cell (p := ⟨b, off + k * 3 + 2, none⟩) hbw).trans (hcell k hlt 2 (.int .i64 N) (by decide) (by rw [hyy]; rfl))
        clear hyy hcell hyw hcells hwf
        have e1 := both.s1
        have e2 := both.s2
        have e3 := both.x1
        have e4 := both.x2
        have e5 := both.x3
        have e6 := both.r.top.choose_spec.choose_spec.lt
        have e7 := both.r.st.lt
        have e8 := both.r.dl.lt
        by_cases q1 : q = 1
        · subst q1
          have o0 : Row (wr.alloc (.cells #[.int .i64 1, .int .i64 t, .int .i64 N] 32)) wr.heap.size [.int .i64 1, .int .i64 t, .int .i64 N] := Row.new' rfl
          have k1 := o0.cell (i := 1) rfl
          have k2 := o0.cell (i := 2) rfl
          go_wp2_with fail
          go_region_held3 (fun w' => w'.cell? ⟨wr.heap.size, 1, none⟩ = some (.int .i64 t) ∧ w'.cell? ⟨wr.heap.size, 2, none⟩ = some (.int .i64 N)) ((first | exact ⟨k1, k2⟩ | exact ⟨k3, k4⟩ | exact ⟨k5, k6⟩))
            ((first
              | (go_at_call 16; refine (rlock_all _ x sb db l td pd ((both.r.alloc _).drew) t N).mono ?_; rintro e w4 ⟨rfl, r4, u4⟩; have o4 := o0.drew.upd u4 (by omega); have k3 := o4.cell (i := 1) rfl; have k4 := o4.cell (i := 2) rfl; have U4 := (((Upd.refl (fun i => i = sb ∨ i = db) wr).alloc (.cells #[.int .i64 1, .int .i64 t, .int .i64 N] 32)).drew).trans u4; have a4 := both.a.upd U4 (by omega) (by omega))
              | (go_at_call 11; refine (lock_all _ s lb l td pd a4 t N).mono ?_; rintro e w5 ⟨rfl, a5, u5⟩; have o5 := o4.upd u5 (by omega); have k5 := o5.cell (i := 1) rfl; have k6 := o5.cell (i := 2) rfl; have r5 := r4.upd u5 (by omega) (by omega) (by omega))))
          have both5 : Both w5 M s lb x sb db (lock l td t N).2 td pd n := ⟨a5, r5, by rw [lock_len, both.len], e1, e2, e3, e4, e5⟩
          have bel4 := U4.below hbel hbel.size (by rintro i (rfl | rfl) <;> omega)
          have bel5 := u5.below bel4 bel4.size (by rintro i rfl; omega)
          clear a5 r5 r4 a4
          have m1 : state ((lock l td t N).2) (-1) = 0 := by unfold state inB; simp
          have m2 : state ((lock l td t N).2) n = 0 := by unfold state inB; rw [both5.len]; simp
          have m3 : deadline ((lock l td t N).2) n = -1 := by unfold deadline inB; rw [both5.len]; simp
          have M1 := Lib.hid m1; have M2 := Lib.hid m2; have M3 := Lib.hid m3
          clear m1 m2 m3
          obtain ⟨l2, hl2⟩ : ∃ z, (lock l td t N).2 = z := ⟨_, rfl⟩
          have BB := both5
          rw [hl2] at BB M1 M2 M3
          clear hl2 both
          go_wp2_with fail
          refine (state_all _ _ _ _ _ _ BB.a _).mono ?_
          rintro e w7 ⟨rfl, rfl⟩
          rw [M1.out]
          go_wp2_with fail
          refine (state_all _ _ _ _ _ _ BB.a _).mono ?_
          rintro e w7 ⟨rfl, rfl⟩
          rw [M2.out]
          go_wp2_with fail
          refine (deadline_all _ _ _ _ _ _ BB.a _).mono ?_
          rintro e w7 ⟨rfl, rfl⟩
          rw [M3.out]
          go_wp2_with fail
          go_loopw [142] (fun i wi => ∃ j : Nat, j ≤ n ∧ i = .int .i64 j ∧ Both wi M s lb x sb db l2 td pd n ∧ Below w.heap.size w wi) (fun i _ => n - (intOf i).toNat)
          case atStart => exact ⟨0, Nat.zero_le _, rfl, BB, bel5⟩
          case round =>
            obtain ⟨j, hj, rfl, BJ, belj⟩ := hrel
            clear BB M1 M2 M3
            by_cases hjn : j < n
            · have hjl : j < l2.length := by rw [BJ.len]; exact hjn
              obtain ⟨cs, cd, ht⟩ := BJ.r.top
              have g0 := ht.cell (i := 0) rfl
              have g1 := ht.cell (i := 1) rfl
              rw [BJ.len] at g0 g1
              have g2 := BJ.r.st.cell (sts_get hjl)
              have g3 := BJ.r.dl.cell (dls_get hjl)
              have hS : state l2 j = (l2.getD j (0, -1)).1 := by unfold state; rw [inB_mk hjl, if_pos rfl, Int.toNat_natCast]
              have hD : deadline l2 j = (l2.getD j (0, -1)).2 := by unfold deadline; rw [inB_mk hjl, if_pos rfl, Int.toNat_natCast]
              obtain ⟨ga, hga⟩ : ∃ z, (l2.getD j (0, -1)).1 = z := ⟨_, rfl⟩
              obtain ⟨gd, hgd⟩ : ∃ z, (l2.getD j (0, -1)).2 = z := ⟨_, rfl⟩
              rw [hga] at g2 hS
              rw [hgd] at g3 hD
              have HS := Lib.hid hS; have HD := Lib.hid hD
              have hjn' : (j : Int) < (n : Int) := by omega
              clear hga hgd hS hD ht
              go_wp2_with fail
              go_quiet ((first
                | (go_at_call 9; exact Calls.quiet_of_same ((state_all _ _ _ _ _ _ (BJ.a.drewN _) _).mono fun e w' ⟨he, hw⟩ => ⟨by rw [he, HS.out], hw.symm⟩))
                | (go_at_call 10; exact Calls.quiet_of_same ((deadline_all _ _ _ _ _ _ (BJ.a.drewN _) _).mono fun e w' ⟨he, hw⟩ => ⟨by rw [he, HD.out], hw.symm⟩))))
              go_wp2
              go_roundw
              case rel => exact ⟨j + 1, by omega, by go_num, ⟨BJ.a.drewN _, BJ.r.drewN _, BJ.len, e1, e2, e3, e4, e5⟩, below_drewN belj _⟩
              case measure => simp [intOf]; omega
            · go_wp2
              go_roundw
              case rel => exact ⟨k + 1, by omega, by go_num, l2, BJ, belj⟩
              case measure => simp [intOf]; omega
        have p1 : (q == 1) = false := by simpa using q1
        by_cases q2 : q = 2
        · subst q2
          have o0 : Row (wr.alloc (.cells #[.int .i64 2, .int .i64 t, .int .i64 N] 32)) wr.heap.size [.int .i64 2, .int .i64 t, .int .i64 N] := Row.new' rfl
          have k1 := o0.cell (i := 1) rfl
          have k2 := o0.cell (i := 2) rfl
          go_wp2_with fail
          go_region_held3 (fun w' => w'.cell? ⟨wr.heap.size, 1, none⟩ = some (.int .i64 t) ∧ w'.cell? ⟨wr.heap.size, 2, none⟩ = some (.int .i64 N)) ((first | exact ⟨k1, k2⟩ | exact ⟨k3, k4⟩ | exact ⟨k5, k6⟩))
            ((first
              | (go_at_call 17; refine (rturn3 _ x sb db l td pd ((both.r.alloc _).drew) t).mono ?_; rintro e w4 ⟨rfl, r4, u4⟩; have o4 := o0.drew.upd u4 (by omega); have k3 := o4.cell (i := 1) rfl; have k4 := o4.cell (i := 2) rfl; have U4 := (((Upd.refl (fun i => i = sb ∨ i = db) wr).alloc (.cells #[.int .i64 2, .int .i64 t, .int .i64 N] 32)).drew).trans u4; have a4 := both.a.upd U4 (by omega) (by omega))
              | (go_at_call 12; refine (unlock_all _ s lb l td pd a4 t).mono ?_; rintro e w5 ⟨rfl, a5, u5⟩; have o5 := o4.upd u5 (by omega); have k5 := o5.cell (i := 1) rfl; have k6 := o5.cell (i := 2) rfl; have r5 := r4.upd u5 (by omega) (by omega) (by omega))))
          have both5 : Both w5 M s lb x sb db (turn l t 3).2 td pd n := ⟨a5, r5, by rw [turn_len, both.len], e1, e2, e3, e4, e5⟩
          have bel4 := U4.below hbel hbel.size (by rintro i (rfl | rfl) <;> omega)
          have bel5 := u5.below bel4 bel4.size (by rintro i rfl; omega)
          clear a5 r5 r4 a4
          have m1 : state ((turn l t 3).2) (-1) = 0 := by unfold state inB; simp
          have m2 : state ((turn l t 3).2) n = 0 := by unfold state inB; rw [both5.len]; simp
          have m3 : deadline ((turn l t 3).2) n = -1 := by unfold deadline inB; rw [both5.len]; simp
          have M1 := Lib.hid m1; have M2 := Lib.hid m2; have M3 := Lib.hid m3
          clear m1 m2 m3
          obtain ⟨l2, hl2⟩ : ∃ z, (turn l t 3).2 = z := ⟨_, rfl⟩
          have BB := both5
          rw [hl2] at BB M1 M2 M3
          clear hl2 both
          go_wp2_with fail
          refine (state_all _ _ _ _ _ _ BB.a _).mono ?_
          rintro e w7 ⟨rfl, rfl⟩
          rw [M1.out]
          go_wp2_with fail
          refine (state_all _ _ _ _ _ _ BB.a _).mono ?_
          rintro e w7 ⟨rfl, rfl⟩
          rw [M2.out]
          go_wp2_with fail
          refine (deadline_all _ _ _ _ _ _ BB.a _).mono ?_
          rintro e w7 ⟨rfl, rfl⟩
          rw [M3.out]
          go_wp2_with fail
          go_loopw [142] (fun i wi => ∃ j : Nat, j ≤ n ∧ i = .int .i64 j ∧ Both wi M s lb x sb db l2 td pd n ∧ Below w.heap.size w wi) (fun i _ => n - (intOf i).toNat)
          case atStart => exact ⟨0, Nat.zero_le _, rfl, BB, bel5⟩
          case round =>
            obtain ⟨j, hj, rfl, BJ, belj⟩ := hrel
            clear BB M1 M2 M3
            by_cases hjn : j < n
            · have hjl : j < l2.length := by rw [BJ.len]; exact hjn
              obtain ⟨cs, cd, ht⟩ := BJ.r.top
              have g0 := ht.cell (i := 0) rfl
              have g1 := ht.cell (i := 1) rfl
              rw [BJ.len] at g0 g1
              have g2 := BJ.r.st.cell (sts_get hjl)
              have g3 := BJ.r.dl.cell (dls_get hjl)
              have hS : state l2 j = (l2.getD j (0, -1)).1 := by unfold state; rw [inB_mk hjl, if_pos rfl, Int.toNat_natCast]
              have hD : deadline l2 j = (l2.getD j (0, -1)).2 := by unfold deadline; rw [inB_mk hjl, if_pos rfl, Int.toNat_natCast]
              obtain ⟨ga, hga⟩ : ∃ z, (l2.getD j (0, -1)).1 = z := ⟨_, rfl⟩
              obtain ⟨gd, hgd⟩ : ∃ z, (l2.getD j (0, -1)).2 = z := ⟨_, rfl⟩
              rw [hga] at g2 hS
              rw [hgd] at g3 hD
              have HS := Lib.hid hS; have HD := Lib.hid hD
              have hjn' : (j : Int) < (n : Int) := by omega
              clear hga hgd hS hD ht
              go_wp2_with fail
              go_quiet ((first
                | (go_at_call 9; exact Calls.quiet_of_same ((state_all _ _ _ _ _ _ (BJ.a.drewN _) _).mono fun e w' ⟨he, hw⟩ => ⟨by rw [he, HS.out], hw.symm⟩))
                | (go_at_call 10; exact Calls.quiet_of_same ((deadline_all _ _ _ _ _ _ (BJ.a.drewN _) _).mono fun e w' ⟨he, hw⟩ => ⟨by rw [he, HD.out], hw.symm⟩))))
              go_wp2
              go_roundw
              case rel => exact ⟨j + 1, by omega, by go_num, ⟨BJ.a.drewN _, BJ.r.drewN _, BJ.len, e1, e2, e3, e4, e5⟩, below_drewN belj _⟩
              case measure => simp [intOf]; omega
            · go_wp2
              go_roundw
              case rel => exact ⟨k + 1, by omega, by go_num, l2, BJ, belj⟩
              case measure => simp [intOf]; omega
        have p2 : (q == 2) = false := by simpa using q2
        by_cases q3 : q = 3
        · subst q3
          have o0 : Row (wr.alloc (.cells #[.int .i64 3, .int .i64 t, .int .i64 N] 32)) wr.heap.size [.int .i64 3, .int .i64 t, .int .i64 N] := Row.new' rfl
          have k1 := o0.cell (i := 1) rfl
          have k2 := o0.cell (i := 2) rfl
          go_wp2_with fail
          go_region_held3 (fun w' => w'.cell? ⟨wr.heap.size, 1, none⟩ = some (.int .i64 t) ∧ w'.cell? ⟨wr.heap.size, 2, none⟩ = some (.int .i64 N)) ((first | exact ⟨k1, k2⟩ | exact ⟨k3, k4⟩ | exact ⟨k5, k6⟩))
            ((first
              | (go_at_call 17; refine (rturn4 _ x sb db l td pd ((both.r.alloc _).drew) t).mono ?_; rintro e w4 ⟨rfl, r4, u4⟩; have o4 := o0.drew.upd u4 (by omega); have k3 := o4.cell (i := 1) rfl; have k4 := o4.cell (i := 2) rfl; have U4 := (((Upd.refl (fun i => i = sb ∨ i = db) wr).alloc (.cells #[.int .i64 3, .int .i64 t, .int .i64 N] 32)).drew).trans u4; have a4 := both.a.upd U4 (by omega) (by omega))
              | (go_at_call 13; refine (probe_all _ s lb l td pd a4 t).mono ?_; rintro e w5 ⟨rfl, a5, u5⟩; have o5 := o4.upd u5 (by omega); have k5 := o5.cell (i := 1) rfl; have k6 := o5.cell (i := 2) rfl; have r5 := r4.upd u5 (by omega) (by omega) (by omega))))
          have both5 : Both w5 M s lb x sb db (probe l pd t).2 td pd n := ⟨a5, r5, by rw [probe_len, both.len], e1, e2, e3, e4, e5⟩
          have bel4 := U4.below hbel hbel.size (by rintro i (rfl | rfl) <;> omega)
          have bel5 := u5.below bel4 bel4.size (by rintro i rfl; omega)
          clear a5 r5 r4 a4
          have m1 : state ((probe l pd t).2) (-1) = 0 := by unfold state inB; simp
          have m2 : state ((probe l pd t).2) n = 0 := by unfold state inB; rw [both5.len]; simp
          have m3 : deadline ((probe l pd t).2) n = -1 := by unfold deadline inB; rw [both5.len]; simp
          have M1 := Lib.hid m1; have M2 := Lib.hid m2; have M3 := Lib.hid m3
          clear m1 m2 m3
          obtain ⟨l2, hl2⟩ : ∃ z, (probe l pd t).2 = z := ⟨_, rfl⟩
          have BB := both5
          rw [hl2] at BB M1 M2 M3
          clear hl2 both
          go_wp2_with fail
          refine (state_all _ _ _ _ _ _ BB.a _).mono ?_
          rintro e w7 ⟨rfl, rfl⟩
          rw [M1.out]
          go_wp2_with fail
          refine (state_all _ _ _ _ _ _ BB.a _).mono ?_
          rintro e w7 ⟨rfl, rfl⟩
          rw [M2.out]
          go_wp2_with fail
          refine (deadline_all _ _ _ _ _ _ BB.a _).mono ?_
          rintro e w7 ⟨rfl, rfl⟩
          rw [M3.out]
          go_wp2_with fail
          go_loopw [142] (fun i wi => ∃ j : Nat, j ≤ n ∧ i = .int .i64 j ∧ Both wi M s lb x sb db l2 td pd n ∧ Below w.heap.size w wi) (fun i _ => n - (intOf i).toNat)
          case atStart => exact ⟨0, Nat.zero_le _, rfl, BB, bel5⟩
          case round =>
            obtain ⟨j, hj, rfl, BJ, belj⟩ := hrel
            clear BB M1 M2 M3
            by_cases hjn : j < n
            · have hjl : j < l2.length := by rw [BJ.len]; exact hjn
              obtain ⟨cs, cd, ht⟩ := BJ.r.top
              have g0 := ht.cell (i := 0) rfl
              have g1 := ht.cell (i := 1) rfl
              rw [BJ.len] at g0 g1
              have g2 := BJ.r.st.cell (sts_get hjl)
              have g3 := BJ.r.dl.cell (dls_get hjl)
              have hS : state l2 j = (l2.getD j (0, -1)).1 := by unfold state; rw [inB_mk hjl, if_pos rfl, Int.toNat_natCast]
              have hD : deadline l2 j = (l2.getD j (0, -1)).2 := by unfold deadline; rw [inB_mk hjl, if_pos rfl, Int.toNat_natCast]
              obtain ⟨ga, hga⟩ : ∃ z, (l2.getD j (0, -1)).1 = z := ⟨_, rfl⟩
              obtain ⟨gd, hgd⟩ : ∃ z, (l2.getD j (0, -1)).2 = z := ⟨_, rfl⟩
              rw [hga] at g2 hS
              rw [hgd] at g3 hD
              have HS := Lib.hid hS; have HD := Lib.hid hD
              have hjn' : (j : Int) < (n : Int) := by omega
              clear hga hgd hS hD ht
              go_wp2_with fail
              go_quiet ((first
                | (go_at_call 9; exact Calls.quiet_of_same ((state_all _ _ _ _ _ _ (BJ.a.drewN _) _).mono fun e w' ⟨he, hw⟩ => ⟨by rw [he, HS.out], hw.symm⟩))
                | (go_at_call 10; exact Calls.quiet_of_same ((deadline_all _ _ _ _ _ _ (BJ.a.drewN _) _).mono fun e w' ⟨he, hw⟩ => ⟨by rw [he, HD.out], hw.symm⟩))))
              go_wp2
              go_roundw
              case rel => exact ⟨j + 1, by omega, by go_num, ⟨BJ.a.drewN _, BJ.r.drewN _, BJ.len, e1, e2, e3, e4, e5⟩, below_drewN belj _⟩
              case measure => simp [intOf]; omega
            · go_wp2
              go_roundw
              case rel => exact ⟨k + 1, by omega, by go_num, l2, BJ, belj⟩
              case measure => simp [intOf]; omega
        have p3 : (q == 3) = false := by simpa using q3
        by_cases q4 : q = 4
        · subst q4
          have o0 : Row (wr.alloc (.cells #[.int .i64 4, .int .i64 t, .int .i64 N] 32)) wr.heap.size [.int .i64 4, .int .i64 t, .int .i64 N] := Row.new' rfl
          have k1 := o0.cell (i := 1) rfl
          have k2 := o0.cell (i := 2) rfl
          go_wp2_with fail
          refine (rend_all _ x sb db l td pd (both.r.alloc _) t N).mono ?_
          rintro e w4 ⟨rfl, r4, u4⟩
          have o4 := o0.upd u4 (by omega)
          have k3 := o4.cell (i := 1) rfl
          have k4 := o4.cell (i := 2) rfl
          have U4 := ((Upd.refl (fun i => i = sb ∨ i = db) wr).alloc (.cells #[.int .i64 4, .int .i64 t, .int .i64 N] 32)).trans u4
          have a4 := both.a.upd U4 (by omega) (by omega)
          go_wp2_with fail
          refine (end_all _ s lb l td pd a4 t N).mono ?_
          rintro e w5 ⟨rfl, a5, u5⟩
          have r5 := r4.upd u5 (by omega) (by omega) (by omega)
          have both5 : Both w5 M s lb x sb db (fin l t N).2 td pd n := ⟨a5, r5, by rw [fin_len, both.len], e1, e2, e3, e4, e5⟩
          have bel4 := U4.below hbel hbel.size (by rintro i (rfl | rfl) <;> omega)
          have bel5 := u5.below bel4 bel4.size (by rintro i rfl; omega)
          clear a5 r5 r4 a4
          cases hf : (fin l t N).1
          · simp only [b2i, Bool.false_eq_true, if_false]
            clear hf
            have m1 : state ((fin l t N).2) (-1) = 0 := by unfold state inB; simp
            have m2 : state ((fin l t N).2) n = 0 := by unfold state inB; rw [both5.len]; simp
            have m3 : deadline ((fin l t N).2) n = -1 := by unfold deadline inB; rw [both5.len]; simp
            have M1 := Lib.hid m1; have M2 := Lib.hid m2; have M3 := Lib.hid m3
            clear m1 m2 m3
            obtain ⟨l2, hl2⟩ : ∃ z, (fin l t N).2 = z := ⟨_, rfl⟩
            have BB := both5
            rw [hl2] at BB M1 M2 M3
            clear hl2 both
            go_wp2_with fail
            refine (state_all _ _ _ _ _ _ BB.a _).mono ?_
            rintro e w7 ⟨rfl, rfl⟩
            rw [M1.out]
            go_wp2_with fail
            refine (state_all _ _ _ _ _ _ BB.a _).mono ?_
            rintro e w7 ⟨rfl, rfl⟩
            rw [M2.out]
            go_wp2_with fail
            refine (deadline_all _ _ _ _ _ _ BB.a _).mono ?_
            rintro e w7 ⟨rfl, rfl⟩
            rw [M3.out]
            go_wp2_with fail
            go_loopw [142] (fun i wi => ∃ j : Nat, j ≤ n ∧ i = .int .i64 j ∧ Both wi M s lb x sb db l2 td pd n ∧ Below w.heap.size w wi) (fun i _ => n - (intOf i).toNat)
            case atStart => exact ⟨0, Nat.zero_le _, rfl, BB, bel5⟩
            case round =>
              obtain ⟨j, hj, rfl, BJ, belj⟩ := hrel
              clear BB M1 M2 M3
              by_cases hjn : j < n
              · have hjl : j < l2.length := by rw [BJ.len]; exact hjn
                obtain ⟨cs, cd, ht⟩ := BJ.r.top
                have g0 := ht.cell (i := 0) rfl
                have g1 := ht.cell (i := 1) rfl
                rw [BJ.len] at g0 g1
                have g2 := BJ.r.st.cell (sts_get hjl)
                have g3 := BJ.r.dl.cell (dls_get hjl)
                have hS : state l2 j = (l2.getD j (0, -1)).1 := by unfold state; rw [inB_mk hjl, if_pos rfl, Int.toNat_natCast]
                have hD : deadline l2 j = (l2.getD j (0, -1)).2 := by unfold deadline; rw [inB_mk hjl, if_pos rfl, Int.toNat_natCast]
                obtain ⟨ga, hga⟩ : ∃ z, (l2.getD j (0, -1)).1 = z := ⟨_, rfl⟩
                obtain ⟨gd, hgd⟩ : ∃ z, (l2.getD j (0, -1)).2 = z := ⟨_, rfl⟩
                rw [hga] at g2 hS
                rw [hgd] at g3 hD
                have HS := Lib.hid hS; have HD := Lib.hid hD
                have hjn' : (j : Int) < (n : Int) := by omega
                clear hga hgd hS hD ht
                go_wp2_with fail
                go_quiet ((first
                  | (go_at_call 9; exact Calls.quiet_of_same ((state_all _ _ _ _ _ _ (BJ.a.drewN _) _).mono fun e w' ⟨he, hw⟩ => ⟨by rw [he, HS.out], hw.symm⟩))
                  | (go_at_call 10; exact Calls.quiet_of_same ((deadline_all _ _ _ _ _ _ (BJ.a.drewN _) _).mono fun e w' ⟨he, hw⟩ => ⟨by rw [he, HD.out], hw.symm⟩))))
                go_wp2
                go_roundw
                case rel => exact ⟨j + 1, by omega, by go_num, ⟨BJ.a.drewN _, BJ.r.drewN _, BJ.len, e1, e2, e3, e4, e5⟩, below_drewN belj _⟩
                case measure => simp [intOf]; omega
              · go_wp2
                go_roundw
                case rel => exact ⟨k + 1, by omega, by go_num, l2, BJ, belj⟩
                case measure => simp [intOf]; omega
          · simp only [b2i, if_true]
            clear hf
            have m1 : state ((fin l t N).2) (-1) = 0 := by unfold state inB; simp
            have m2 : state ((fin l t N).2) n = 0 := by unfold state inB; rw [both5.len]; simp
            have m3 : deadline ((fin l t N).2) n = -1 := by unfold deadline inB; rw [both5.len]; simp
            have M1 := Lib.hid m1; have M2 := Lib.hid m2; have M3 := Lib.hid m3
            clear m1 m2 m3
            obtain ⟨l2, hl2⟩ : ∃ z, (fin l t N).2 = z := ⟨_, rfl⟩
            have BB := both5
            rw [hl2] at BB M1 M2 M3
            clear hl2 both
            go_wp2_with fail
            refine (state_all _ _ _ _ _ _ BB.a _).mono ?_
            rintro e w7 ⟨rfl, rfl⟩
            rw [M1.out]
            go_wp2_with fail
            refine (state_all _ _ _ _ _ _ BB.a _).mono ?_
            rintro e w7 ⟨rfl, rfl⟩
            rw [M2.out]
            go_wp2_with fail
            refine (deadline_all _ _ _ _ _ _ BB.a _).mono ?_
            rintro e w7 ⟨rfl, rfl⟩
            rw [M3.out]
            go_wp2_with fail
            go_loopw [142] (fun i wi => ∃ j : Nat, j ≤ n ∧ i = .int .i64 j ∧ Both wi M s lb x sb db l2 td pd n ∧ Below w.heap.size w wi) (fun i _ => n - (intOf i).toNat)
            case atStart => exact ⟨0, Nat.zero_le _, rfl, BB, bel5⟩
            case round =>
              obtain ⟨j, hj, rfl, BJ, belj⟩ := hrel
              clear BB M1 M2 M3
              by_cases hjn : j < n
              · have hjl : j < l2.length := by rw [BJ.len]; exact hjn
                obtain ⟨cs, cd, ht⟩ := BJ.r.top
                have g0 := ht.cell (i := 0) rfl
                have g1 := ht.cell (i := 1) rfl
                rw [BJ.len] at g0 g1
                have g2 := BJ.r.st.cell (sts_get hjl)
                have g3 := BJ.r.dl.cell (dls_get hjl)
                have hS : state l2 j = (l2.getD j (0, -1)).1 := by unfold state; rw [inB_mk hjl, if_pos rfl, Int.toNat_natCast]
                have hD : deadline l2 j = (l2.getD j (0, -1)).2 := by unfold deadline; rw [inB_mk hjl, if_pos rfl, Int.toNat_natCast]
                obtain ⟨ga, hga⟩ : ∃ z, (l2.getD j (0, -1)).1 = z := ⟨_, rfl⟩
                obtain ⟨gd, hgd⟩ : ∃ z, (l2.getD j (0, -1)).2 = z := ⟨_, rfl⟩
                rw [hga] at g2 hS
                rw [hgd] at g3 hD
                have HS := Lib.hid hS; have HD := Lib.hid hD
                have hjn' : (j : Int) < (n : Int) := by omega
                clear hga hgd hS hD ht
                go_wp2_with fail
                go_quiet ((first
                  | (go_at_call 9; exact Calls.quiet_of_same ((state_all _ _ _ _ _ _ (BJ.a.drewN _) _).mono fun e w' ⟨he, hw⟩ => ⟨by rw [he, HS.out], hw.symm⟩))
                  | (go_at_call 10; exact Calls.quiet_of_same ((deadline_all _ _ _ _ _ _ (BJ.a.drewN _) _).mono fun e w' ⟨he, hw⟩ => ⟨by rw [he, HD.out], hw.symm⟩))))
                go_wp2
                go_roundw
                case rel => exact ⟨j + 1, by omega, by go_num, ⟨BJ.a.drewN _, BJ.r.drewN _, BJ.len, e1, e2, e3, e4, e5⟩, below_drewN belj _⟩
                case measure => simp [intOf]; omega
              · go_wp2
                go_roundw
                case rel => exact ⟨k + 1, by omega, by go_num, l2, BJ, belj⟩
                case measure => simp [intOf]; omega
        have p4 : (q == 4) = false := by simpa using q4
        clear q1 q2 q3 q4
        have both5 : Both (wr.alloc (.cells #[.int .i64 q, .int .i64 t, .int .i64 N] 32)) M s lb x sb db l td pd n := ⟨both.a.alloc _, both.r.alloc _, both.len, e1, e2, e3, e4, e5⟩
        have bel5 := hbel.alloc hbel.size (.cells #[.int .i64 q, .int .i64 t, .int .i64 N] 32)
        have m1 : state (l) (-1) = 0 := by unfold state inB; simp
        have m2 : state (l) n = 0 := by unfold state inB; rw [both5.len]; simp
        have m3 : deadline (l) n = -1 := by unfold deadline inB; rw [both5.len]; simp
        have M1 := Lib.hid m1; have M2 := Lib.hid m2; have M3 := Lib.hid m3
        clear m1 m2 m3
        obtain ⟨l2, hl2⟩ : ∃ z, l = z := ⟨_, rfl⟩
        have BB := both5
        rw [hl2] at BB M1 M2 M3
        clear hl2 both
        go_wp2_with fail
        refine (state_all _ _ _ _ _ _ BB.a _).mono ?_
        rintro e w7 ⟨rfl, rfl⟩
        rw [M1.out]
        go_wp2_with fail
        refine (state_all _ _ _ _ _ _ BB.a _).mono ?_
        rintro e w7 ⟨rfl, rfl⟩
        rw [M2.out]
        go_wp2_with fail
        refine (deadline_all _ _ _ _ _ _ BB.a _).mono ?_
        rintro e w7 ⟨rfl, rfl⟩
        rw [M3.out]
        go_wp2_with fail
        go_loopw [142] (fun i wi => ∃ j : Nat, j ≤ n ∧ i = .int .i64 j ∧ Both wi M s lb x sb db l2 td pd n ∧ Below w.heap.size w wi) (fun i _ => n - (intOf i).toNat)
        case atStart => exact ⟨0, Nat.zero_le _, rfl, BB, bel5⟩
        case round =>
          obtain ⟨j, hj, rfl, BJ, belj⟩ := hrel
          clear BB M1 M2 M3
          by_cases hjn : j < n
          · have hjl : j < l2.length := by rw [BJ.len]; exact hjn
            obtain ⟨cs, cd, ht⟩ := BJ.r.top
            have g0 := ht.cell (i := 0) rfl
            have g1 := ht.cell (i := 1) rfl
            rw [BJ.len] at g0 g1
            have g2 := BJ.r.st.cell (sts_get hjl)
            have g3 := BJ.r.dl.cell (dls_get hjl)
            have hS : state l2 j = (l2.getD j (0, -1)).1 := by unfold state; rw [inB_mk hjl, if_pos rfl, Int.toNat_natCast]
            have hD : deadline l2 j = (l2.getD j (0, -1)).2 := by unfold deadline; rw [inB_mk hjl, if_pos rfl, Int.toNat_natCast]
            obtain ⟨ga, hga⟩ : ∃ z, (l2.getD j (0, -1)).1 = z := ⟨_, rfl⟩
            obtain ⟨gd, hgd⟩ : ∃ z, (l2.getD j (0, -1)).2 = z := ⟨_, rfl⟩
            rw [hga] at g2 hS
            rw [hgd] at g3 hD
            have HS := Lib.hid hS; have HD := Lib.hid hD
            have hjn' : (j : Int) < (n : Int) := by omega
            clear hga hgd hS hD ht
            go_wp2_with fail
            go_quiet ((first
              | (go_at_call 9; exact Calls.quiet_of_same ((state_all _ _ _ _ _ _ (BJ.a.drewN _) _).mono fun e w' ⟨he, hw⟩ => ⟨by rw [he, HS.out], hw.symm⟩))
              | (go_at_call 10; exact Calls.quiet_of_same ((deadline_all _ _ _ _ _ _ (BJ.a.drewN _) _).mono fun e w' ⟨he, hw⟩ => ⟨by rw [he, HD.out], hw.symm⟩))))
            go_wp2
            go_roundw
            case rel => exact ⟨j + 1, by omega, by go_num, ⟨BJ.a.drewN _, BJ.r.drewN _, BJ.len, e1, e2, e3, e4, e5⟩, below_drewN belj _⟩
            case measure => simp [intOf]; omega
          · go_wp2
            go_roundw
            case rel => exact ⟨k + 1, by omega, by go_num, l2, BJ, belj⟩
            case measure => simp [intOf]; omega
    · clear hcells hwf
      go_wp2_with fail
      refine (awake _).mono ?_
      rintro e w4 ⟨rfl, u4⟩
      go_wp2
      go_ret
      exact ⟨rfl, hbel.trans (u4.mono hbel.size)⟩
theorem walk (v : Value) (xs : List (List Int)) (w : World) (h : ∃ n td pd l, v = .agg #[.int .i64 n, .bool td, .bool pd, l] ∧ (Lit.int .i64 n).wf = true ∧ I64s w l 3 xs) :
    Calls Try.prog 5 #[v] w fun e w' => e = .returned (.bool true) ∧ Below w.heap.size w w' := by
  obtain ⟨n, td, pd, l, rfl, _, hx⟩ := h
  obtain ⟨ao, cap, rfl, _, _, _⟩ := id hx.1
  by_cases c : 12 < n ∨ 60 < xs.length
  · exact many n td pd ao xs.length cap w c
  · by_cases c2 : n < 1
    · exact few n td pd ao xs.length cap w c2 (by omega)
    · obtain ⟨m, rfl⟩ := Int.eq_ofNat_of_zero_le (show 0 ≤ n by omega)
      exact main m td pd _ xs w (by omega) (by omega) (by omega) hx
end Go.Proofs.Ytmfcjpbceckafaa.WalkSeatPlays
