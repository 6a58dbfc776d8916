/- The document's seats (reference of layer 9): what End and New do. -/
import Derived.Test.YtgoaaijdlhhkkaaRef09
namespace Go.Proofs.Ytgoaaijdlhhkkaa.Ref09
open Go Go.RowKit Go.Proofs.Ytgoaaijdlhhkkaa.Heap Go.Proofs.Ytgoaaijdlhhkkaa.Seat

/-- No row of the table that stands ahead of place j fits. -/
def NoHit (st ev : Int) (j : Nat) : Prop := (0 < j → ¬ (st = 1 ∧ ev = 1)) ∧ (1 < j → ¬ (st = 1 ∧ ev = 2)) ∧ (2 < j → ¬ (st = 1 ∧ ev = 6)) ∧ (3 < j → ¬ (st = 3 ∧ ev = 3)) ∧ (4 < j → ¬ (st = 4 ∧ ev = 4)) ∧ (5 < j → ¬ (st = 4 ∧ ev = 5))
theorem NoHit.start (st ev : Int) : NoHit st ev 0 := by unfold NoHit; omega
theorem NoHit.last {st ev : Int} (h : NoHit st ev 6) : next st ev = -1 := by
  obtain ⟨h0, h1, h2, h3, h4, h5⟩ := h
  have g0 := h0 (by decide); have g1 := h1 (by decide); have g2 := h2 (by decide); have g3 := h3 (by decide); have g4 := h4 (by decide); have g5 := h5 (by decide)
  unfold next
  (repeat' split) <;> omega
/-- An int that tells a truth. -/
def b2i (b : Bool) : Int := if b then 1 else 0

theorem rend_no (w : World) (x sb db : Nat) (l : List (Int × Int)) (td pd : Bool) (h : RAt w x sb db l td pd) (t ev : Int) (hn : inB t l.length = false) :
    Calls Try.prog 98 #[.pointer (some ⟨x, 0, none⟩), .int .i64 t, .int .i64 ev] w fun e w' => e = .returned (.int .i64 0) ∧ w = w' := by
  obtain ⟨cs, cd, ht⟩ := h.top
  have h0 := ht.cell (i := 0) rfl
  clear h ht
  by_cases c1 : t < 0
  · go_enter Try.func98, Try.ntmps98
    go_wp2
    all_goals (go_ret; exact ⟨rfl, rfl⟩)
  have c2 : (l.length : Int) ≤ t := by simp [inB] at hn; omega
  go_enter Try.func98, Try.ntmps98
  go_wp2
  all_goals (go_ret; exact ⟨rfl, rfl⟩)

set_option maxHeartbeats 4000000 in
theorem rend_in (w : World) (x sb db : Nat) (l : List (Int × Int)) (td pd : Bool) (h : RAt w x sb db l td pd) (k : Nat) (hk : k < l.length) (ev : Int) :
    Calls Try.prog 98 #[.pointer (some ⟨x, 0, none⟩), .int .i64 k, .int .i64 ev] w fun e w' =>
      e = .returned (.int .i64 (b2i (fin l k ev).1)) ∧ RAt w' x sb db (fin l k ev).2 td pd ∧ Upd (fun i => i = sb ∨ i = db) w w' := by
  have i0 : ∀ W, (Instr.index 162 (.agg #[.int .i64 1, .int .i64 1, .int .i64 2, .int .i64 1, .int .i64 2, .int .i64 0, .int .i64 1, .int .i64 6, .int .i64 0, .int .i64 3, .int .i64 3, .int .i64 0, .int .i64 4, .int .i64 4, .int .i64 2, .int .i64 4, .int .i64 5, .int .i64 2]) (.int .i64 0)).run Try.prog W = .ok (.agg #[.int .i64 1, .int .i64 1, .int .i64 2]) W := fun _ => by kernel_rfl
  have i1 : ∀ W, (Instr.index 162 (.agg #[.int .i64 1, .int .i64 1, .int .i64 2, .int .i64 1, .int .i64 2, .int .i64 0, .int .i64 1, .int .i64 6, .int .i64 0, .int .i64 3, .int .i64 3, .int .i64 0, .int .i64 4, .int .i64 4, .int .i64 2, .int .i64 4, .int .i64 5, .int .i64 2]) (.int .i64 1)).run Try.prog W = .ok (.agg #[.int .i64 1, .int .i64 2, .int .i64 0]) W := fun _ => by kernel_rfl
  have i2 : ∀ W, (Instr.index 162 (.agg #[.int .i64 1, .int .i64 1, .int .i64 2, .int .i64 1, .int .i64 2, .int .i64 0, .int .i64 1, .int .i64 6, .int .i64 0, .int .i64 3, .int .i64 3, .int .i64 0, .int .i64 4, .int .i64 4, .int .i64 2, .int .i64 4, .int .i64 5, .int .i64 2]) (.int .i64 2)).run Try.prog W = .ok (.agg #[.int .i64 1, .int .i64 6, .int .i64 0]) W := fun _ => by kernel_rfl
  have i3 : ∀ W, (Instr.index 162 (.agg #[.int .i64 1, .int .i64 1, .int .i64 2, .int .i64 1, .int .i64 2, .int .i64 0, .int .i64 1, .int .i64 6, .int .i64 0, .int .i64 3, .int .i64 3, .int .i64 0, .int .i64 4, .int .i64 4, .int .i64 2, .int .i64 4, .int .i64 5, .int .i64 2]) (.int .i64 3)).run Try.prog W = .ok (.agg #[.int .i64 3, .int .i64 3, .int .i64 0]) W := fun _ => by kernel_rfl
  have i4 : ∀ W, (Instr.index 162 (.agg #[.int .i64 1, .int .i64 1, .int .i64 2, .int .i64 1, .int .i64 2, .int .i64 0, .int .i64 1, .int .i64 6, .int .i64 0, .int .i64 3, .int .i64 3, .int .i64 0, .int .i64 4, .int .i64 4, .int .i64 2, .int .i64 4, .int .i64 5, .int .i64 2]) (.int .i64 4)).run Try.prog W = .ok (.agg #[.int .i64 4, .int .i64 4, .int .i64 2]) W := fun _ => by kernel_rfl
  have i5 : ∀ W, (Instr.index 162 (.agg #[.int .i64 1, .int .i64 1, .int .i64 2, .int .i64 1, .int .i64 2, .int .i64 0, .int .i64 1, .int .i64 6, .int .i64 0, .int .i64 3, .int .i64 3, .int .i64 0, .int .i64 4, .int .i64 4, .int .i64 2, .int .i64 4, .int .i64 5, .int .i64 2]) (.int .i64 5)).run Try.prog W = .ok (.agg #[.int .i64 4, .int .i64 5, .int .i64 2]) W := fun _ => by kernel_rfl
  obtain ⟨cs, cd, ht⟩ := h.top
  have h0 := ht.cell (i := 0) rfl
  have hk' : (k : Int) < l.length := by omega
  obtain ⟨st, hst⟩ : ∃ a, (l.getD k (0, -1)).1 = a := ⟨_, rfl⟩
  obtain ⟨dl, hdl⟩ : ∃ a, (l.getD k (0, -1)).2 = a := ⟨_, rfl⟩
  have ES := Lib.hid (show state l k = st by unfold state; rw [inB_mk hk, if_pos rfl, Int.toNat_natCast]; exact hst)
  have n1 := h.ne1
  have n2 := h.ne2
  have n3 := h.ne3
  go_enter Try.func98, Try.ntmps98
  go_wp2
  clear h0 ht
  go_loopw [27] (fun i wr => ∃ j : Nat, j ≤ 6 ∧ i = .int .i64 j ∧ NoHit st ev j ∧ RAt wr x sb db l td pd ∧ Upd (fun i => i = sb ∨ i = db) w wr) (fun i _ => 6 - (intOf i).toNat)
  case atStart => exact ⟨0, by decide, rfl, NoHit.start _ _, h, Upd.refl _ _⟩
  case round =>
    obtain ⟨j, hj, rfl, hno, hat, hup⟩ := hrel
    obtain ⟨cs', cd', ht⟩ := hat.top
    have h0 := ht.cell (i := 0) rfl
    have h1 := ht.cell (i := 1) rfl
    have h3 := hat.st.cell (sts_get hk)
    have h4 := hat.dl.cell (dls_get hk)
    rw [hst] at h3
    rw [hdl] at h4
    have f3 := hat.st.frozen k
    have f4 := hat.dl.frozen k
    have p1 : x < wr.heap.size := ht.lt
    have p2 : sb < wr.heap.size := hat.st.lt
    have p3 : db < wr.heap.size := hat.dl.lt
    have hup2 := hup
    clear ht hst hdl h hup
    have hjc : j = 0 ∨ j = 1 ∨ j = 2 ∨ j = 3 ∨ j = 4 ∨ j = 5 ∨ j = 6 := by omega
    rcases hjc with rfl | rfl | rfl | rfl | rfl | rfl | rfl
    · clear i1 i2 i3 i4 i5
      by_cases c1 : st = 1
      · subst c1
        by_cases c2 : ev = 1
        · subst c2
          have E := Lib.hid (show fin l k 1 = (true, l.set k (2, -1)) by unfold fin; rw [ES.out]; rfl)
          clear hno
          go_wp2
          go_quiet (fail)
          go_wp2
          go_region
          all_goals
            go_wp2
            go_ret
            rw [E.out]
            exact ⟨rfl, ((hat.alloc _).drewN _).setBoth k hk 2 (-1), (((hup2.alloc _).drewN _).setCell (p := ⟨sb, k, none⟩) (.inl (.inl rfl)) _).setCell (p := ⟨db, k, none⟩) (.inl (.inr rfl)) _⟩
        · have c3 : (ev == 1) = false := by simpa using c2
          have N2 : NoHit 1 ev 1 := by unfold NoHit at hno ⊢; omega
          clear hno
          go_wp2
          go_quiet (fail)
          go_wp2
          go_roundw
          case rel => exact ⟨1, by decide, rfl, N2, (hat.alloc _).drewN _, ((hup2.alloc _).drewN _)⟩
          case measure => simp [intOf]
      · have c3 : (st == 1) = false := by simpa using c1
        have N2 : NoHit st ev 1 := by unfold NoHit at hno ⊢; omega
        clear hno
        go_wp2
        go_quiet (fail)
        go_wp2
        go_roundw
        case rel => exact ⟨1, by decide, rfl, N2, (hat.alloc _).drewN _, ((hup2.alloc _).drewN _)⟩
        case measure => simp [intOf]
    · clear i0 i2 i3 i4 i5
      by_cases c1 : st = 1
      · subst c1
        by_cases c2 : ev = 2
        · subst c2
          have E := Lib.hid (show fin l k 2 = (true, l.set k (0, -1)) by unfold fin; rw [ES.out]; rfl)
          clear hno
          go_wp2
          go_quiet (fail)
          go_wp2
          go_region
          all_goals
            go_wp2
            go_ret
            rw [E.out]
            exact ⟨rfl, ((hat.alloc _).drewN _).setBoth k hk 0 (-1), (((hup2.alloc _).drewN _).setCell (p := ⟨sb, k, none⟩) (.inl (.inl rfl)) _).setCell (p := ⟨db, k, none⟩) (.inl (.inr rfl)) _⟩
        · have c3 : (ev == 2) = false := by simpa using c2
          have N2 : NoHit 1 ev 2 := by unfold NoHit at hno ⊢; omega
          clear hno
          go_wp2
          go_quiet (fail)
          go_wp2
          go_roundw
          case rel => exact ⟨2, by decide, rfl, N2, (hat.alloc _).drewN _, ((hup2.alloc _).drewN _)⟩
          case measure => simp [intOf]
      · have c3 : (st == 1) = false := by simpa using c1
        have N2 : NoHit st ev 2 := by unfold NoHit at hno ⊢; omega
        clear hno
        go_wp2
        go_quiet (fail)
        go_wp2
        go_roundw
        case rel => exact ⟨2, by decide, rfl, N2, (hat.alloc _).drewN _, ((hup2.alloc _).drewN _)⟩
        case measure => simp [intOf]
    · clear i0 i1 i3 i4 i5
      by_cases c1 : st = 1
      · subst c1
        by_cases c2 : ev = 6
        · subst c2
          have E := Lib.hid (show fin l k 6 = (true, l.set k (0, -1)) by unfold fin; rw [ES.out]; rfl)
          clear hno
          go_wp2
          go_quiet (fail)
          go_wp2
          go_region
          all_goals
            go_wp2
            go_ret
            rw [E.out]
            exact ⟨rfl, ((hat.alloc _).drewN _).setBoth k hk 0 (-1), (((hup2.alloc _).drewN _).setCell (p := ⟨sb, k, none⟩) (.inl (.inl rfl)) _).setCell (p := ⟨db, k, none⟩) (.inl (.inr rfl)) _⟩
        · have c3 : (ev == 6) = false := by simpa using c2
          have N2 : NoHit 1 ev 3 := by unfold NoHit at hno ⊢; omega
          clear hno
          go_wp2
          go_quiet (fail)
          go_wp2
          go_roundw
          case rel => exact ⟨3, by decide, rfl, N2, (hat.alloc _).drewN _, ((hup2.alloc _).drewN _)⟩
          case measure => simp [intOf]
      · have c3 : (st == 1) = false := by simpa using c1
        have N2 : NoHit st ev 3 := by unfold NoHit at hno ⊢; omega
        clear hno
        go_wp2
        go_quiet (fail)
        go_wp2
        go_roundw
        case rel => exact ⟨3, by decide, rfl, N2, (hat.alloc _).drewN _, ((hup2.alloc _).drewN _)⟩
        case measure => simp [intOf]
    · clear i0 i1 i2 i4 i5
      by_cases c1 : st = 3
      · subst c1
        by_cases c2 : ev = 3
        · subst c2
          have E := Lib.hid (show fin l k 3 = (true, l.set k (0, -1)) by unfold fin; rw [ES.out]; rfl)
          clear hno
          go_wp2
          go_quiet (fail)
          go_wp2
          go_region
          all_goals
            go_wp2
            go_ret
            rw [E.out]
            exact ⟨rfl, ((hat.alloc _).drewN _).setBoth k hk 0 (-1), (((hup2.alloc _).drewN _).setCell (p := ⟨sb, k, none⟩) (.inl (.inl rfl)) _).setCell (p := ⟨db, k, none⟩) (.inl (.inr rfl)) _⟩
        · have c3 : (ev == 3) = false := by simpa using c2
          have N2 : NoHit 3 ev 4 := by unfold NoHit at hno ⊢; omega
          clear hno
          go_wp2
          go_quiet (fail)
          go_wp2
          go_roundw
          case rel => exact ⟨4, by decide, rfl, N2, (hat.alloc _).drewN _, ((hup2.alloc _).drewN _)⟩
          case measure => simp [intOf]
      · have c3 : (st == 3) = false := by simpa using c1
        have N2 : NoHit st ev 4 := by unfold NoHit at hno ⊢; omega
        clear hno
        go_wp2
        go_quiet (fail)
        go_wp2
        go_roundw
        case rel => exact ⟨4, by decide, rfl, N2, (hat.alloc _).drewN _, ((hup2.alloc _).drewN _)⟩
        case measure => simp [intOf]
    · clear i0 i1 i2 i3 i5
      by_cases c1 : st = 4
      · subst c1
        by_cases c2 : ev = 4
        · subst c2
          have E := Lib.hid (show fin l k 4 = (true, l.set k (2, -1)) by unfold fin; rw [ES.out]; rfl)
          clear hno
          go_wp2
          go_quiet (fail)
          go_wp2
          go_region
          all_goals
            go_wp2
            go_ret
            rw [E.out]
            exact ⟨rfl, ((hat.alloc _).drewN _).setBoth k hk 2 (-1), (((hup2.alloc _).drewN _).setCell (p := ⟨sb, k, none⟩) (.inl (.inl rfl)) _).setCell (p := ⟨db, k, none⟩) (.inl (.inr rfl)) _⟩
        · have c3 : (ev == 4) = false := by simpa using c2
          have N2 : NoHit 4 ev 5 := by unfold NoHit at hno ⊢; omega
          clear hno
          go_wp2
          go_quiet (fail)
          go_wp2
          go_roundw
          case rel => exact ⟨5, by decide, rfl, N2, (hat.alloc _).drewN _, ((hup2.alloc _).drewN _)⟩
          case measure => simp [intOf]
      · have c3 : (st == 4) = false := by simpa using c1
        have N2 : NoHit st ev 5 := by unfold NoHit at hno ⊢; omega
        clear hno
        go_wp2
        go_quiet (fail)
        go_wp2
        go_roundw
        case rel => exact ⟨5, by decide, rfl, N2, (hat.alloc _).drewN _, ((hup2.alloc _).drewN _)⟩
        case measure => simp [intOf]
    · clear i0 i1 i2 i3 i4
      by_cases c1 : st = 4
      · subst c1
        by_cases c2 : ev = 5
        · subst c2
          have E := Lib.hid (show fin l k 5 = (true, l.set k (2, -1)) by unfold fin; rw [ES.out]; rfl)
          clear hno
          go_wp2
          go_quiet (fail)
          go_wp2
          go_region
          all_goals
            go_wp2
            go_ret
            rw [E.out]
            exact ⟨rfl, ((hat.alloc _).drewN _).setBoth k hk 2 (-1), (((hup2.alloc _).drewN _).setCell (p := ⟨sb, k, none⟩) (.inl (.inl rfl)) _).setCell (p := ⟨db, k, none⟩) (.inl (.inr rfl)) _⟩
        · have c3 : (ev == 5) = false := by simpa using c2
          have N2 : NoHit 4 ev 6 := by unfold NoHit at hno ⊢; omega
          clear hno
          go_wp2
          go_quiet (fail)
          go_wp2
          go_roundw
          case rel => exact ⟨6, by decide, rfl, N2, (hat.alloc _).drewN _, ((hup2.alloc _).drewN _)⟩
          case measure => simp [intOf]
      · have c3 : (st == 4) = false := by simpa using c1
        have N2 : NoHit st ev 6 := by unfold NoHit at hno ⊢; omega
        clear hno
        go_wp2
        go_quiet (fail)
        go_wp2
        go_roundw
        case rel => exact ⟨6, by decide, rfl, N2, (hat.alloc _).drewN _, ((hup2.alloc _).drewN _)⟩
        case measure => simp [intOf]
    · have E := Lib.hid (show fin l k ev = (false, l) by unfold fin; rw [ES.out, hno.last]; rfl)
      clear hno
      go_wp2
      go_ret
      rw [E.out]
      exact ⟨rfl, hat, hup2⟩
theorem rend_all (w : World) (x sb db : Nat) (l : List (Int × Int)) (td pd : Bool) (h : RAt w x sb db l td pd) (t ev : Int) :
    Calls Try.prog 98 #[.pointer (some ⟨x, 0, none⟩), .int .i64 t, .int .i64 ev] w fun e w' =>
      e = .returned (.int .i64 (b2i (fin l t ev).1)) ∧ RAt w' x sb db (fin l t ev).2 td pd ∧ Upd (fun i => i = sb ∨ i = db) w w' := by
  cases hn : inB t l.length with
  | false =>
    have e : fin l t ev = (false, l) := by unfold fin state; rw [hn]; simp [next_zero]
    rw [e]
    exact (rend_no w x sb db l td pd h t ev hn).mono fun e w' ⟨he, hw⟩ => ⟨he, hw ▸ h, hw ▸ Upd.refl _ _⟩
  | true => obtain ⟨k, rfl, hk⟩ := inB_nat hn; exact rend_in w x sb db l td pd h k hk ev
end Go.Proofs.Ytgoaaijdlhhkkaa.Ref09
