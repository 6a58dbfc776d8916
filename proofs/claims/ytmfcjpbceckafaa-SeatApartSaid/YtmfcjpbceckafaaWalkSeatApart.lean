/- The law SeatApart, walked: what is called of one context changes nothing of any other. -/
import Derived.Test.YtmfcjpbceckafaaOps09
import Derived.Test.YtmfcjpbceckafaaArr
import Derived.Deep.QuietTactic
import Derived.Deep.CutRange
import Derived.Deep.CutBlock
namespace Go.Proofs.Ytmfcjpbceckafaa.WalkSeatApart
open Go Go.RowKit Go.Proofs.Ytmfcjpbceckafaa.Heap Go.Proofs.Ytmfcjpbceckafaa.Seat Go.Proofs.Ytmfcjpbceckafaa.Law09 Go.Proofs.Ytmfcjpbceckafaa.Open

/-- The first n of eight, then zeros. -/
def fillp (l : List (Int × Int)) (n : Nat) : List (Int × Int) := l.take n ++ List.replicate (8 - n) (0, 0)
theorem fillp_len (l : List (Int × Int)) (h : l.length = 8) (n : Nat) (hn : n ≤ 8) : (fillp l n).length = 8 := by simp [fillp]; omega
theorem fillp_get (l : List (Int × Int)) (h : l.length = 8) (k : Nat) (hk : k < 8) : (fillp l k).getD k (0, -1) = (0, 0) := by
  have e1 : k - (l.take k).length = 0 := by simp; omega
  have e2 : 8 - k = (8 - (k + 1)) + 1 := by omega
  unfold fillp
  rw [List.getD, List.getElem?_append_right (by simp; omega), e1, e2, List.replicate_succ]; rfl
theorem fillp_set (l : List (Int × Int)) (h : l.length = 8) (k : Nat) (hk : k < 8) : (fillp l k).set k ((l.getD k (0, -1)).1, (l.getD k (0, -1)).2) = fillp l (k + 1) := by
  have e1 : k - (l.take k).length = 0 := by simp; omega
  have e2 : 8 - k = (8 - (k + 1)) + 1 := by omega
  unfold fillp
  rw [List.set_append_right _ _ (by simp; omega), e1, e2, List.replicate_succ, List.set_cons_zero, List.take_succ_eq_append_getElem (by omega), List.append_assoc, getD_lt _ _ _ (by omega)]; rfl
/-- All but one are as they were. -/
def Other (t : Int) (l l' : List (Int × Int)) : Prop := l'.length = l.length ∧ ∀ k : Nat, (k : Int) ≠ t → l'.getD k (0, -1) = l.getD k (0, -1)
theorem other_set (l : List (Int × Int)) (t : Int) (x : Int × Int) (ht : inB t l.length = true) : Other t l (l.set t.toNat x) := by
  obtain ⟨k, rfl, hk⟩ := inB_nat ht
  refine ⟨by simp, fun j hj => ?_⟩
  rw [Int.toNat_natCast, List.getD, List.getElem?_set_ne (by omega)]; rfl
theorem other_same (l : List (Int × Int)) (t : Int) : Other t l l := ⟨rfl, fun _ _ => rfl⟩
theorem other_lock (l : List (Int × Int)) (td : Bool) (t d : Int) : Other t l (lock l td t d).2 := by
  unfold lock
  by_cases h : inB t l.length = true
  · rw [if_pos h]
    by_cases h1 : d < -1
    · rw [if_pos h1]; exact other_same _ _
    · rw [if_neg h1]
      by_cases h2 : 0 ≤ d ∧ td = false
      · rw [if_pos h2]; exact other_same _ _
      · rw [if_neg h2]
        split
        · exact other_same _ _
        · exact other_set _ _ _ h
  · rw [if_neg h]; exact other_same _ _
theorem holds_zero {l : List (Int × Int)} {t : Int} (h : holds l t = 0) : inB t l.length = true := holds_in h
theorem other_turn (l : List (Int × Int)) (t st : Int) : Other t l (turn l t st).2 := by
  unfold turn
  dsimp only
  by_cases h : holds l t = 0
  · rw [if_pos h]; exact other_set _ _ _ (holds_zero h)
  · rw [if_neg h]; exact other_same _ _
theorem other_probe (l : List (Int × Int)) (t : Int) : Other t l (probe l true t).2 := other_turn l t 4
theorem other_fin (l : List (Int × Int)) (t ev : Int) : Other t l (fin l t ev).2 := by
  unfold fin
  split
  · exact other_same _ _
  · rename_i h
    refine other_set _ _ _ ?_
    cases hb : inB t l.length with
    | true => rfl
    | false =>
      have : state l t = 0 := by unfold state; rw [hb]; rfl
      rw [this, next_zero] at h; omega
theorem Other.state {t : Int} {l l' : List (Int × Int)} (h : Other t l l') (k : Nat) (hk : (k : Int) ≠ t) : Seat.state l' k = Seat.state l k ∧ Seat.deadline l' k = Seat.deadline l k := by
  unfold Seat.state Seat.deadline
  rw [h.1, Int.toNat_natCast, h.2 k hk]
  exact ⟨rfl, rfl⟩
theorem state_get {l : List (Int × Int)} {n : Nat} (h : n < l.length) : state l n = (l.getD n (0, -1)).1 := by unfold state; rw [inB_mk h, if_pos rfl, Int.toNat_natCast]
theorem deadline_get {l : List (Int × Int)} {n : Nat} (h : n < l.length) : deadline l n = (l.getD n (0, -1)).2 := by unfold deadline; rw [inB_mk h, if_pos rfl, Int.toNat_natCast]
theorem neq_same (x y : Int) (w : World) : (binOp .neq 33 (.agg #[.int .i64 x, .int .i64 y]) (.agg #[.int .i64 x, .int .i64 y])).run Try.prog w = .ok (.bool false) w := by
  have h := run_neq_ints (P := Try.prog) w 33 3 2 .i64 Try.underlying33 Try.underlying3 (i := (Try.prog.info? 3).get!) (by kernel_rfl) (by kernel_rfl) [x, y] [x, y] rfl rfl
  simpa [ints] using h

set_option maxHeartbeats 2000000 in
set_option maxRecDepth 100000 in
theorem many (ao : Option Addr) (len cap : Nat) (w : World) (h : 60 < len) :
    Calls Try.prog 4 #[.slice ao len cap] w fun e w' => e = .returned (.bool true) ∧ Below w.heap.size w w' := by
  have c2 : (60 : Int) < (len : Int) := by omega
  clear h
  go_enter Try.func4, Try.ntmps4
  go_wp2_with fail
  refine (new_yes _ 8 true true (by omega) (by omega)).mono ?_
  rintro e w1 ⟨s, lb, rfl, ha, b1, b2, u1⟩
  go_wp2_with fail
  refine (awake _).mono ?_
  rintro e w4 ⟨rfl, u4⟩
  go_wp2
  go_ret
  exact ⟨rfl, u1.trans (u4.mono u1.size)⟩

set_option maxHeartbeats 8000000 in
set_option maxRecDepth 100000 in
theorem main (v : Value) (xs : List (List Int)) (w : World) (h3 : xs.length ≤ 60) (hx : I64s w v 3 xs) :
    Calls Try.prog 4 #[v] w fun e w' => e = .returned (.bool true) ∧ Below w.heap.size w w' := by
  obtain ⟨⟨ao, cap, rfl, hlc, hlm, hcells⟩, hwf⟩ := hx
  have c2 : (xs.length : Int) ≤ 60 := by omega
  go_enter Try.func4, Try.ntmps4
  go_wp2_with fail
  refine (new_yes _ 8 true true (by omega) (by omega)).mono ?_
  rintro e w1 ⟨s, lb, rfl, ha, b1, b2, u1⟩
  have s1 := ha.top.lt
  have s2 := ha.row.lt
  obtain ⟨M, hMM⟩ : ∃ M, w1.heap.size = M := ⟨_, rfl⟩
  have hM1 : M ≤ w1.heap.size := by omega
  rw [hMM] at s1 s2
  clear hMM
  go_wp2_with fail
  go_loopw [36] (fun i wr => ∃ j : Nat, j ≤ xs.length ∧ i = .int .i64 j ∧ ∃ l : List (Int × Int), l.length = 8 ∧ At wr s lb l true true ∧ Below w.heap.size w wr ∧ M ≤ wr.heap.size) (fun i _ => xs.length - (intOf i).toNat)
  case atStart => exact ⟨0, Nat.zero_le _, rfl, _, by simp, ha, u1, hM1⟩
  case round =>
    obtain ⟨j, hj, rfl, l, hl, hat, hbel, hsz⟩ := hrel
    clear ha u1 hM1
    by_cases hlt : j < xs.length
    · obtain ⟨b, off, rfl, hbw, hcell⟩ := hcells (by omega)
      have hy := hwf (xs.getD j []) (by rw [getD_lt _ _ _ hlt]; exact List.getElem_mem hlt)
      obtain ⟨y, hyy⟩ : ∃ y, xs.getD j [] = y := ⟨_, rfl⟩
      rw [hyy] at hy
      obtain ⟨hy3, hyw⟩ := hy
      match y, hy3 with
      | [q, t, N], _ =>
        have c0 := (hbel.cell (p := ⟨b, off + j * 3, none⟩) hbw).trans (hcell j hlt 0 (.int .i64 q) (by decide) (by rw [hyy]; rfl))
        have c1 := (hbel.cell (p := ⟨b, off + j * 3 + 1, none⟩) hbw).trans (hcell j hlt 1 (.int .i64 t) (by decide) (by rw [hyy]; rfl))
        have c3 := (hbel.cell (p := ⟨b, off + j * 3 + 2, none⟩) hbw).trans (hcell j hlt 2 (.int .i64 N) (by decide) (by rw [hyy]; rfl))
        have HL := Lib.hid hl
        clear hyy hcell hyw hl
        go_wp2_with fail
        have hA0 : At ((wr.alloc (.cells #[.int .i64 q, .int .i64 t, .int .i64 N] 32)).alloc (.cells #[.int .i64 0, .int .i64 0, .int .i64 0, .int .i64 0, .int .i64 0, .int .i64 0, .int .i64 0, .int .i64 0, .int .i64 0, .int .i64 0, .int .i64 0, .int .i64 0, .int .i64 0, .int .i64 0, .int .i64 0, .int .i64 0] 34)) s lb l true true := (hat.alloc _).alloc _
        have hbx : Row ((wr.alloc (.cells #[.int .i64 q, .int .i64 t, .int .i64 N] 32)).alloc (.cells #[.int .i64 0, .int .i64 0, .int .i64 0, .int .i64 0, .int .i64 0, .int .i64 0, .int .i64 0, .int .i64 0, .int .i64 0, .int .i64 0, .int .i64 0, .int .i64 0, .int .i64 0, .int .i64 0, .int .i64 0, .int .i64 0] 34)) wr.heap.size [.int .i64 q, .int .i64 t, .int .i64 N] := (Row.new' rfl).alloc _
        have hwas : Row ((wr.alloc (.cells #[.int .i64 q, .int .i64 t, .int .i64 N] 32)).alloc (.cells #[.int .i64 0, .int .i64 0, .int .i64 0, .int .i64 0, .int .i64 0, .int .i64 0, .int .i64 0, .int .i64 0, .int .i64 0, .int .i64 0, .int .i64 0, .int .i64 0, .int .i64 0, .int .i64 0, .int .i64 0, .int .i64 0] 34)) (wr.heap.size + 1) (cells (fillp l 0)) := Row.new' (by simp)
        have hb0 : Below w.heap.size w ((wr.alloc (.cells #[.int .i64 q, .int .i64 t, .int .i64 N] 32)).alloc (.cells #[.int .i64 0, .int .i64 0, .int .i64 0, .int .i64 0, .int .i64 0, .int .i64 0, .int .i64 0, .int .i64 0, .int .i64 0, .int .i64 0, .int .i64 0, .int .i64 0, .int .i64 0, .int .i64 0, .int .i64 0, .int .i64 0] 34)) := (hbel.alloc hbel.size _).alloc (by simp; exact Nat.le_succ_of_le hbel.size) _
        have hz0 := hbel.size
        obtain ⟨B, hB⟩ : ∃ B, wr.heap.size = B := ⟨_, rfl⟩
        obtain ⟨W0, hW0⟩ : ∃ W, ((wr.alloc (.cells #[.int .i64 q, .int .i64 t, .int .i64 N] 32)).alloc (.cells #[.int .i64 0, .int .i64 0, .int .i64 0, .int .i64 0, .int .i64 0, .int .i64 0, .int .i64 0, .int .i64 0, .int .i64 0, .int .i64 0, .int .i64 0, .int .i64 0, .int .i64 0, .int .i64 0, .int .i64 0, .int .i64 0] 34)) = W := ⟨_, rfl⟩
        rw [hW0] at hA0 hbx hwas hb0 ⊢
        rw [hB] at hbx hwas hsz hz0 ⊢
        clear hW0 hB hbel hat c0 c1 c3
        go_loopw [40] (fun i wi => ∃ n : Nat, n ≤ 8 ∧ i = .int .i64 n ∧ At wi s lb l true true ∧ Row wi B [.int .i64 q, .int .i64 t, .int .i64 N] ∧ Row wi (B + 1) (cells (fillp l n)) ∧ Below w.heap.size w wi) (fun i _ => 8 - (intOf i).toNat)
        case atStart => exact ⟨0, by decide, rfl, hA0, hbx, hwas, hb0⟩
        case round =>
          obtain ⟨n, hn, rfl, hA, hbx, hwas, hbel⟩ := hrel
          by_cases hn8 : n < 8
          · have hn8' : (n : Int) < 8 := by omega
            have KS := state_all _ _ _ _ _ _ hA (n : Int)
            have KD := deadline_all _ _ _ _ _ _ hA (n : Int)
            rw [state_get (by rw [HL.out]; exact hn8)] at KS
            rw [deadline_get (by rw [HL.out]; exact hn8)] at KD
            have hfl := fillp_len l HL.out n hn
            have d0 := hwas.cell (cells_0 _ n (by rw [hfl]; exact hn8))
            have d1 := hwas.cell (cells_1 _ n (by rw [hfl]; exact hn8))
            rw [fillp_get l HL.out n hn8] at d0 d1
            have z0 := hwas.frozen (n * 2)
            have z1 := hwas.frozen (n * 2 + 1)
            have hw2 := (hwas.set (n * 2) (.int .i64 (l.getD n (0, -1)).1)).set (n * 2 + 1) (.int .i64 (l.getD n (0, -1)).2)
            rw [cells_set2, fillp_set l HL.out n hn8] at hw2
            obtain ⟨x, hxx⟩ : ∃ x, (l.getD n (0, -1)).1 = x := ⟨_, rfl⟩
            obtain ⟨y, hyy⟩ : ∃ y, (l.getD n (0, -1)).2 = y := ⟨_, rfl⟩
            rw [hxx] at KS hw2
            rw [hyy] at KD hw2
            have HKS := Lib.hid KS
            have HKD := Lib.hid KD
            have up := Upd.two wr (B + 1) (n * 2) (n * 2 + 1) (.int .i64 x) (.int .i64 y)
            have hl1 := hwas.lt
            clear KS KD hxx hyy hwas hfl
            go_wp2_with fail
            refine HKS.out.mono ?_
            rintro e w5 ⟨rfl, rfl⟩
            go_wp2_with fail
            refine HKD.out.mono ?_
            rintro e w5 ⟨rfl, rfl⟩
            go_wp2_with fail
            go_roundw
            case rel => exact ⟨n + 1, by omega, by go_num, hA.upd up (by omega) (by omega), hbx.upd up (by omega), hw2, up.below hbel hbel.size (by omega)⟩
            case measure => simp [intOf]; omega
          · obtain rfl : n = 8 := by omega
            have e8 : fillp l 8 = l := by simp [fillp, List.take_of_length_le (Nat.le_of_eq HL.out)]
            rw [e8] at hwas
            have q0 := hbx.cell (i := 0) rfl
            have q1 := hbx.cell (i := 1) rfl
            have q2 := hbx.cell (i := 2) rfl
            have hB1 := hwas.lt
            clear e8
            go_upto_block 4 with (fail)
            go_cut [] from 55 to 82 (fun wx => ∃ l' : List (Int × Int), Other t l l' ∧ At wx s lb l' true true ∧ Row wx B [.int .i64 q, .int .i64 t, .int .i64 N] ∧ Row wx (B + 1) (cells l) ∧ Below w.heap.size w wx)
            case first =>
              have fin' : ∀ w5 l', Upd (fun k => k = lb) wr w5 → Other t l l' → At w5 s lb l' true true → ∃ l' : List (Int × Int), Other t l l' ∧ At w5 s lb l' true true ∧ Row w5 B [.int .i64 q, .int .i64 t, .int .i64 N] ∧ Row w5 (B + 1) (cells l) ∧ Below w.heap.size w w5 := by
                intro w5 l' u5 ho a5
                exact ⟨l', ho, a5, hbx.upd u5 (by omega), hwas.upd u5 (by omega), u5.below hbel hbel.size (by omega)⟩
              have FIN := Lib.hid fin'
              clear fin'
              by_cases e1 : q = 1
              · subst e1
                go_wp2_with fail
                refine (lock_all _ _ _ _ _ _ hA t N).mono ?_
                rintro e w5 ⟨rfl, hA5, u5⟩
                go_wp2_with fail
                go_meet
                case rel => exact FIN.out _ _ u5 (other_lock _ _ _ _) hA5
              have E1 : (q == 1) = false := by simpa using e1
              by_cases e2 : q = 2
              · subst e2
                go_wp2_with fail
                refine (unlock_all _ _ _ _ _ _ hA t).mono ?_
                rintro e w5 ⟨rfl, hA5, u5⟩
                go_wp2_with fail
                go_meet
                case rel => exact FIN.out _ _ u5 (other_turn _ _ _) hA5
              have E2 : (q == 2) = false := by simpa using e2
              by_cases e3 : q = 3
              · subst e3
                go_wp2_with fail
                refine (probe_all _ _ _ _ _ _ hA t).mono ?_
                rintro e w5 ⟨rfl, hA5, u5⟩
                go_wp2_with fail
                go_meet
                case rel => exact FIN.out _ _ u5 (other_probe _ _) hA5
              have E3 : (q == 3) = false := by simpa using e3
              by_cases e4 : q = 4
              · subst e4
                go_wp2_with fail
                refine (end_all _ _ _ _ _ _ hA t N).mono ?_
                rintro e w5 ⟨rfl, hA5, u5⟩
                go_wp2_with fail
                go_meet
                case rel => exact FIN.out _ _ u5 (other_fin _ _ _) hA5
              have E4 : (q == 4) = false := by simpa using e4
              clear e1 e2 e3 e4
              go_wp2_with fail
              go_meet
              case rel => exact FIN.out _ _ (Upd.refl _ _) (other_same _ _) hA
            case rest =>
              clear hA hbx hwas q0 q1 q2
              obtain ⟨l', ho, hA5, hbx5, hwas5, hbel5⟩ := hcut
              obtain ⟨w5, hw5⟩ : ∃ w5, wc = w5 := ⟨_, rfl⟩
              rw [hw5] at hA5 hbx5 hwas5 hbel5 ⊢
              clear hw5
              have HL' := Lib.hid (show l'.length = 8 from by rw [ho.1]; exact HL.out)
              go_wp2_with fail
              go_loopw [83] (fun i wi => ∃ n : Nat, n ≤ 8 ∧ i = .int .i64 n ∧ At wi s lb l' true true ∧ Row wi B [.int .i64 q, .int .i64 t, .int .i64 N] ∧ Row wi (B + 1) (cells l) ∧ Below w.heap.size w wi) (fun i _ => 8 - (intOf i).toNat)
              case atStart => exact ⟨0, by decide, rfl, hA5, hbx5, hwas5, hbel5⟩
              case round =>
                obtain ⟨n, hn, rfl, hA6, hbx6, hwas6, hbel6⟩ := hrel
                clear hA5 hbx5 hwas5 hbel5
                by_cases hn8 : n < 8
                · have hn8' : (n : Int) < 8 := by omega
                  have q1 := hbx6.cell (i := 1) rfl
                  have d0 := hwas6.cell (cells_0 _ n (by rw [HL.out]; exact hn8))
                  have d1 := hwas6.cell (cells_1 _ n (by rw [HL.out]; exact hn8))
                  by_cases hnt : (n : Int) = t
                  · have hnt1 : ((n : Int) != t) = false := by simpa using hnt
                    clear hnt
                    as_aux_lemma =>
                    go_wp2_with fail
                    go_quiet (fail)
                    go_wp2
                    go_roundw
                    case rel => exact ⟨n + 1, by omega, by go_num, hA6.drewN _, hbx6.drewN _, hwas6.drewN _, below_drewN hbel6 _⟩
                    case measure => simp [intOf]; omega
                  · have hnt1 : ((n : Int) != t) = true := by simpa using hnt
                    have KS := fun r => state_all _ _ _ _ _ _ (hA6.drewN r) (n : Int)
                    have KD := fun r => deadline_all _ _ _ _ _ _ (hA6.drewN r) (n : Int)
                    have hs := ho.state n hnt
                    simp only [hs.1, state_get (show n < l.length by rw [HL.out]; exact hn8)] at KS
                    simp only [hs.2, deadline_get (show n < l.length by rw [HL.out]; exact hn8)] at KD
                    obtain ⟨x, hxx⟩ : ∃ x, (l.getD n (0, -1)).1 = x := ⟨_, rfl⟩
                    obtain ⟨y, hyy⟩ : ∃ y, (l.getD n (0, -1)).2 = y := ⟨_, rfl⟩
                    rw [hxx] at d0
                    rw [hyy] at d1
                    simp only [hxx] at KS
                    simp only [hyy] at KD
                    have HKS := Lib.hid KS
                    have HKD := Lib.hid KD
                    have NS := neq_same x y
                    clear KS KD hxx hyy hnt hs
                    as_aux_lemma =>
                    go_wp2_with fail
                    go_quiet ((first | (go_at_call 9; exact Calls.quiet_of_same ((HKS.out _).mono fun e w' ⟨he, hw⟩ => ⟨he, hw.symm⟩)) | (go_at_call 10; exact Calls.quiet_of_same ((HKD.out _).mono fun e w' ⟨he, hw⟩ => ⟨he, hw.symm⟩))))
                    go_wp2
                    go_roundw
                    case rel => exact ⟨n + 1, by omega, by go_num, hA6.drewN _, hbx6.drewN _, hwas6.drewN _, below_drewN hbel6 _⟩
                    case measure => simp [intOf]; omega
                · go_wp2_with fail
                  go_roundw
                  case rel => exact ⟨j + 1, by omega, by go_num, l', HL'.out, hA6, hbel6, by have := hwas6.lt; omega⟩
                  case measure => simp [intOf]; omega
    · go_wp2_with fail
      refine (awake _).mono ?_
      rintro e w6 ⟨rfl, u6⟩
      go_wp2
      go_ret
      exact ⟨rfl, hbel.trans (u6.mono hbel.size)⟩
theorem walk (v : Value) (xs : List (List Int)) (w : World) (hx : I64s w v 3 xs) :
    Calls Try.prog 4 #[v] w fun e w' => e = .returned (.bool true) ∧ Below w.heap.size w w' := by
  obtain ⟨ao, cap, rfl, _, _, _⟩ := id hx.1
  by_cases c : 60 < xs.length
  · exact many ao xs.length cap w c
  · exact main _ xs w (by omega) hx
end Go.Proofs.Ytmfcjpbceckafaa.WalkSeatApart
