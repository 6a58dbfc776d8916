/- The law HierLeads, walked. -/
import Derived.Test.YtmiidiijhhjabaaLaw15
import Derived.Test.YtmiidiijhhjabaaHierO
import Derived.Test.YtmiidiijhhjabaaWin
import Derived.Test.YtmiidiijhhjabaaOps10
import Derived.Deep.DeepMust
namespace Go.Proofs.Ytmiidiijhhjabaa.WalkHierLeads
open Go Go.RowKit Go.Proofs.Ytmiidiijhhjabaa.Heap Go.Proofs.Ytmiidiijhhjabaa.Open Go.Proofs.Ytmiidiijhhjabaa.Seat Go.Proofs.Ytmiidiijhhjabaa.Mach Go.Proofs.Ytmiidiijhhjabaa.Has Go.Proofs.Ytmiidiijhhjabaa.Lk Go.Proofs.Ytmiidiijhhjabaa.StepU Go.Proofs.Ytmiidiijhhjabaa.Hier Go.Proofs.Ytmiidiijhhjabaa.Law15 Go.Proofs.Ytmiidiijhhjabaa.HierO

theorem info_i : (Try.prog.info? 3).map (fun i => (i.zero, i.size, i.bytes)) = some (some (.int .i64 0), 1, 8) := by kernel_rfl
theorem cell_newAt (w : World) (v : Value) (T : TypeId) (b : Nat) (hb : b = w.heap.size) : ∀ j u, [v][j]? = some u → (w.alloc (.cells #[v] T)).cell? ((⟨b, 0, none⟩ : Addr).add j) = some u := by subst hb; exact cell_new1 w v T
/-- Contexts as cells. -/
def rowv (l : List Nat) : List Value := l.map fun (t : Nat) => Value.int .i64 (t : Int)
theorem rowv_snoc (l : List Nat) (x : Nat) : rowv (l ++ [x]) = rowv l ++ [.int .i64 (x : Int)] := by simp [rowv]
theorem rowv_len (l : List Nat) : (rowv l).length = l.length := by simp [rowv]
/-- Where the loop stands. -/
structure Lp (w wr : World) (l s lb pb cap p : Nat) (SP : Nat → Prop) (hs : List Int) (B b : Nat) (st : St) (row : List Nat) (rv : Value) (j : Nat) : Prop where
  obj : O l s lb pb cap p SP hs.length (hh hs) 0 wr b st ∧ st.seats.length = hs.length
  few : b ≤ j
  keeps : JL hs.length hs st row
  len : row.length ≤ j
  win : Win wr B rv (rowv row)
  bel : Below w.heap.size w wr
  big : B ≤ wr.heap.size
set_option maxHeartbeats 16000000 in
set_option maxRecDepth 20000 in
theorem walk (v : Value) (hs : List Int) (v2 : Value) (xs : List (List Int)) (w : World) (h0 : Src1 w v .i64 hs) (h2 : I64s w v2 4 xs) :
    Calls Try.prog 4 #[v, v2] w fun e w' => e = .returned (.bool true) ∧ Below w.heap.size w w' := by
  have h2k := h2
  obtain ⟨⟨ao, ocap, rfl, hlc, -, -⟩, -⟩ := h2
  have KF := fine w v hs h0 ao xs.length ocap
  cases hf : fineB hs xs.length with
  | false =>
    rw [hf] at KF
    have HF := Lib.hid KF
    clear KF hf h2k
    obtain ⟨a, c, rfl, -, -⟩ := h0
    go_enter Try.func4, Try.ntmps4
    go_wp2_with fail
    refine HF.out.mono ?_
    rintro e w' ⟨rfl, rfl⟩
    go_wp2_with fail
    refine (awake _).mono ?_
    rintro e w4 ⟨rfl, u4⟩
    go_wp2_with fail
    go_ret
    exact ⟨rfl, u4⟩
  | true =>
    rw [hf] at KF
    obtain ⟨n1, n8, hok, hl⟩ := fineB_true hf
    have HF := Lib.hid KF
    have HOPS := Lib.hid h2k
    have KM := madeC w v hs h0 n1 (by omega) hok
    have HKM := Lib.hid KM
    obtain ⟨⟨_, _, hv2, -, -, hcells⟩, hwf⟩ := h2k
    simp at hv2
    obtain ⟨rfl, rfl⟩ := hv2
    clear KF hf KM
    obtain ⟨a, c, rfl, -, hcell⟩ := h0
    clear hcell
    go_enter Try.func4, Try.ntmps4
    go_wp2_with fail
    refine HF.out.mono ?_
    rintro e w' ⟨rfl, rfl⟩
    go_wp2_with fail
    refine HKM.out.mono ?_
    rintro e w4 ⟨l, s, lb, pb, cap, p, SP, rfl, hM⟩
    obtain ⟨B, hBB⟩ : ∃ B, w4.heap.size = B := ⟨_, rfl⟩
    have M := mach (l := l) (s := s) (lb := lb) (pb := pb) (cap := cap) (p := p) (SP := SP) (k := hs.length) (hs := hh hs) (tl := 0) hs.length
    have hft := hM.ge
    have hfB : ∀ i, ft l s lb pb SP i → i < B := fun i hi => by rw [← hBB]; exact hM.obj.lt i hi
    have hwB : w.heap.size ≤ B := by rw [← hBB]; exact hM.bel.size
    have hLp : Lp w w4 l s lb pb cap p SP hs B 0 (st0 hs ([] ++ [(hs.length : Int) + 1] ++ List.replicate 8 0 ++ List.replicate hs.length 0 ++ [4294967292])) [] (.slice none 0 0) 0 :=
      ⟨⟨hM.obj, by simp [st0]⟩, Nat.le_refl _, startL hs n8 hok, Nat.le_refl _, .inl ⟨rfl, rfl⟩, hM.bel, by omega⟩
    have hl150 : (xs.length : Int) ≤ 150 := by omega
    clear hBB hM HKM HF
    go_wp2_with fail
    go_loopw [7, 29] (fun rv i wr => ∃ j : Nat, j ≤ xs.length ∧ i = .int .i64 j ∧ ∃ b st row, Lp w wr l s lb pb cap p SP hs B b st row rv j) (fun _ i _ => xs.length - (intOf i).toNat)
    case atStart => exact ⟨0, Nat.zero_le _, rfl, 0, _, _, hLp⟩
    case round =>
      clear hLp
      obtain ⟨j, hj, rfl, b, st, row, hL⟩ := hrel
      by_cases hlt : j < xs.length
      · obtain ⟨bo, off, rfl, hbw, hcell⟩ := hcells (by omega)
        obtain ⟨ra, rc, rfl⟩ := hL.win.len
        rw [rowv_len] at hL ⊢
        have hy := hwf (xs.getD j []) (by rw [getD_lt _ _ _ hlt]; exact List.getElem_mem hlt)
        obtain ⟨y, hyy⟩ : ∃ y, xs.getD j [] = y := ⟨_, rfl⟩
        rw [hyy] at hy
        obtain ⟨hy3, hyw⟩ := hy
        match y, hy3 with
        | [k, t, N, lt], _ =>
          have hB := hL.bel
          have c0 := (hB.cell (p := ⟨bo, off + j * 4, none⟩) hbw).trans (hcell j hlt 0 (.int .i64 k) (by decide) (by rw [hyy]; rfl))
          have c1 := (hB.cell (p := ⟨bo, off + j * 4 + 1, none⟩) hbw).trans (hcell j hlt 1 (.int .i64 t) (by decide) (by rw [hyy]; rfl))
          have c2 := (hB.cell (p := ⟨bo, off + j * 4 + 2, none⟩) hbw).trans (hcell j hlt 2 (.int .i64 N) (by decide) (by rw [hyy]; rfl))
          have c3 := (hB.cell (p := ⟨bo, off + j * 4 + 3, none⟩) hbw).trans (hcell j hlt 3 (.int .i64 lt) (by decide) (by rw [hyy]; rfl))
          have hO2 := M.keep hL.obj ((Upd.refl (fun _ => False) wr).alloc (.cells #[.int .i64 k, .int .i64 t, .int .i64 N, .int .i64 lt] 46)) (fun _ _ => id)
          have hB2 := hB.alloc hB.size (.cells #[.int .i64 k, .int .i64 t, .int .i64 N, .int .i64 lt] 46)
          have hR : Row (wr.alloc (.cells #[.int .i64 k, .int .i64 t, .int .i64 N, .int .i64 lt] 46)) wr.heap.size [.int .i64 k, .int .i64 t, .int .i64 N, .int .i64 lt] := Row.new' rfl
          have hWn := hL.win.upd ((Upd.refl (fun _ => False) wr).alloc (.cells #[.int .i64 k, .int .i64 t, .int .i64 N, .int .i64 lt] 46)) (fun _ _ => id)
          have hWl : ∀ i, (Value.slice ra row.length rc).ownBlock = some i → i < wr.heap.size := fun i hi => (hL.win.own hi).1
          have hBM := hL.big
          have hJ := hL.keeps
          have hlen := hL.len
          have hfew := hL.few
          clear hyy hcell hyw hL hB
          have hlt' : (j : Int) < (xs.length : Int) := by omega
          go_upto_block 2 with (fail)
          have hzr : B ≤ (wr.alloc (.cells #[.int .i64 k, .int .i64 t, .int .i64 N, .int .i64 lt] 46)).heap.size := by simp; omega
          have hzA : (wr.alloc (.cells #[.int .i64 k, .int .i64 t, .int .i64 N, .int .i64 lt] 46)).heap.size = wr.heap.size + 1 := by simp
          obtain ⟨W2, hW2⟩ : ∃ W, wr.alloc (.cells #[.int .i64 k, .int .i64 t, .int .i64 N, .int .i64 lt] 46) = W := ⟨_, rfl⟩
          obtain ⟨A, hA⟩ : ∃ A, wr.heap.size = A := ⟨_, rfl⟩
          rw [hW2] at hO2 hB2 hR hWn hzr hzA ⊢
          rw [hA] at hR hBM hWl hzA ⊢
          clear hW2 hA c0 c1 c2 c3
          have hAf : ∀ i, ft l s lb pb SP i → i ≠ A := fun i hi e => by have := hfB i hi; omega
          have HJ := Lib.hid hJ
          have HWN := Lib.hid hWn
          have hWf : ∀ i, (Value.slice ra row.length rc).ownBlock = some i → ¬ ft l s lb pb SP i ∧ i ≠ A := fun i hi => ⟨fun h => by have := hfB i h; have := (HWN.out.own hi).2; omega, by have := hWl i hi; omega⟩
          have HWF := Lib.hid hWf
          clear hJ hWn hWf hWl
          · have p0 := hR.cell (i := 0) rfl
            have p1 := hR.cell (i := 1) rfl
            have p2 := hR.cell (i := 2) rfl
            have mp := M.ptr hO2
            by_cases e1 : k = 1
            · subst e1
              have KL := M.lockC (M.keep hO2 ((Upd.refl (fun _ => False) W2).drewN 1) (fun _ _ => id)) t N
              have HKL := Lib.hid KL
              clear KL
              go_wp2_with fail
              go_region_held3 (fun w' => w'.cell? ⟨l, 0, none⟩ = some (.pointer (some ⟨s, 0, none⟩)) ∧ w'.cell? ⟨A, 1, none⟩ = some (.int .i64 t) ∧ w'.cell? ⟨A, 2, none⟩ = some (.int .i64 N)) ((first | exact ⟨mp, p1, p2⟩ | exact ⟨q1, q2, q3⟩))
                ((first | (go_at_call 18; refine HKL.out.mono ?_; rintro e w5 ⟨rfl, hO5, u5⟩; have q1 := M.ptr hO5; have q2 := cell_upd u5 p1 (fun h => hAf _ h rfl); have q3 := cell_upd u5 p2 (fun h => hAf _ h rfl))))
              go_wp2_with fail
              have z5 : W2.heap.size ≤ w5.heap.size := u5.size
              go_roundw
              case rel => exact ⟨j + 1, by omega, by go_num, b, _, row, ⟨hO5, by omega, HJ.out.lock t N, by omega, (HWN.out.upd ((Upd.refl (fun _ => False) W2).drewN 1) (fun _ _ => id)).upd u5 (fun i hi => (HWF.out i hi).1), u5.below (below_drewN hB2 1) hB2.size hft, by omega⟩⟩
              case measure => simp [intOf]; omega
            have E1 : (k == 1) = false := by simpa using e1
            by_cases e2 : k = 2
            · subst e2
              have KL := M.unlockC (M.keep hO2 ((Upd.refl (fun _ => False) W2).drewN 1) (fun _ _ => id)) t
              have HKL := Lib.hid KL
              clear KL
              go_wp2_with fail
              go_region_held3 (fun w' => w'.cell? ⟨l, 0, none⟩ = some (.pointer (some ⟨s, 0, none⟩)) ∧ w'.cell? ⟨A, 1, none⟩ = some (.int .i64 t)) ((first | exact ⟨mp, p1⟩ | exact ⟨q1, q2⟩))
                ((first | (go_at_call 19; refine HKL.out.mono ?_; rintro e w5 ⟨rfl, hO5, u5⟩; have q1 := M.ptr hO5; have q2 := cell_upd u5 p1 (fun h => hAf _ h rfl))))
              go_wp2_with fail
              have z5 : W2.heap.size ≤ w5.heap.size := u5.size
              go_roundw
              case rel => exact ⟨j + 1, by omega, by go_num, b, _, row, ⟨hO5, by omega, HJ.out.unlock t, by omega, (HWN.out.upd ((Upd.refl (fun _ => False) W2).drewN 1) (fun _ _ => id)).upd u5 (fun i hi => (HWF.out i hi).1), u5.below (below_drewN hB2 1) hB2.size hft, by omega⟩⟩
              case measure => simp [intOf]; omega
            have E2 : (k == 2) = false := by simpa using e2
            by_cases e4 : k = 4
            · subst e4
              have KL := M.stepC hO2 (by omega) t t 0
              obtain ⟨d, st', row', es, hJ', hcase⟩ := HJ.out.step t 0
              rw [es] at KL
              have HKL := Lib.hid KL
              have HJ' := Lib.hid hJ'
              obtain ⟨ev, b1, b2, b3⟩ := d
              have LAST : ∀ (w5 : World), O l s lb pb cap p SP hs.length (hh hs) 0 w5 (b + 1) st' ∧ st'.seats.length = hs.length → Upd (ft l s lb pb SP) W2 w5 → ∀ o, (O l s lb pb cap p SP hs.length (hh hs) 0 (w5.alloc o) (b + 1) st' ∧ st'.seats.length = hs.length) ∧ Win (w5.alloc o) B (.slice ra row.length rc) (rowv row) ∧ Below w.heap.size w (w5.alloc o) ∧ B ≤ w5.heap.size ∧ (w5.alloc o).cell? ⟨A, 1, none⟩ = some (.int .i64 t) := fun w5 hO5 u5 o => by
                have z5 : W2.heap.size ≤ w5.heap.size := u5.size
                have hB5 := u5.below hB2 hB2.size hft
                exact ⟨M.keep hO5 ((Upd.refl (fun _ => False) w5).alloc o) (fun _ _ => id), (HWN.out.upd u5 (fun i hi => (HWF.out i hi).1)).upd ((Upd.refl (fun _ => False) w5).alloc o) (fun _ _ => id), hB5.alloc hB5.size o, by omega, cell_upd ((Upd.refl (fun _ => False) w5).alloc o) (cell_upd u5 p1 (fun h => hAf _ h rfl)) id⟩
              have HLAST := Lib.hid LAST
              clear KL hJ' es LAST mp
              go_wp2_with fail
              refine HKL.out.mono ?_
              rintro e w5 ⟨rfl, hO5, u5⟩
              obtain ⟨hO6, hW6, hB6, hz6, c6⟩ := HLAST.out w5 hO5 u5 (.cells #[.int .i64 ev, .bool b1, .bool b2, .bool b3] 50)
              have R6 : Row (w5.alloc (.cells #[.int .i64 ev, .bool b1, .bool b2, .bool b3] 50)) w5.heap.size [.int .i64 ev, .bool b1, .bool b2, .bool b3] := Row.new' rfl
              have hz6' : (w5.alloc (.cells #[.int .i64 ev, .bool b1, .bool b2, .bool b3] 50)).heap.size = w5.heap.size + 1 := by simp
              unfold didv
              go_upto_region 17 with (fail)
              obtain ⟨w6, hw6⟩ : ∃ w6, w5.alloc (.cells #[.int .i64 ev, .bool b1, .bool b2, .bool b3] 50) = w6 := ⟨_, rfl⟩
              obtain ⟨D, hD⟩ : ∃ D, w5.heap.size = D := ⟨_, rfl⟩
              have z5 : W2.heap.size ≤ w5.heap.size := u5.size
              rw [hD] at z5
              rw [hw6] at hO6 hW6 hB6 R6 c6 hz6' ⊢
              rw [hD] at R6 hz6 hz6' ⊢
              have y0 := R6.cell (i := 0) rfl
              have y2 := R6.cell (i := 2) rfl
              have y3 := R6.cell (i := 3) rfl
              have HO6 := Lib.hid hO6
              have HW6 := Lib.hid hW6
              have HZ6 := Lib.hid hz6'
              have hz6b : B ≤ w6.heap.size := by omega
              clear hz6' hw6 hD hO5 u5 HKL HLAST p0 p1 p2 hR hO2 hB2 hO6 hW6
              rcases hcase with ⟨hd, hr, ht⟩ | ⟨hd, hr, ht⟩ | ⟨hd1, hd2, hr⟩
              · simp only [Prod.mk.injEq] at hd
                obtain ⟨rfl, rfl, rfl, rfl⟩ := hd
                have HR := Lib.hid hr
                have HT := Lib.hid ht
                have hwf6 : ∀ i, (Value.slice ra row.length rc).ownBlock = some i → B ≤ i := fun i hi => (HW6.out.own hi).2
                clear hr ht
                go_wp2_with (at_builtin; go_loud (refine wpList_append_win rfl (.tmp 65) (.tmp 68) 22 rfl B 3 (.int .i64 0) 8 Try.underlying22 info_i rfl (.slice ra row.length rc) (rowv row) rfl (HW6.out.upd ((Upd.refl (fun _ => False) _).alloc _) (fun _ _ => id)) ⟨w6.heap.size, 0, none⟩ 1 (.int .i64 t) rfl (cell_newAt _ _ _ _ rfl) (one_cell rfl) (by rw [rowv_len]; unfold maxLen; omega) (by rw [rowv_len]; omega) (by simp; omega) ?_; intro v7 w7 hwin7 u7 near7; have U7 : Upd (fun i => B ≤ i) w6 w7 := (((Upd.refl _ w6).alloc _).trans (u7.mono fun i _ hi => hwf6 i hi)); have y3' := cell_upd u7 (cell_upd ((Upd.refl (fun _ => False) w6).alloc (.cells #[.int .i64 t] 3)) y3 id) (fun e => by have := (HWN.out.own e).1; omega); clear near7 u7))
                go_wp2_with fail
                go_roundw
                case rel => exact ⟨j + 1, by omega, by go_num, b + 1, st', row', ⟨M.keep HO6.out U7 (fun i hi h => by have := hfB i hi; omega), by omega, HJ'.out, by rw [HR.out]; simp; omega, by rw [HR.out, rowv_snoc, ← HT.out]; exact hwin7, U7.below hB6 hB6.size (fun i hi => by omega), by have := U7.size; omega⟩⟩
                case measure => simp [intOf]; omega
              · simp only [Prod.mk.injEq] at hd
                obtain ⟨rfl, rfl, rfl, rfl⟩ := hd
                subst hr
                have hwin := HW6.out
                rw [show rowv (t.toNat :: row') = .int .i64 t :: rowv row' by rw [ht]; rfl] at hwin
                obtain ⟨gb, go, gc, hv, hgc, hcl, hwt⟩ := hwin.head
                rw [rowv_len] at hv hgc hwt
                simp only [List.length_cons, Value.slice.injEq] at hv
                obtain ⟨rfl, -, rfl⟩ := hv
                have hz0 : (((row'.length + 1 : Nat) : Int) == 0) = false := by rw [beq_eq_false_iff_ne]; omega
                have hz1 : (((row'.length : Int) + 1) == 0) = false := by rw [beq_eq_false_iff_ne]; omega
                have hz2 : (t != t) = false := by simp
                have hp1 : (0 : Int) < ((row'.length : Int) + 1) := by omega
                have hp2 : (1 : Int) ≤ ((row'.length : Int) + 1) := by omega
                have hp3 : ((row'.length : Int) + 1) ≤ (rc : Int) := by omega
                have HWT := Lib.hid hwt
                have HLN := Lib.hid hlen
                clear ht hwin hwt hlen
                rw [show (t.toNat :: row').length = row'.length + 1 from rfl]
                go_wp2_with fail
                go_quiet (fail)
                go_wp2_with fail
                go_roundw
                case rel => exact ⟨j + 1, by omega, by go_num, b + 1, st', row', ⟨M.keep HO6.out ((Upd.refl (fun _ => False) w6).drewN nq) (fun _ _ => id), by omega, HJ'.out, by have := HLN.out; simp at this; omega, by simpa using HWT.out.upd ((Upd.refl (fun _ => False) w6).drewN nq) (fun _ _ => id), below_drewN hB6 nq, hz6b⟩⟩
                case measure => simp [intOf]; omega
              · have hd1 : b2 = false := hd1
                have hd2 : b3 = false := hd2
                subst hd1 hd2 hr
                go_wp2_with fail
                go_roundw
                case rel => exact ⟨j + 1, by omega, by go_num, b + 1, st', _, ⟨HO6.out, by omega, HJ'.out, by omega, HW6.out, hB6, by omega⟩⟩
                case measure => simp [intOf]; omega
            have E4 : (k == 4) = false := by simpa using e4
            clear e1 e2 e4
            go_wp2_with fail
            go_roundw
            case rel => exact ⟨j + 1, by omega, by go_num, b, st, row, ⟨hO2, by omega, HJ.out, by omega, HWN.out, hB2, hzr⟩⟩
            case measure => simp [intOf]; omega
      · obtain rfl : j = xs.length := by omega
        have hB9 := hL.bel
        clear hL
        go_wp2_with fail
        refine (awake _).mono ?_
        rintro e w8 ⟨rfl, u8⟩
        go_wp2_with fail
        go_ret
        exact ⟨rfl, hB9.trans (u8.mono hB9.size)⟩
end Go.Proofs.Ytmiidiijhhjabaa.WalkHierLeads
