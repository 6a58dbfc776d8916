/- The law AbortBack, walked. -/
import Derived.Test.YtlkpfdboagjaoaaLaw14
import Derived.Test.YtlkpfdboagjaoaaAbortB
import Derived.Test.YtlkpfdboagjaoaaOps10
import Derived.Deep.QuietTactic
import Derived.Deep.RegionHeld3
import Derived.Deep.CutRange
namespace Go.Proofs.Ytlkpfdboagjaoaa.WalkAbortBack
open Go Go.RowKit Go.Proofs.Ytlkpfdboagjaoaa.Heap Go.Proofs.Ytlkpfdboagjaoaa.Open Go.Proofs.Ytlkpfdboagjaoaa.Seat Go.Proofs.Ytlkpfdboagjaoaa.Mach Go.Proofs.Ytlkpfdboagjaoaa.Has Go.Proofs.Ytlkpfdboagjaoaa.Lk Go.Proofs.Ytlkpfdboagjaoaa.StepU Go.Proofs.Ytlkpfdboagjaoaa.Abort Go.Proofs.Ytlkpfdboagjaoaa.Law14 Go.Proofs.Ytlkpfdboagjaoaa.AbortB

/-- None is out. -/
theorem cnt0 (ws : List Int) (c t : Nat) (h : ∀ x, 1 ≤ x → AbortP.gU ws x = 0) : ∀ j, cntO 0 ws c t j = 0
  | 0 => rfl
  | j + 1 => by
    unfold cntO
    rw [cnt0 ws c t h j]
    have h0 : 0 ≤ (t : Int) * c := Int.natCast_mul t c ▸ Int.natCast_nonneg _
    have hx := h ((t : Int) * c + j + 1) (by omega)
    unfold AbortP.gU at hx
    rw [if_pos (by omega), show stA 0 ((t : Int) * c + j + 1) + 2 = 3 * ((t : Int) * c + j + 1) by unfold stA; omega] at hx
    have e : ws.getD (0 + 3 * ((t : Int) * c + j + 1)).toNat 0 = 0 := by
      rw [Int.zero_add]
      by_cases q : (3 * ((t : Int) * c + j + 1)).toNat < ws.length
      · rw [← Mem.get_in (k := (3 * ((t : Int) * c + j + 1)).toNat) (a := 3 * ((t : Int) * c + j + 1)) (by omega) (by simp [Mem.inB]; omega)]; exact hx
      · rw [List.getD, List.getElem?_eq_none (by omega)]; rfl
    rw [e]; rfl
set_option maxHeartbeats 16000000 in
set_option maxRecDepth 20000 in
theorem walk (v : Value) (hs : List Int) (n : Int) (v2 : Value) (xs : List (List Int)) (w : World) (h0 : Src1 w v .i64 hs) (h2 : I64s w v2 4 xs) :
    Calls Try.prog 5 #[v, .int .i64 n, v2] w fun e w' => e = .returned (.bool true) ∧ Below w.heap.size w w' := by
  have h2k := h2
  obtain ⟨⟨ao, ocap, rfl, hlc, -, -⟩, -⟩ := h2
  have KF := fine w v hs h0 ao xs.length ocap
  by_cases hbad : fineB hs xs.length = false ∨ n < 1 ∨ 8 < n
  · obtain ⟨a, cv, rfl, -, -⟩ := h0
    clear h2k
    cases hf : fineB hs xs.length with
    | false =>
      rw [hf] at KF
      have HF := Lib.hid KF
      clear KF hf hbad
      go_enter Try.func5, Try.ntmps5
      go_wp2_with fail
      refine HF.out.mono ?_
      rintro e w' ⟨rfl, rfl⟩
      go_wp2_with fail
      refine (awake _).mono ?_
      rintro e w4 ⟨rfl, u4⟩
      go_wp2_with fail
      go_ret
      exact ⟨rfl, u4⟩
    | true =>
      rw [hf] at KF hbad
      have HF := Lib.hid KF
      by_cases e1 : n < 1
      · clear KF hf hbad
        go_enter Try.func5, Try.ntmps5
        go_wp2_with fail
        refine HF.out.mono ?_
        rintro e w' ⟨rfl, rfl⟩
        go_wp2_with fail
        refine (awake _).mono ?_
        rintro e w4 ⟨rfl, u4⟩
        go_wp2_with fail
        go_ret
        exact ⟨rfl, u4⟩
      · have e1' : decide (n < 1) = false := by simpa using e1
        have e2 : 8 < n := by rcases hbad with h | h | h; exact absurd h (by decide); exact absurd h e1; exact h
        clear KF hf hbad
        go_enter Try.func5, Try.ntmps5
        go_wp2_with fail
        refine HF.out.mono ?_
        rintro e w' ⟨rfl, rfl⟩
        go_wp2_with fail
        refine (awake _).mono ?_
        rintro e w4 ⟨rfl, u4⟩
        go_wp2_with fail
        go_ret
        exact ⟨rfl, u4⟩
  · have hf : fineB hs xs.length = true := by cases h : fineB hs xs.length with | true => rfl | false => exact absurd (.inl h) hbad
    rw [hf] at KF
    obtain ⟨n1, n8, hok, hl⟩ := fineB_true hf
    have d1 : 1 ≤ n := by omega
    have d2 : n ≤ 8 := by omega
    obtain ⟨c, rfl⟩ : ∃ c : Nat, (c : Int) = n := ⟨n.toNat, by omega⟩
    have HF := Lib.hid KF
    have HOPS := Lib.hid h2k
    have KM := madeC w v hs c h0 n1 (by omega) hok (by omega) (by omega)
    have HKM := Lib.hid KM
    obtain ⟨⟨_, _, hv2, -, -, hcells⟩, hwf⟩ := h2k
    simp at hv2
    obtain ⟨rfl, rfl⟩ := hv2
    clear KF hf KM hbad
    obtain ⟨a, cv, rfl, -, hcell⟩ := h0
    clear hcell
    go_enter Try.func5, Try.ntmps5
    go_wp2_with fail
    refine HF.out.mono ?_
    rintro e w' ⟨rfl, rfl⟩
    go_wp2_with fail
    refine HKM.out.mono ?_
    rintro e w4 ⟨l, s, lb, pb, cap, q, SQ, p, SP, rfl, hM⟩
    have M := mach (l := l) (s := s) (lb := lb) (pb := pb) (cap := cap) (q := q) (SQ := SQ) (c := c) (p := p) (SP := SP) (k := hs.length) (hs := hh c hs) (tl := 0) hs.length
    have hft := hM.ge
    obtain ⟨B, hBB⟩ : ∃ B, w4.heap.size = B := ⟨_, rfl⟩
    have hfB : ∀ i, ft l s lb pb SP SQ i → i < B := fun i hi => by rw [← hBB]; exact hM.obj.lt i hi
    have hwB : w.heap.size ≤ B := by rw [← hBB]; exact hM.bel.size
    have hO0 : (O l s lb pb cap q SQ c p SP hs.length (hh c hs) 0 w4 0 (st0 hs.length (wz c hs.length)) ∧ RR c ((st0 hs.length (wz c hs.length))).pls ∧ ((st0 hs.length (wz c hs.length))).seats.length = hs.length) := ⟨hM.obj, zeros_rr _ (by omega), by simp [st0]⟩
    have hB0 := hM.bel
    have hBM : B ≤ w4.heap.size := by omega
    have hl150 : (xs.length : Int) ≤ 150 := by omega
    have hn9 : (hs.length : Int) ≤ 8 := by omega
    have HK0 : Hid (Kp hs.length c (st0 hs.length (wz c hs.length)) 0) := Lib.hid (Kp.first n8 (by omega))
    clear hM HKM HF hBB
    go_wp2_with fail
    go_loopw [9, 43] (fun s9 i wr => ∃ j : Nat, j ≤ xs.length ∧ i = .int .i64 j ∧ ∃ (b : Nat) (st : St) (now : Int), s9 = .int .i64 now ∧ 0 ≤ now ∧ now ≤ 1000 * j ∧ b ≤ j ∧ (O l s lb pb cap q SQ c p SP hs.length (hh c hs) 0 wr b st ∧ RR c (st).pls ∧ (st).seats.length = hs.length) ∧ Hid (Kp hs.length c st j) ∧ Below w.heap.size w wr ∧ B ≤ wr.heap.size) (fun _ i _ => xs.length - (intOf i).toNat)
    case atStart => exact ⟨0, Nat.zero_le _, rfl, 0, _, 0, rfl, by omega, by omega, Nat.le_refl _, hO0, HK0, hB0, hBM⟩
    case round =>
      clear hO0 HK0 hB0 hBM
      obtain ⟨j, hj, rfl, b, st, now, rfl, hnow0, hnow1, hbj, hO, HKP, hB, hBM⟩ := hrel
      by_cases hlt : j < xs.length
      · obtain ⟨bo, off, rfl, hbw, hcell⟩ := hcells (by omega)
        have hy := hwf (xs.getD j []) (by rw [getD_lt _ _ _ hlt]; exact List.getElem_mem hlt)
        obtain ⟨y, hyy⟩ : ∃ y, xs.getD j [] = y := ⟨_, rfl⟩
        rw [hyy] at hy
        obtain ⟨hy3, hyw⟩ := hy
        match y, hy3 with
        | [k, t, N, lt], _ =>
          have c0 := (hB.cell (p := ⟨bo, off + j * 4, none⟩) hbw).trans (hcell j hlt 0 (.int .i64 k) (by decide) (by rw [hyy]; rfl))
          have c1 := (hB.cell (p := ⟨bo, off + j * 4 + 1, none⟩) hbw).trans (hcell j hlt 1 (.int .i64 t) (by decide) (by rw [hyy]; rfl))
          have c2 := (hB.cell (p := ⟨bo, off + j * 4 + 2, none⟩) hbw).trans (hcell j hlt 2 (.int .i64 N) (by decide) (by rw [hyy]; rfl))
          have c3 := (hB.cell (p := ⟨bo, off + j * 4 + 3, none⟩) hbw).trans (hcell j hlt 3 (.int .i64 lt) (by decide) (by rw [hyy]; rfl))
          have hO2 := M.keep hO ((Upd.refl (fun _ => False) wr).alloc (.cells #[.int .i64 k, .int .i64 t, .int .i64 N, .int .i64 lt] 47)) (fun _ _ => id)
          have hB2 := hB.alloc hB.size (.cells #[.int .i64 k, .int .i64 t, .int .i64 N, .int .i64 lt] 47)
          have hR : Row (wr.alloc (.cells #[.int .i64 k, .int .i64 t, .int .i64 N, .int .i64 lt] 47)) wr.heap.size [.int .i64 k, .int .i64 t, .int .i64 N, .int .i64 lt] := Row.new' rfl
          clear hyy hcell hyw hO
          have hlt' : (j : Int) < (xs.length : Int) := by omega
          go_upto_block 2 with (fail)
          obtain ⟨z1, hz1⟩ : ∃ z, (if lt < 0 then 0 else lt) = z := ⟨_, rfl⟩
          rw [hz1]
          have z10 : 0 ≤ z1 := by rw [← hz1]; split <;> omega
          obtain ⟨z2, hz2⟩ : ∃ z, (if 1000 < z1 then 1000 else z1) = z := ⟨_, rfl⟩
          rw [hz2]
          have z20 : 0 ≤ z2 ∧ z2 ≤ 1000 := by rw [← hz2]; split <;> omega
          obtain ⟨now', hnw⟩ : ∃ z, now + z2 = z := ⟨_, rfl⟩
          have hnw0 : now ≤ now' ∧ now' ≤ now + 1000 := by omega
          rw [hnw]
          have HNW := Lib.hid (show 0 ≤ now' ∧ now' ≤ 1000 * ((j + 1 : Nat) : Int) by push_cast; omega)
          clear hnw hnow1 hnow0 hz1 hz2 z10 z20 hnw0
          have hzr : B ≤ (wr.alloc (.cells #[.int .i64 k, .int .i64 t, .int .i64 N, .int .i64 lt] 47)).heap.size := by simp; omega
          obtain ⟨W2, hW2⟩ : ∃ W, wr.alloc (.cells #[.int .i64 k, .int .i64 t, .int .i64 N, .int .i64 lt] 47) = W := ⟨_, rfl⟩
          obtain ⟨A, hA⟩ : ∃ A, wr.heap.size = A := ⟨_, rfl⟩
          rw [hW2] at hO2 hB2 hR hzr ⊢
          rw [hA] at hR hBM ⊢
          clear hW2 hA c0 c1 c2 c3 hB
          have hAf : ∀ i, ft l s lb pb SP SQ i → i ≠ A := fun i hi e => by have := hfB i hi; omega
          have p0 := hR.cell (i := 0) rfl
          have p1 := hR.cell (i := 1) rfl
          have p2 := hR.cell (i := 2) rfl
          have mp := M.ptr hO2
          by_cases e1 : k = 1
          · subst e1
            have KL := M.lockC (M.keep hO2 ((Upd.refl (fun _ => False) W2).drewN 1) (fun _ _ => id)) t N
            have HKL := Lib.hid KL
            clear KL
            go_wp2_with fail
            go_region_held3 (fun w' => w'.cell? ⟨l, 0, none⟩ = some (.pointer (some ⟨s, 0, none⟩)) ∧ w'.cell? ⟨A, 1, none⟩ = some (.int .i64 t) ∧ w'.cell? ⟨A, 2, none⟩ = some (.int .i64 N)) ((first | exact ⟨mp, p1, p2⟩ | exact ⟨q1, q2, q3⟩))
              ((first | (go_at_call 18; refine HKL.out.mono ?_; rintro e w5 ⟨rfl, hO5, u5⟩; have q1 := M.ptr hO5; have q2 := cell_upd u5 p1 (fun h => hAf _ h rfl); have q3 := cell_upd u5 p2 (fun h => hAf _ h rfl))))
            go_wp2_with fail
            have z5 : W2.heap.size ≤ w5.heap.size := u5.size
            go_roundw
            case rel => exact ⟨j + 1, by omega, by go_num, b, _, now', rfl, HNW.out.1, HNW.out.2, by omega, hO5, Lib.hid ((HKP.out.lock t N).mono (by omega)), u5.below (below_drewN hB2 1) hB2.size hft, by omega⟩
            case measure => simp [intOf]; omega
          have E1 : (k == 1) = false := by simpa using e1
          by_cases e2 : k = 2
          · subst e2
            have KL := M.unlockC (M.keep hO2 ((Upd.refl (fun _ => False) W2).drewN 1) (fun _ _ => id)) t
            have HKL := Lib.hid KL
            clear KL
            go_wp2_with fail
            go_region_held3 (fun w' => w'.cell? ⟨l, 0, none⟩ = some (.pointer (some ⟨s, 0, none⟩)) ∧ w'.cell? ⟨A, 1, none⟩ = some (.int .i64 t)) ((first | exact ⟨mp, p1⟩ | exact ⟨q1, q2⟩))
              ((first | (go_at_call 19; refine HKL.out.mono ?_; rintro e w5 ⟨rfl, hO5, u5⟩; have q1 := M.ptr hO5; have q2 := cell_upd u5 p1 (fun h => hAf _ h rfl))))
            go_wp2_with fail
            have z5 : W2.heap.size ≤ w5.heap.size := u5.size
            go_roundw
            case rel => exact ⟨j + 1, by omega, by go_num, b, _, now', rfl, HNW.out.1, HNW.out.2, by omega, hO5, Lib.hid ((HKP.out.unlock t).mono (by omega)), u5.below (below_drewN hB2 1) hB2.size hft, by omega⟩
            case measure => simp [intOf]; omega
          have E2 : (k == 2) = false := by simpa using e2
          by_cases e4 : k = 4
          · subst e4
            have KL := M.stepC hO2 (by omega) t t now'
            have HKL := Lib.hid KL
            clear KL e1 e2
            go_wp2_with fail
            refine HKL.out.mono ?_
            rintro e w5 ⟨rfl, hO5, u5⟩
            have z5 : W2.heap.size ≤ w5.heap.size := u5.size
            go_wp2_with fail
            go_roundw
            case rel => exact ⟨j + 1, by omega, by go_num, b + 1, _, now', rfl, HNW.out.1, HNW.out.2, by omega, hO5, Lib.hid (HKP.out.step t now'), u5.below hB2 hB2.size hft, by omega⟩
            case measure => simp [intOf]; omega
          have E4 : (k == 4) = false := by simpa using e4
          clear e1 e2 e4
          go_wp2_with fail
          go_roundw
          case rel => exact ⟨j + 1, by omega, by go_num, b, st, now', rfl, HNW.out.1, HNW.out.2, by omega, hO2, Lib.hid (HKP.out.mono (by omega)), hB2, hzr⟩
          case measure => simp [intOf]; omega
      · obtain rfl : j = xs.length := by omega
        obtain ⟨g0, f0, hE0⟩ := HKP.out
        have HP0 := Lib.hid (show Ph hs.length st g0 + 0 < 2000 from Ph_le f0 n8 (by omega))
        have HI0 := Lib.hid f0
        have hb0 : b ≤ 150 := by omega
        clear f0 hE0 HKP
        go_wp2_with fail
        go_loopw [85] (fun i wr => ∃ j : Nat, j ≤ 2000 ∧ i = .int .i64 j ∧ ∃ (b : Nat) (st : St) (g : AbortP.G), b ≤ 150 + 8 * j ∧ (O l s lb pb cap q SQ c p SP hs.length (hh c hs) 0 wr b st ∧ RR c (st).pls ∧ (st).seats.length = hs.length) ∧ Hid (AbortP.I hs.length c st g) ∧ Hid (Ph hs.length st g + j < 2000) ∧ Below w.heap.size w wr) (fun i _ => 2000 - (intOf i).toNat)
        case atStart => exact ⟨0, Nat.zero_le _, rfl, b, st, g0, by omega, hO, HI0, HP0, hB⟩
        case round =>
          clear HI0 HP0 hO hB hb0 hBM
          obtain ⟨j, hj2, rfl, b1, st1, g1, hb1, hO1, HI1, HP1, hB1⟩ := hrel
          have hjl : (j : Int) < 2000 := by have := HP1.out; omega
          have hjn : j < 2000 := by omega
          have HR1 := Lib.hid (Rd.start HI1.out now)
          go_wp2_with fail
          go_loopw [12, 89] (fun s12 i wi => ∃ t : Nat, t ≤ hs.length ∧ i = .int .i64 t ∧ ∃ (b' : Nat) (st' : St) (g' : AbortP.G), s12 = .int .i64 (idles st' t) ∧ b' ≤ 150 + 8 * j + t ∧ (O l s lb pb cap q SQ c p SP hs.length (hh c hs) 0 wi b' st' ∧ RR c (st').pls ∧ (st').seats.length = hs.length) ∧ Hid (AbortP.I hs.length c st' g') ∧ Hid (Rd hs.length now st1 g1 st' g' t) ∧ Below w.heap.size w wi) (fun _ i _ => hs.length - (intOf i).toNat)
          case atStart => exact ⟨0, Nat.zero_le _, rfl, b1, st1, g1, rfl, by omega, hO1, HI1, HR1, hB1⟩
          case round =>
            clear HR1 hO1 hB1
            obtain ⟨t, ht, rfl, b2, st2, g2, rfl, hb2, hO2, HI2, HR2, hB2⟩ := hrel
            by_cases htn : t < hs.length
            · have htn' : (t : Int) < (hs.length : Int) := by omega
              have hid := idles_le st2 t
              obtain ⟨kd, hkd⟩ : ∃ k, idles st2 t = k := ⟨_, rfl⟩
              have hkd8 : (kd : Int) ≤ 8 := by omega
              have HID := Lib.hid hkd
              rw [hkd]
              have mp := M.ptr hO2
              have KS := M.stateC hO2 (t : Int)
              obtain ⟨z, hz⟩ : ∃ z, state st2.seats (t : Int) = z := ⟨_, rfl⟩
              rw [hz] at KS
              have HKS := Lib.hid KS
              have HZ := Lib.hid hz
              obtain ⟨g3, f3, hoth, hr3⟩ := HR2.out.next HI2.out (by omega) htn
              obtain ⟨stp, hstp⟩ : ∃ s, bpre st2 t = s := ⟨_, rfl⟩
              have hbp : stp = if state st2.seats (t : Int) = 2 then setS st2 (turn st2.seats (t : Int) 3).2 else st2 := hstp.symm
              rw [hz] at hbp
              have HBP := Lib.hid hbp
              have hbt : bturn hs.length c now st2 t = (Abort.step hs.length 0 c stp t t now).2 := by unfold bturn; rw [hstp]
              rw [hbt] at f3 hr3 hoth
              have HF3 := Lib.hid f3
              have HR3 := Lib.hid hr3
              have HOT := Lib.hid hoth
              clear KS hz hkd hid hbp hstp hbt f3 hr3 hoth
              go_wp2_with fail
              refine HKS.out.mono ?_
              rintro e w3 ⟨rfl, rfl⟩
              clear HKS
              go_upto_if 98 with (fail)
              go_cut [] from 99 to 104 (fun wx => (O l s lb pb cap q SQ c p SP hs.length (hh c hs) 0 wx b2 stp ∧ RR c (stp).pls ∧ (stp).seats.length = hs.length) ∧ Below w.heap.size w wx)
              case first =>
                by_cases hz2 : z = 2
                · subst hz2
                  have KL := M.unlockC hO2 (t : Int)
                  have HKL := Lib.hid KL
                  have E := HBP.out
                  rw [if_pos rfl] at E
                  have HE := Lib.hid E
                  clear KL E
                  go_wp2_with fail
                  refine HKL.out.mono ?_
                  rintro e w5 ⟨rfl, hO5, u5⟩
                  go_wp2_with fail
                  go_meet
                  case rel => exact ⟨by rw [HE.out]; exact hO5, u5.below hB2 hB2.size hft⟩
                · have hz2' : (z == 2) = false := by simpa using hz2
                  have E := HBP.out
                  rw [if_neg hz2] at E
                  have HE := Lib.hid E
                  clear E hz2
                  go_wp2_with fail
                  go_meet
                  case rel => exact ⟨by rw [HE.out]; exact hO2, hB2⟩
              case rest =>
                obtain ⟨hO5, hB5⟩ := hcut
                obtain ⟨w5, hw5⟩ : ∃ w5, wc = w5 := ⟨_, rfl⟩
                rw [hw5] at hO5 hB5 ⊢
                have KS := M.stepC hO5 (by omega) (t : Int) (t : Int) now
                obtain ⟨⟨d, st6⟩, hr⟩ : ∃ r, Abort.step hs.length 0 c stp t t now = r := ⟨_, rfl⟩
                rw [hr] at KS HF3 HR3 HOT
                have HKS := Lib.hid KS
                clear hw5 hO2 hB2 mp KS hr HBP HZ
                go_wp2_with fail
                refine HKS.out.mono ?_
                rintro e w6 ⟨rfl, hO6, u6⟩
                have hB6 := u6.below hB5 hB5.size hft
                have mp := M.ptr hO6
                have KT := M.stateC hO6 (t : Int)
                obtain ⟨z6, hz6⟩ : ∃ z, state st6.seats (t : Int) = z := ⟨_, rfl⟩
                rw [hz6] at KT
                have HKT := Lib.hid KT
                have hsn : SeatP.stt st6.seats t = z6 := by rw [← SeatP.state_nat]; exact hz6
                have hidn : idles st6 t = kd := by rw [← HID.out]; exact idles_same t (fun v hv => HOT.out v (by omega))
                have HIN := Lib.hid (show idles st6 (t + 1) = kd + if z6 = 0 then 1 else 0 by
                  show idles st6 t + (if SeatP.stt st6.seats t = 0 then 1 else 0) = _
                  rw [hidn, hsn])
                clear KT hz6 hsn hidn HKS u6 hO5 hB5 HOT HID
                by_cases hz0 : z6 = 0
                · subst hz0
                  have hkw : IntKind.i64.wrap ((kd : Int) + 1) = (kd : Int) + 1 := IntWalk.i64_in _ (by omega)
                  have HE : Hid (idles st6 (t + 1) = kd + 1) := Lib.hid (by have := HIN.out; rw [if_pos (show (0 : Int) = 0 from rfl)] at this; exact this)
                  go_wp2_with fail
                  refine HKT.out.mono ?_
                  rintro e w7 ⟨rfl, rfl⟩
                  go_wp2_with fail
                  go_roundw
                  case rel => exact ⟨t + 1, by omega, by go_num, b2 + 1, st6, g3, by rw [HE.out]; push_cast; rfl, by omega, hO6, HF3, HR3, hB6⟩
                  case measure => simp [intOf]; omega
                · have hz0' : (z6 == 0) = false := by simpa using hz0
                  have E := HIN.out
                  rw [if_neg hz0] at E
                  have HE := Lib.hid E
                  clear hz0 E
                  go_wp2_with fail
                  refine HKT.out.mono ?_
                  rintro e w7 ⟨rfl, rfl⟩
                  go_wp2_with fail
                  go_roundw
                  case rel => exact ⟨t + 1, by omega, by go_num, b2 + 1, st6, g3, by rw [HE.out]; rfl, by omega, hO6, HF3, HR3, hB6⟩
                  case measure => simp [intOf]; omega
            · obtain rfl : t = hs.length := by omega
              by_cases hall : idles st2 hs.length = hs.length
              · rw [hall]
                have hz := idles_all st2 hs.length hall
                obtain ⟨hT0, hU0⟩ := AbortT.back HI2.out hz
                have f := HI2.out
                have hsl := hO2.2.2
                have hwl : (st2.ws.length : Int) = 0 + 1 + 3 * ((st2.seats.length * c : Nat) : Int) := by rw [hsl]; have := AbortP.wlen f.wl; omega
                have hw40 : st2.ws.length ≤ 4096 := by
                  rw [f.wl]
                  have : hs.length * (3 * c) ≤ 8 * 24 := Nat.mul_le_mul n8 (by omega)
                  omega
                have hw1 : 0 < st2.ws.length := by rw [f.wl]; omega
                have HOUT := Lib.hid (fun (w9 : World) (hO9 : (O l s lb pb cap q SQ c p SP hs.length (hh c hs) 0 w9 b2 st2 ∧ RR c (st2).pls ∧ (st2).seats.length = hs.length)) (t : Nat) (ht : t < hs.length) => (outC hO9.1 hwl hw40 t (by rw [hsl]; exact ht)).mono (fun e w' h => (⟨by rw [h.1, cnt0 _ _ _ hU0], h.2⟩ : e = .returned (.int .i64 0) ∧ Below w9.heap.size w9 w')))
                have HST := Lib.hid (fun (w9 : World) (hO9 : (O l s lb pb cap q SQ c p SP hs.length (hh c hs) 0 w9 b2 st2 ∧ RR c (st2).pls ∧ (st2).seats.length = hs.length)) (t : Nat) (ht : t < hs.length) => (M.stateC hO9 (t : Int)).mono (fun e w' h => (⟨by rw [h.1, SeatP.state_nat, hz t ht], h.2⟩ : e = .returned (.int .i64 0) ∧ w9 = w')))
                obtain ⟨⟨m, cc, cb, S1, S2, hp⟩, hpl⟩ := hO2.1.port
                have KW := Mem.wordsO _ _ _ _ _ hp.mem hw40
                have t0 := hp.top.cell (i := 0) rfl
                have HKW := Lib.hid KW
                have hwl1 : (0 : Int) < (st2.ws.length : Int) := by omega
                have hwl2 : ((st2.ws.length : Int) == 0) = false := by rw [beq_eq_false_iff_ne]; omega
                have g0 : st2.ws.getD 0 0 = 0 := by rw [← Mem.get_in (k := 0) (a := 0) rfl (by simp [Mem.inB]; omega)]; exact hT0
                clear hz hT0 hU0 f hwl hall hp hpl KW HR2 HI2 HP1 HI1
                go_wp2_with fail
                refine HKW.out.mono ?_
                rintro e w6 ⟨rfl, hrw, hB6⟩
                have hO6 := M.keep hO2 (Upd.of_below (S := fun _ => False) hB6) (fun _ _ => id)
                have hB7 := hB2.trans (hB6.mono hB2.size)
                have cw := hrw.cell (ints_get (k := .u32) (i := 0) (xs := st2.ws) hw1)
                rw [g0] at cw
                clear hrw hB6 HKW hO2 hB2 t0 g0
                go_wp2_with fail
                go_loopw [141] (fun i wr => ∃ t : Nat, t ≤ hs.length ∧ i = .int .i64 t ∧ (O l s lb pb cap q SQ c p SP hs.length (hh c hs) 0 wr b2 st2 ∧ RR c (st2).pls ∧ (st2).seats.length = hs.length) ∧ Below w.heap.size w wr) (fun i _ => hs.length - (intOf i).toNat)
                case atStart => exact ⟨0, Nat.zero_le _, rfl, hO6, hB7⟩
                case round =>
                  obtain ⟨t, ht, rfl, hO9, hB9⟩ := hrel
                  clear hO6 hB7 cw
                  by_cases hlt : t < hs.length
                  · have hlt' : (t : Int) < (hs.length : Int) := by omega
                    have mp := M.ptr hO9
                    have HK := Lib.hid (HOUT.out wr hO9 t hlt)
                    have HS := Lib.hid (HST.out wr hO9 t hlt)
                    go_wp2_with fail
                    refine HS.out.mono ?_
                    rintro e w7 ⟨rfl, rfl⟩
                    go_wp2_with fail
                    refine HK.out.mono ?_
                    rintro e w6 ⟨rfl, u6⟩
                    go_wp2_with fail
                    go_roundw
                    case rel => exact ⟨t + 1, by omega, by go_num, M.keep hO9 (Upd.of_below (S := fun _ => False) u6) (fun _ _ => id), hB9.trans (u6.mono hB9.size)⟩
                    case measure => simp [intOf]; omega
                  · obtain rfl : t = hs.length := by omega
                    go_wp2_with fail
                    refine (awake _).mono ?_
                    rintro e w6 ⟨rfl, u6⟩
                    go_wp2_with fail
                    go_ret
                    exact ⟨rfl, hB9.trans (u6.mono hB9.size)⟩
              · have hlt := HR2.out.end (idles_not st2 hs.length hall)
                have HP2 := Lib.hid (show Ph hs.length st2 g2 + (j + 1) < 2000 by have := HP1.out; omega)
                have hne : (((idles st2 hs.length : Nat) : Int) == (hs.length : Int)) = false := by simp; omega
                obtain ⟨kd, hkd⟩ : ∃ k, idles st2 hs.length = k := ⟨_, rfl⟩
                rw [hkd] at hne ⊢
                clear hlt hall hkd HP1 HR2
                go_wp2_with fail
                go_roundw
                case rel => exact ⟨j + 1, by omega, by go_num, b2, st2, g2, by omega, hO2, HI2, HP2, hB2⟩
                case measure => simp [intOf]; omega
end Go.Proofs.Ytlkpfdboagjaoaa.WalkAbortBack
