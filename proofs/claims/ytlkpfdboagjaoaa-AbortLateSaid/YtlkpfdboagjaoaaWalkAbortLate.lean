/- The law AbortLate, walked. -/
import Derived.Test.YtlkpfdboagjaoaaLaw14
import Derived.Test.YtlkpfdboagjaoaaAbortJ
import Derived.Test.YtlkpfdboagjaoaaOps10
import Derived.Deep.DeepMust
namespace Go.Proofs.Ytlkpfdboagjaoaa.WalkAbortLate
open Go Go.RowKit Go.Proofs.Ytlkpfdboagjaoaa.Heap Go.Proofs.Ytlkpfdboagjaoaa.Open Go.Proofs.Ytlkpfdboagjaoaa.Seat Go.Proofs.Ytlkpfdboagjaoaa.Mach Go.Proofs.Ytlkpfdboagjaoaa.Has Go.Proofs.Ytlkpfdboagjaoaa.Lk Go.Proofs.Ytlkpfdboagjaoaa.StepU Go.Proofs.Ytlkpfdboagjaoaa.Abort Go.Proofs.Ytlkpfdboagjaoaa.Law14

/-- Where the loop stands. -/
structure Lp (w wr : World) (l s lb pb cap q : Nat) (SQ : Nat → Prop) (c p : Nat) (SP : Nat → Prop) (hs : List Int) (B b : Nat) (st : St) (now : Int) (dls : List Int) (Q : Nat) (j : Nat) : Prop where
  obj : O l s lb pb cap q SQ c p SP hs.length (hh c hs) 0 wr b st ∧ RR c st.pls ∧ st.seats.length = hs.length
  few : b ≤ j
  keeps : JT hs.length st now dls
  now0 : 0 ≤ now ∧ now ≤ 1000 * j
  arr : Row wr Q (ints .i64 dls)
  bel : Below w.heap.size w wr
  big : B ≤ wr.heap.size
set_option maxHeartbeats 16000000 in
set_option maxRecDepth 20000 in
theorem walk (v : Value) (hs : List Int) (n : Int) (v2 : Value) (xs : List (List Int)) (w : World) (h0 : Src1 w v .i64 hs) (h2 : I64s w v2 4 xs) :
    Calls Try.prog 4 #[v, .int .i64 n, v2] w fun e w' => e = .returned (.bool true) ∧ Below w.heap.size w w' := by
  have h2k := h2
  obtain ⟨⟨ao, ocap, rfl, hlc, -, -⟩, -⟩ := h2
  have KF := fine w v hs h0 ao xs.length ocap
  by_cases hbad : fineB hs xs.length = false ∨ n < 1 ∨ 8 < n
  · obtain ⟨a, cv, rfl, -, -⟩ := h0
    clear h2k
    cases hf : fineB hs xs.length with
    | false =>
      rw [hf] at KF
      have HF := Lib.hid KF
      clear KF hf hbad
      go_enter Try.func4, Try.ntmps4
      go_wp2_with fail
      refine HF.out.mono ?_
      rintro e w' ⟨rfl, rfl⟩
      go_wp2_with fail
      refine (awake _).mono ?_
      rintro e w4 ⟨rfl, u4⟩
      go_wp2_with fail
      go_ret
      exact ⟨rfl, u4⟩
    | true =>
      rw [hf] at KF hbad
      have HF := Lib.hid KF
      by_cases e1 : n < 1
      · clear KF hf hbad
        go_enter Try.func4, Try.ntmps4
        go_wp2_with fail
        refine HF.out.mono ?_
        rintro e w' ⟨rfl, rfl⟩
        go_wp2_with fail
        refine (awake _).mono ?_
        rintro e w4 ⟨rfl, u4⟩
        go_wp2_with fail
        go_ret
        exact ⟨rfl, u4⟩
      · have e1' : decide (n < 1) = false := by simpa using e1
        have e2 : 8 < n := by rcases hbad with h | h | h; exact absurd h (by decide); exact absurd h e1; exact h
        clear KF hf hbad
        go_enter Try.func4, Try.ntmps4
        go_wp2_with fail
        refine HF.out.mono ?_
        rintro e w' ⟨rfl, rfl⟩
        go_wp2_with fail
        refine (awake _).mono ?_
        rintro e w4 ⟨rfl, u4⟩
        go_wp2_with fail
        go_ret
        exact ⟨rfl, u4⟩
  · have hf : fineB hs xs.length = true := by cases h : fineB hs xs.length with | true => rfl | false => exact absurd (.inl h) hbad
    rw [hf] at KF
    obtain ⟨n1, n8, hok, hl⟩ := fineB_true hf
    have d1 : 1 ≤ n := by omega
    have d2 : n ≤ 8 := by omega
    obtain ⟨c, rfl⟩ : ∃ c : Nat, (c : Int) = n := ⟨n.toNat, by omega⟩
    have HF := Lib.hid KF
    have HOPS := Lib.hid h2k
    have KM := madeC w v hs c h0 n1 (by omega) hok (by omega) (by omega)
    have HKM := Lib.hid KM
    obtain ⟨⟨_, _, hv2, -, -, hcells⟩, hwf⟩ := h2k
    simp at hv2
    obtain ⟨rfl, rfl⟩ := hv2
    clear KF hf KM hbad
    obtain ⟨a, cv, rfl, -, hcell⟩ := h0
    clear hcell
    go_enter Try.func4, Try.ntmps4
    go_wp2_with fail
    refine HF.out.mono ?_
    rintro e w' ⟨rfl, rfl⟩
    go_wp2_with fail
    refine HKM.out.mono ?_
    rintro e w4 ⟨l, s, lb, pb, cap, q, SQ, p, SP, rfl, hM⟩
    obtain ⟨Q, hQ⟩ : ∃ Q, w4.heap.size = Q := ⟨_, rfl⟩
    have M := mach (l := l) (s := s) (lb := lb) (pb := pb) (cap := cap) (q := q) (SQ := SQ) (c := c) (p := p) (SP := SP) (k := hs.length) (hs := hh c hs) (tl := 0) hs.length
    have hft := hM.ge
    have hfQ : ∀ i, ft l s lb pb SP SQ i → i < Q := fun i hi => by rw [← hQ]; exact hM.obj.lt i hi
    have hwQ : w.heap.size ≤ Q := by rw [← hQ]; exact hM.bel.size
    have hRA : Row (w4.alloc (.cells #[.int .i64 0, .int .i64 0, .int .i64 0, .int .i64 0, .int .i64 0, .int .i64 0, .int .i64 0, .int .i64 0] 45)) Q (ints .i64 (List.replicate 8 0)) := by rw [← hQ]; exact Row.new' rfl
    have hLp : Lp w (w4.alloc (.cells #[.int .i64 0, .int .i64 0, .int .i64 0, .int .i64 0, .int .i64 0, .int .i64 0, .int .i64 0, .int .i64 0] 45)) l s lb pb cap q SQ c p SP hs (Q + 1) 0 (st0 hs.length (wz c hs.length)) 0 (List.replicate 8 0) Q 0 :=
      ⟨M.keep ⟨hM.obj, zeros_rr _ (by omega), by simp [st0]⟩ ((Upd.refl (fun _ => False) w4).alloc _) (fun _ _ => id), Nat.le_refl _, startT _ n8 _, by omega, hRA, hM.bel.alloc hM.bel.size _, by simp; omega⟩
    have hl150 : (xs.length : Int) ≤ 150 := by omega
    have HQ := Lib.hid hQ
    clear hM HKM HF hRA hQ
    go_upto_region 8 with (fail)
    rw [HQ.out]
    obtain ⟨w5, hw5⟩ : ∃ w5, w4.alloc (.cells #[.int .i64 0, .int .i64 0, .int .i64 0, .int .i64 0, .int .i64 0, .int .i64 0, .int .i64 0, .int .i64 0] 45) = w5 := ⟨_, rfl⟩
    rw [hw5] at hLp ⊢
    clear hw5
    go_wp2_with fail
    go_loopw [9, 41] (fun s9 i wr => ∃ j : Nat, j ≤ xs.length ∧ i = .int .i64 j ∧ ∃ b st now dls, s9 = .int .i64 now ∧ Lp w wr l s lb pb cap q SQ c p SP hs (Q + 1) b st now dls Q j) (fun _ i _ => xs.length - (intOf i).toNat)
    case atStart => exact ⟨0, Nat.zero_le _, rfl, 0, _, 0, _, rfl, hLp⟩
    case round =>
      clear hLp
      obtain ⟨j, hj, rfl, b, st, now, dls, rfl, hL⟩ := hrel
      by_cases hlt : j < xs.length
      · obtain ⟨bo, off, rfl, hbw, hcell⟩ := hcells (by omega)
        have hy := hwf (xs.getD j []) (by rw [getD_lt _ _ _ hlt]; exact List.getElem_mem hlt)
        obtain ⟨y, hyy⟩ : ∃ y, xs.getD j [] = y := ⟨_, rfl⟩
        rw [hyy] at hy
        obtain ⟨hy3, hyw⟩ := hy
        match y, hy3 with
        | [k, t, N, lt], _ =>
          have hB := hL.bel
          have c0 := (hB.cell (p := ⟨bo, off + j * 4, none⟩) hbw).trans (hcell j hlt 0 (.int .i64 k) (by decide) (by rw [hyy]; rfl))
          have c1 := (hB.cell (p := ⟨bo, off + j * 4 + 1, none⟩) hbw).trans (hcell j hlt 1 (.int .i64 t) (by decide) (by rw [hyy]; rfl))
          have c2 := (hB.cell (p := ⟨bo, off + j * 4 + 2, none⟩) hbw).trans (hcell j hlt 2 (.int .i64 N) (by decide) (by rw [hyy]; rfl))
          have c3 := (hB.cell (p := ⟨bo, off + j * 4 + 3, none⟩) hbw).trans (hcell j hlt 3 (.int .i64 lt) (by decide) (by rw [hyy]; rfl))
          have hO2 := M.keep hL.obj ((Upd.refl (fun _ => False) wr).alloc (.cells #[.int .i64 k, .int .i64 t, .int .i64 N, .int .i64 lt] 47)) (fun _ _ => id)
          have hB2 := hB.alloc hB.size (.cells #[.int .i64 k, .int .i64 t, .int .i64 N, .int .i64 lt] 47)
          have hR : Row (wr.alloc (.cells #[.int .i64 k, .int .i64 t, .int .i64 N, .int .i64 lt] 47)) wr.heap.size [.int .i64 k, .int .i64 t, .int .i64 N, .int .i64 lt] := Row.new' rfl
          have hArr := hL.arr.alloc (.cells #[.int .i64 k, .int .i64 t, .int .i64 N, .int .i64 lt] 47)
          have hBM := hL.big
          have hJ := hL.keeps
          have hfew := hL.few
          obtain ⟨hnow0, hnow1⟩ := hL.now0
          clear hyy hcell hyw hL hB
          have hlt' : (j : Int) < (xs.length : Int) := by omega
          go_upto_block 2 with (fail)
          obtain ⟨z1, hz1⟩ : ∃ z, (if lt < 0 then 0 else lt) = z := ⟨_, rfl⟩
          rw [hz1]
          have z10 : 0 ≤ z1 := by rw [← hz1]; split <;> omega
          obtain ⟨z2, hz2⟩ : ∃ z, (if 1000 < z1 then 1000 else z1) = z := ⟨_, rfl⟩
          rw [hz2]
          have z20 : 0 ≤ z2 ∧ z2 ≤ 1000 := by rw [← hz2]; split <;> omega
          obtain ⟨now', hnw⟩ : ∃ z, now + z2 = z := ⟨_, rfl⟩
          have hnw0 : now ≤ now' ∧ now' ≤ now + 1000 := by omega
          rw [hnw]
          have HNW := Lib.hid (show 0 ≤ now' ∧ now' ≤ 1000 * ((j + 1 : Nat) : Int) by push_cast; omega)
          have hJ := hJ.later hnw0.1
          clear hnw hnow1 hnow0 hz1 hz2 z10 z20 hnw0
          have hzr : Q + 1 ≤ (wr.alloc (.cells #[.int .i64 k, .int .i64 t, .int .i64 N, .int .i64 lt] 47)).heap.size := by simp; omega
          obtain ⟨W2, hW2⟩ : ∃ W, wr.alloc (.cells #[.int .i64 k, .int .i64 t, .int .i64 N, .int .i64 lt] 47) = W := ⟨_, rfl⟩
          obtain ⟨A, hA⟩ : ∃ A, wr.heap.size = A := ⟨_, rfl⟩
          rw [hW2] at hO2 hB2 hR hArr hzr ⊢
          rw [hA] at hR hBM ⊢
          clear hW2 hA c0 c1 c2 c3
          have hAf : ∀ i, ft l s lb pb SP SQ i → i ≠ A := fun i hi e => by have := hfQ i hi; omega
          have hQf : ∀ i, ft l s lb pb SP SQ i → i ≠ Q := fun i hi e => by have := hfQ i hi; omega
          have HJ := Lib.hid hJ
          have dl8 := hJ.dl
          clear hJ
          have p0 := hR.cell (i := 0) rfl
          have p1 := hR.cell (i := 1) rfl
          have p2 := hR.cell (i := 2) rfl
          have mp := M.ptr hO2
          by_cases e1 : k = 1
          · subst e1
            have KL := M.lockC (M.keep hO2 ((Upd.refl (fun _ => False) W2).drewN 1) (fun _ _ => id)) t N
            have hA2 := hArr.drewN 1
            rcases HJ.out.lock t N with ⟨hne, hJ'⟩ | ⟨u, rfl, hu8, he0, hJ'⟩
            · obtain ⟨er, her⟩ : ∃ er, (Seat.lock st.seats true t N).1 = er := ⟨_, rfl⟩
              rw [her] at KL hne
              have hne' : (er == 0) = false := by simpa using hne
              have HKL := Lib.hid KL
              have HJ' := Lib.hid hJ'
              clear KL hJ' her
              go_wp2_with fail
              refine wp_region_held_drew (S := fun w' => w'.cell? ⟨l, 0, none⟩ = some (.pointer (some ⟨s, 0, none⟩)) ∧ w'.cell? ⟨A, 1, none⟩ = some (.int .i64 t) ∧ w'.cell? ⟨A, 2, none⟩ = some (.int .i64 N)) (by kernel_rfl) ⟨mp, p1, p2⟩ (fun hHeld => ?_)
              refine wpAnyH_take (i := 0) (v := ?_) rfl (by kernel_rfl) (by kernel_rfl) (by kernel_rfl) (fun _ _ _ h => h) (Or.inl ⟨by rfl, ?_⟩) hHeld ?_
              rotate_left
              · (intro w' hSw; (try dsimp only at hSw); go_simp) <;> with_reducible rfl
              change wpAnyH _ _ _ _ _ _ _ (Act.put _ (some 55) _) _
              try simp only [Act.put, List.setIfInBounds_toArray, List.set_cons_zero, List.set_cons_succ]
              refine wpAnyH_take (i := 1) (v := ?_) rfl (by kernel_rfl) (by kernel_rfl) (by kernel_rfl) (fun _ _ _ h => h) (Or.inl ⟨by rfl, ?_⟩) hHeld ?_
              rotate_left
              · (intro w' hSw; (try dsimp only at hSw); go_simp) <;> with_reducible rfl
              change wpAnyH _ _ _ _ _ _ _ (Act.put _ (some 56) _) _
              try simp only [Act.put, List.setIfInBounds_toArray, List.set_cons_zero, List.set_cons_succ]
              refine wpAnyH_take (i := 2) (v := ?_) rfl (by kernel_rfl) (by kernel_rfl) (by kernel_rfl) (fun _ _ _ h => h) (Or.inl ⟨by rfl, ?_⟩) hHeld ?_
              rotate_left
              · (intro w' hSw; (try dsimp only at hSw); go_simp) <;> with_reducible rfl
              change wpAnyH _ _ _ _ _ _ _ (Act.put _ (some 57) _) _
              try simp only [Act.put, List.setIfInBounds_toArray, List.set_cons_zero, List.set_cons_succ]
              refine wpAnyH_take (i := 3) (v := ?_) rfl (by kernel_rfl) (by kernel_rfl) (by kernel_rfl) (fun _ _ _ h => h) (Or.inl ⟨by rfl, ?_⟩) hHeld ?_
              rotate_left
              · (intro w' hSw; (try dsimp only at hSw); go_simp) <;> with_reducible rfl
              change wpAnyH _ _ _ _ _ _ _ (Act.put _ (some 58) _) _
              try simp only [Act.put, List.setIfInBounds_toArray, List.set_cons_zero, List.set_cons_succ]
              refine wpAnyH_take (i := 4) (v := ?_) rfl (by kernel_rfl) (by kernel_rfl) (by kernel_rfl) (fun _ _ _ h => h) (Or.inl ⟨by rfl, ?_⟩) hHeld ?_
              rotate_left
              · (intro w' hSw; (try dsimp only at hSw); go_simp) <;> with_reducible rfl
              change wpAnyH _ _ _ _ _ _ _ (Act.put _ (some 59) _) _
              try simp only [Act.put, List.setIfInBounds_toArray, List.set_cons_zero, List.set_cons_succ]
              refine wpAnyH_take (i := 5) (v := ?_) rfl (by kernel_rfl) (by kernel_rfl) (by kernel_rfl) (fun _ _ _ h => h) (Or.inl ⟨by rfl, ?_⟩) hHeld ?_
              rotate_left
              · (intro w' hSw; (try dsimp only at hSw); go_simp) <;> with_reducible rfl
              change wpAnyH _ _ _ _ _ _ _ (Act.put _ (some 60) _) _
              try simp only [Act.put, List.setIfInBounds_toArray, List.set_cons_zero, List.set_cons_succ]
              refine wpAnyH_take (i := 6) (v := ?_) rfl (by kernel_rfl) (by kernel_rfl) (by kernel_rfl) (fun _ _ _ h => h) (Or.inl ⟨by rfl, ?_⟩) hHeld ?_
              rotate_left
              · (intro w' hSw; (try dsimp only at hSw); go_simp) <;> with_reducible rfl
              change wpAnyH _ _ _ _ _ _ _ (Act.put _ (some 61) _) _
              try simp only [Act.put, List.setIfInBounds_toArray, List.set_cons_zero, List.set_cons_succ]
              refine wpAnyH_take (i := 7) (v := ?_) rfl (by kernel_rfl) (by kernel_rfl) (by kernel_rfl) (fun _ _ _ h => h) (Or.inl ⟨by rfl, ?_⟩) hHeld ?_
              rotate_left
              · (intro w' hSw; (try dsimp only at hSw); go_simp) <;> with_reducible rfl
              change wpAnyH _ _ _ _ _ _ _ (Act.put _ (some 62) _) _
              try simp only [Act.put, List.setIfInBounds_toArray, List.set_cons_zero, List.set_cons_succ]
              refine wpAnyH_ready (rs := [8]) (by kernel_rfl) (by simp) ?_
              refine AllReadyH.cons rfl (fun K hK => ?_) AllReadyH.nil
              go_simp
              refine HKL.out.mono ?_
              rintro e w5 ⟨rfl, hO5, u5⟩
              have q1 := M.ptr hO5
              have q2 := cell_upd u5 p1 (fun h => hAf _ h rfl)
              have q3 := cell_upd u5 p2 (fun h => hAf _ h rfl)
              simp only []
              refine hK.out _ _ ⟨q1, q2, q3⟩ (fun hHeld => ?_)
              clear hK K
              try simp only [Act.put, List.setIfInBounds_toArray, List.set_cons_zero, List.set_cons_succ]
              refine wpAnyH_take (i := 9) (v := ?_) rfl (by kernel_rfl) (by kernel_rfl) (by kernel_rfl) (fun _ _ _ h => h) (Or.inl ⟨by rfl, ?_⟩) hHeld ?_
              rotate_left
              · (intro w' hSw; (try dsimp only at hSw); go_simp) <;> with_reducible rfl
              change wpAnyH _ _ _ _ _ _ _ (Act.put _ (some 64) _) _
              try simp only [Act.put, List.setIfInBounds_toArray, List.set_cons_zero, List.set_cons_succ]
              refine wpAnyH_take (i := 10) (v := ?_) rfl (by kernel_rfl) (by kernel_rfl) (by kernel_rfl) (fun _ _ _ h => h) (Or.inl ⟨by rfl, ?_⟩) hHeld ?_
              rotate_left
              · (intro w' hSw; (try dsimp only at hSw); go_simp) <;> with_reducible rfl
              change wpAnyH _ _ _ _ _ _ _ (Act.put _ (some 65) _) _
              try simp only [Act.put, List.setIfInBounds_toArray, List.set_cons_zero, List.set_cons_succ]
              refine wpAnyH_take (i := 11) (v := undef) rfl (by kernel_rfl) (by kernel_rfl) (by kernel_rfl) (fun _ _ _ h => h) (Or.inr ⟨by kernel_rfl, rfl⟩) hHeld ?_
              change wpAnyH _ _ _ _ _ _ _ (Act.put _ (some 66) _) _
              try simp only [Act.put, List.setIfInBounds_toArray, List.set_cons_zero, List.set_cons_succ]
              refine wpAnyH_take (i := 12) (v := undef) rfl (by kernel_rfl) (by kernel_rfl) (by kernel_rfl) (fun _ _ _ h => h) (Or.inr ⟨by kernel_rfl, rfl⟩) hHeld ?_
              change wpAnyH _ _ _ _ _ _ _ (Act.put _ (some 67) _) _
              try simp only [Act.put, List.setIfInBounds_toArray, List.set_cons_zero, List.set_cons_succ]
              refine wpAnyH_take (i := 13) (v := undef) rfl (by kernel_rfl) (by kernel_rfl) (by kernel_rfl) (fun _ _ _ h => h) (Or.inr ⟨by kernel_rfl, rfl⟩) hHeld ?_
              change wpAnyH _ _ _ _ _ _ _ (Act.put _ (some 68) _) _
              try simp only [Act.put, List.setIfInBounds_toArray, List.set_cons_zero, List.set_cons_succ]
              refine wpAnyH_take (i := 14) (v := ?_) rfl (by kernel_rfl) (by kernel_rfl) (by kernel_rfl) (fun _ _ _ h => h) (Or.inl ⟨by rfl, ?_⟩) hHeld ?_
              rotate_left
              · (intro w' hSw; (try dsimp only at hSw); go_simp) <;> with_reducible rfl
              change wpAnyH _ _ _ _ _ _ _ (Act.put _ (some 69) _) _
              try simp only [Act.put, List.setIfInBounds_toArray, List.set_cons_zero, List.set_cons_succ]
              refine wpAnyH_take (i := 15) (v := ?_) rfl (by kernel_rfl) (by kernel_rfl) (by kernel_rfl) (fun _ _ _ h => h) (Or.inl ⟨by rfl, ?_⟩) hHeld ?_
              rotate_left
              · (intro w' hSw; (try dsimp only at hSw); go_simp) <;> with_reducible rfl
              change wpAnyH _ _ _ _ _ _ _ (Act.put _ (some 70) _) _
              try simp only [Act.put, List.setIfInBounds_toArray, List.set_cons_zero, List.set_cons_succ]
              refine wpAnyH_take (i := 16) (v := undef) rfl (by kernel_rfl) (by kernel_rfl) (by kernel_rfl) (fun _ _ _ h => h) (Or.inr ⟨by kernel_rfl, rfl⟩) hHeld ?_
              change wpAnyH _ _ _ _ _ _ _ (Act.put _ (some 71) _) _
              try simp only [Act.put, List.setIfInBounds_toArray, List.set_cons_zero, List.set_cons_succ]
              refine wpAnyH_take (i := 17) (v := undef) rfl (by kernel_rfl) (by kernel_rfl) (by kernel_rfl) (fun _ _ _ h => h) (Or.inr ⟨by kernel_rfl, rfl⟩) hHeld ?_
              change wpAnyH _ _ _ _ _ _ _ (Act.put _ (some 72) _) _
              try simp only [Act.put, List.setIfInBounds_toArray, List.set_cons_zero, List.set_cons_succ]
              refine wpAnyH_take (i := 18) (v := undef) rfl (by kernel_rfl) (by kernel_rfl) (by kernel_rfl) (fun _ _ _ h => h) (Or.inr ⟨by kernel_rfl, rfl⟩) hHeld ?_
              change wpAnyH _ _ _ _ _ _ _ (Act.put _ (some 73) _) _
              try simp only [Act.put, List.setIfInBounds_toArray, List.set_cons_zero, List.set_cons_succ]
              refine wpAnyH_take (i := 19) (v := ?_) rfl (by kernel_rfl) (by kernel_rfl) (by kernel_rfl) (fun _ _ _ h => h) (Or.inl ⟨by rfl, ?_⟩) hHeld ?_
              rotate_left
              · (intro w' hSw; (try dsimp only at hSw); go_simp) <;> with_reducible rfl
              change wpAnyH _ _ _ _ _ _ _ (Act.put _ (some 74) _) _
              try simp only [Act.put, List.setIfInBounds_toArray, List.set_cons_zero, List.set_cons_succ]
              refine wpAnyH_done (by kernel_rfl) ?_ _
              go_wp2_with fail
              have z5 : W2.heap.size ≤ w5.heap.size := u5.size
              go_roundw
              case rel => exact ⟨j + 1, by omega, by go_num, b, _, now', dls, rfl, ⟨hO5, by omega, HJ'.out, HNW.out, hA2.upd u5 (fun h => hQf _ h rfl), u5.below (below_drewN hB2 1) hB2.size hft, by omega⟩⟩
              case measure => simp [intOf]; omega
            · rw [he0] at KL
              have HKL := Lib.hid KL
              have HJ' := Lib.hid hJ'
              have hu0 : (0 : Int) ≤ (u : Int) := by omega
              have hu8' : (u : Int) < 8 := by omega
              clear KL hJ'
              go_wp2_with fail
              refine wp_region_held_drew (S := fun w' => w'.cell? ⟨l, 0, none⟩ = some (.pointer (some ⟨s, 0, none⟩)) ∧ w'.cell? ⟨A, 1, none⟩ = some (.int .i64 u) ∧ w'.cell? ⟨A, 2, none⟩ = some (.int .i64 N)) (by kernel_rfl) ⟨mp, p1, p2⟩ (fun hHeld => ?_)
              refine wpAnyH_take (i := 0) (v := ?_) rfl (by kernel_rfl) (by kernel_rfl) (by kernel_rfl) (fun _ _ _ h => h) (Or.inl ⟨by rfl, ?_⟩) hHeld ?_
              rotate_left
              · (intro w' hSw; (try dsimp only at hSw); go_simp) <;> with_reducible rfl
              change wpAnyH _ _ _ _ _ _ _ (Act.put _ (some 55) _) _
              try simp only [Act.put, List.setIfInBounds_toArray, List.set_cons_zero, List.set_cons_succ]
              refine wpAnyH_take (i := 1) (v := ?_) rfl (by kernel_rfl) (by kernel_rfl) (by kernel_rfl) (fun _ _ _ h => h) (Or.inl ⟨by rfl, ?_⟩) hHeld ?_
              rotate_left
              · (intro w' hSw; (try dsimp only at hSw); go_simp) <;> with_reducible rfl
              change wpAnyH _ _ _ _ _ _ _ (Act.put _ (some 56) _) _
              try simp only [Act.put, List.setIfInBounds_toArray, List.set_cons_zero, List.set_cons_succ]
              refine wpAnyH_take (i := 2) (v := ?_) rfl (by kernel_rfl) (by kernel_rfl) (by kernel_rfl) (fun _ _ _ h => h) (Or.inl ⟨by rfl, ?_⟩) hHeld ?_
              rotate_left
              · (intro w' hSw; (try dsimp only at hSw); go_simp) <;> with_reducible rfl
              change wpAnyH _ _ _ _ _ _ _ (Act.put _ (some 57) _) _
              try simp only [Act.put, List.setIfInBounds_toArray, List.set_cons_zero, List.set_cons_succ]
              refine wpAnyH_take (i := 3) (v := ?_) rfl (by kernel_rfl) (by kernel_rfl) (by kernel_rfl) (fun _ _ _ h => h) (Or.inl ⟨by rfl, ?_⟩) hHeld ?_
              rotate_left
              · (intro w' hSw; (try dsimp only at hSw); go_simp) <;> with_reducible rfl
              change wpAnyH _ _ _ _ _ _ _ (Act.put _ (some 58) _) _
              try simp only [Act.put, List.setIfInBounds_toArray, List.set_cons_zero, List.set_cons_succ]
              refine wpAnyH_take (i := 4) (v := ?_) rfl (by kernel_rfl) (by kernel_rfl) (by kernel_rfl) (fun _ _ _ h => h) (Or.inl ⟨by rfl, ?_⟩) hHeld ?_
              rotate_left
              · (intro w' hSw; (try dsimp only at hSw); go_simp) <;> with_reducible rfl
              change wpAnyH _ _ _ _ _ _ _ (Act.put _ (some 59) _) _
              try simp only [Act.put, List.setIfInBounds_toArray, List.set_cons_zero, List.set_cons_succ]
              refine wpAnyH_take (i := 5) (v := ?_) rfl (by kernel_rfl) (by kernel_rfl) (by kernel_rfl) (fun _ _ _ h => h) (Or.inl ⟨by rfl, ?_⟩) hHeld ?_
              rotate_left
              · (intro w' hSw; (try dsimp only at hSw); go_simp) <;> with_reducible rfl
              change wpAnyH _ _ _ _ _ _ _ (Act.put _ (some 60) _) _
              try simp only [Act.put, List.setIfInBounds_toArray, List.set_cons_zero, List.set_cons_succ]
              refine wpAnyH_take (i := 6) (v := ?_) rfl (by kernel_rfl) (by kernel_rfl) (by kernel_rfl) (fun _ _ _ h => h) (Or.inl ⟨by rfl, ?_⟩) hHeld ?_
              rotate_left
              · (intro w' hSw; (try dsimp only at hSw); go_simp) <;> with_reducible rfl
              change wpAnyH _ _ _ _ _ _ _ (Act.put _ (some 61) _) _
              try simp only [Act.put, List.setIfInBounds_toArray, List.set_cons_zero, List.set_cons_succ]
              refine wpAnyH_take (i := 7) (v := ?_) rfl (by kernel_rfl) (by kernel_rfl) (by kernel_rfl) (fun _ _ _ h => h) (Or.inl ⟨by rfl, ?_⟩) hHeld ?_
              rotate_left
              · (intro w' hSw; (try dsimp only at hSw); go_simp) <;> with_reducible rfl
              change wpAnyH _ _ _ _ _ _ _ (Act.put _ (some 62) _) _
              try simp only [Act.put, List.setIfInBounds_toArray, List.set_cons_zero, List.set_cons_succ]
              refine wpAnyH_ready (rs := [8]) (by kernel_rfl) (by simp) ?_
              refine AllReadyH.cons rfl (fun K hK => ?_) AllReadyH.nil
              go_simp
              refine HKL.out.mono ?_
              rintro e w5 ⟨rfl, hO5, u5⟩
              have q1 := M.ptr hO5
              have q2 := cell_upd u5 p1 (fun h => hAf _ h rfl)
              have q3 := cell_upd u5 p2 (fun h => hAf _ h rfl)
              simp only []
              refine hK.out _ _ ⟨q1, q2, q3⟩ (fun hHeld => ?_)
              clear hK K
              try simp only [Act.put, List.setIfInBounds_toArray, List.set_cons_zero, List.set_cons_succ]
              refine wpAnyH_take (i := 9) (v := ?_) rfl (by kernel_rfl) (by kernel_rfl) (by kernel_rfl) (fun _ _ _ h => h) (Or.inl ⟨by rfl, ?_⟩) hHeld ?_
              rotate_left
              · (intro w' hSw; (try dsimp only at hSw); go_simp) <;> with_reducible rfl
              change wpAnyH _ _ _ _ _ _ _ (Act.put _ (some 64) _) _
              try simp only [Act.put, List.setIfInBounds_toArray, List.set_cons_zero, List.set_cons_succ]
              refine wpAnyH_take (i := 10) (v := ?_) rfl (by kernel_rfl) (by kernel_rfl) (by kernel_rfl) (fun _ _ _ h => h) (Or.inl ⟨by rfl, ?_⟩) hHeld ?_
              rotate_left
              · (intro w' hSw; (try dsimp only at hSw); go_simp) <;> with_reducible rfl
              change wpAnyH _ _ _ _ _ _ _ (Act.put _ (some 65) _) _
              try simp only [Act.put, List.setIfInBounds_toArray, List.set_cons_zero, List.set_cons_succ]
              refine wpAnyH_take (i := 11) (v := ?_) rfl (by kernel_rfl) (by kernel_rfl) (by kernel_rfl) (fun _ _ _ h => h) (Or.inl ⟨by rfl, ?_⟩) hHeld ?_
              rotate_left
              · (intro w' hSw; (try dsimp only at hSw); go_simp) <;> with_reducible rfl
              change wpAnyH _ _ _ _ _ _ _ (Act.put _ (some 66) _) _
              try simp only [Act.put, List.setIfInBounds_toArray, List.set_cons_zero, List.set_cons_succ]
              refine wpAnyH_take (i := 12) (v := ?_) rfl (by kernel_rfl) (by kernel_rfl) (by kernel_rfl) (fun _ _ _ h => h) (Or.inl ⟨by rfl, ?_⟩) hHeld ?_
              rotate_left
              · (intro w' hSw; (try dsimp only at hSw); go_simp) <;> with_reducible rfl
              change wpAnyH _ _ _ _ _ _ _ (Act.put _ (some 67) _) _
              try simp only [Act.put, List.setIfInBounds_toArray, List.set_cons_zero, List.set_cons_succ]
              refine wpAnyH_take (i := 13) (v := ?_) rfl (by kernel_rfl) (by kernel_rfl) (by kernel_rfl) (fun _ _ _ h => h) (Or.inl ⟨by rfl, ?_⟩) hHeld ?_
              rotate_left
              · (intro w' hSw; (try dsimp only at hSw); go_simp) <;> with_reducible rfl
              change wpAnyH _ _ _ _ _ _ _ (Act.put _ (some 68) _) _
              try simp only [Act.put, List.setIfInBounds_toArray, List.set_cons_zero, List.set_cons_succ]
              refine wpAnyH_take (i := 14) (v := ?_) rfl (by kernel_rfl) (by kernel_rfl) (by kernel_rfl) (fun _ _ _ h => h) (Or.inl ⟨by rfl, ?_⟩) hHeld ?_
              rotate_left
              · (intro w' hSw; (try dsimp only at hSw); go_simp) <;> with_reducible rfl
              change wpAnyH _ _ _ _ _ _ _ (Act.put _ (some 69) _) _
              try simp only [Act.put, List.setIfInBounds_toArray, List.set_cons_zero, List.set_cons_succ]
              refine wpAnyH_take (i := 15) (v := ?_) rfl (by kernel_rfl) (by kernel_rfl) (by kernel_rfl) (fun _ _ _ h => h) (Or.inl ⟨by rfl, ?_⟩) hHeld ?_
              rotate_left
              · (intro w' hSw; (try dsimp only at hSw); go_simp) <;> with_reducible rfl
              change wpAnyH _ _ _ _ _ _ _ (Act.put _ (some 70) _) _
              try simp only [Act.put, List.setIfInBounds_toArray, List.set_cons_zero, List.set_cons_succ]
              refine wpAnyH_take (i := 16) (v := ?_) rfl (by kernel_rfl) (by kernel_rfl) (by kernel_rfl) (fun _ _ _ h => h) (Or.inl ⟨by rfl, ?_⟩) hHeld ?_
              rotate_left
              · (intro w' hSw; (try dsimp only at hSw); go_simp) <;> with_reducible rfl
              change wpAnyH _ _ _ _ _ _ _ (Act.put _ (some 71) _) _
              try simp only [Act.put, List.setIfInBounds_toArray, List.set_cons_zero, List.set_cons_succ]
              refine wpAnyH_take (i := 17) (v := ?_) rfl (by kernel_rfl) (by kernel_rfl) (by kernel_rfl) (fun _ _ _ h => h) (Or.inl ⟨by rfl, ?_⟩) hHeld ?_
              rotate_left
              · (intro w' hSw; (try dsimp only at hSw); go_simp) <;> with_reducible rfl
              change wpAnyH _ _ _ _ _ _ _ (Act.put _ (some 72) _) _
              try simp only [Act.put, List.setIfInBounds_toArray, List.set_cons_zero, List.set_cons_succ]
              refine wpAnyH_take (i := 18) (v := ?_) rfl (by kernel_rfl) (by kernel_rfl) (by kernel_rfl) (fun _ _ _ h => h) (Or.inl ⟨by rfl, ?_⟩) hHeld ?_
              rotate_left
              · (intro w' hSw; (try dsimp only at hSw); go_simp) <;> with_reducible rfl
              change wpAnyH _ _ _ _ _ _ _ (Act.put _ (some 73) _) _
              try simp only [Act.put, List.setIfInBounds_toArray, List.set_cons_zero, List.set_cons_succ]
              refine wpAnyH_take (i := 19) (v := ?_) rfl (by kernel_rfl) (by kernel_rfl) (by kernel_rfl) (fun _ _ _ h => h) (Or.inl ⟨by rfl, ?_⟩) hHeld ?_
              rotate_left
              · (intro w' hSw; (try dsimp only at hSw); go_simp) <;> with_reducible rfl
              change wpAnyH _ _ _ _ _ _ _ (Act.put _ (some 74) _) _
              try simp only [Act.put, List.setIfInBounds_toArray, List.set_cons_zero, List.set_cons_succ]
              refine wpAnyH_done (by kernel_rfl) ?_ _
              have A5 := hA2.upd u5 (fun h => hQf _ h rfl)
              have R5 := (hR.drewN 1).upd u5 (fun h => hAf _ h rfl)
              have a0 := A5.cell (i := u) (ints_get (by omega))
              have a1 := A5.frozen u
              have B5 := u5.below (below_drewN hB2 1) hB2.size hft
              have z5 : W2.heap.size ≤ w5.heap.size := u5.size
              go_wp2_with fail
              have A6 := A5.set u (.int .i64 N)
              have U6 := Upd.one w5 Q u (.int .i64 N)
              have z6 := U6.size
              go_roundw
              case rel => exact ⟨j + 1, by omega, by go_num, b, _, now', dls.set u N, rfl, ⟨M.keep hO5 U6 (fun i hi e => hQf i hi e), by omega, HJ'.out, HNW.out, by simpa [ints, List.map_set] using A6, U6.below B5 B5.size (fun i e => by omega), by omega⟩⟩
              case measure => simp [intOf]; omega
          have E1 : (k == 1) = false := by simpa using e1
          by_cases e2 : k = 2
          · subst e2
            have KL := M.unlockC (M.keep hO2 ((Upd.refl (fun _ => False) W2).drewN 1) (fun _ _ => id)) t
            have HKL := Lib.hid KL
            clear KL
            go_wp2_with fail
            go_region_held3 (fun w' => w'.cell? ⟨l, 0, none⟩ = some (.pointer (some ⟨s, 0, none⟩)) ∧ w'.cell? ⟨A, 1, none⟩ = some (.int .i64 t)) ((first | exact ⟨mp, p1⟩ | exact ⟨q1, q2⟩))
              ((first | (go_at_call 19; refine HKL.out.mono ?_; rintro e w5 ⟨rfl, hO5, u5⟩; have q1 := M.ptr hO5; have q2 := cell_upd u5 p1 (fun h => hAf _ h rfl))))
            go_wp2_with fail
            have z5 : W2.heap.size ≤ w5.heap.size := u5.size
            go_roundw
            case rel => exact ⟨j + 1, by omega, by go_num, b, _, now', dls, rfl, ⟨hO5, by omega, HJ.out.unlock t, HNW.out, (hArr.drewN 1).upd u5 (fun h => hQf _ h rfl), u5.below (below_drewN hB2 1) hB2.size hft, by omega⟩⟩
            case measure => simp [intOf]; omega
          have E2 : (k == 2) = false := by simpa using e2
          by_cases e4 : k = 4
          · subst e4
            have KL := M.stepC hO2 (by omega) t t now'
            obtain ⟨hJ', hcase⟩ := HJ.out.step (fun u hu => (hO2.1.at_.ok u (by rw [hO2.1.at_.l1, hO2.2.2]; exact hu)).1) t hs.length c 0 t
            obtain ⟨⟨d, st'⟩, es⟩ : ∃ r, Abort.step hs.length 0 c st t t now' = r := ⟨_, rfl⟩
            rw [es] at KL hJ' hcase
            have HKL := Lib.hid KL
            have HJ' := Lib.hid hJ'
            obtain ⟨ev, b1, b2, b3⟩ := d
            dsimp only at hcase
            clear KL hJ' es mp
            go_wp2_with fail
            refine HKL.out.mono ?_
            rintro e w5 ⟨rfl, hO5, u5⟩
            have hO6 := M.keep hO5 ((Upd.refl (fun _ => False) w5).alloc (.cells #[.int .i64 ev, .bool b1, .bool b2, .bool b3] 51)) (fun _ _ => id)
            have A6 := (hArr.upd u5 (fun h => hQf _ h rfl)).alloc (.cells #[.int .i64 ev, .bool b1, .bool b2, .bool b3] 51)
            have R7 := (hR.upd u5 (fun h => hAf _ h rfl)).alloc (.cells #[.int .i64 ev, .bool b1, .bool b2, .bool b3] 51)
            have R6 : Row (w5.alloc (.cells #[.int .i64 ev, .bool b1, .bool b2, .bool b3] 51)) w5.heap.size [.int .i64 ev, .bool b1, .bool b2, .bool b3] := Row.new' rfl
            have B5 := u5.below hB2 hB2.size hft
            have B6 := B5.alloc B5.size (.cells #[.int .i64 ev, .bool b1, .bool b2, .bool b3] 51)
            have z5 : W2.heap.size ≤ w5.heap.size := u5.size
            have z6 : Q + 1 ≤ (w5.alloc (.cells #[.int .i64 ev, .bool b1, .bool b2, .bool b3] 51)).heap.size := by simp; omega
            unfold didv
            go_upto_region 20 with (fail)
            obtain ⟨w6, hw6⟩ : ∃ w6, w5.alloc (.cells #[.int .i64 ev, .bool b1, .bool b2, .bool b3] 51) = w6 := ⟨_, rfl⟩
            obtain ⟨D, hD⟩ : ∃ D, w5.heap.size = D := ⟨_, rfl⟩
            rw [hw6] at hO6 A6 R7 R6 B6 z6 ⊢
            rw [hD] at R6 ⊢
            have y0 := R6.cell (i := 0) rfl
            have q1 := R7.cell (i := 1) rfl
            have HO6 := Lib.hid hO6
            have HA6 := Lib.hid A6
            clear hw6 hD hO5 u5 HKL p0 p1 p2 hR hO2 hB2 hO6 B5 R6 R7 z5 hArr
            by_cases ev2 : ev = 2
            · obtain ⟨u, rfl, hu8, g1, g2⟩ := hcase ev2
              subst ev2
              have a0 := HA6.out.cell (i := u) (ints_get (by omega))
              obtain ⟨dv, hdv⟩ : ∃ dv, dls.getD u 0 = dv := ⟨_, rfl⟩
              rw [hdv] at a0 g1 g2
              have hu0 : (0 : Int) ≤ (u : Int) := by omega
              have hu8' : (u : Int) < 8 := by omega
              have t1 : decide ((u : Int) < 0) = false := by rw [decide_eq_false_iff_not]; omega
              have t2 : decide ((7 : Int) < (u : Int)) = false := by rw [decide_eq_false_iff_not]; omega
              have t2' : decide (7 < u) = false := by rw [decide_eq_false_iff_not]; omega
              have t3 : decide (dv < 0) = false := by rw [decide_eq_false_iff_not]; omega
              have t4 : decide (now' < dv) = false := by rw [decide_eq_false_iff_not]; omega
              clear hcase hdv
              go_wp2_with fail
              go_roundw
              case rel => exact ⟨j + 1, by omega, by go_num, b + 1, st', now', dls, rfl, ⟨HO6.out, by omega, HJ'.out, HNW.out, HA6.out, B6, z6⟩⟩
              case measure => simp [intOf]; omega
            · have ev2' : (ev == 2) = false := by simpa using ev2
              clear hcase
              go_wp2_with fail
              go_roundw
              case rel => exact ⟨j + 1, by omega, by go_num, b + 1, st', now', dls, rfl, ⟨HO6.out, by omega, HJ'.out, HNW.out, HA6.out, B6, z6⟩⟩
              case measure => simp [intOf]; omega
          have E4 : (k == 4) = false := by simpa using e4
          clear e1 e2 e4
          go_wp2_with fail
          go_roundw
          case rel => exact ⟨j + 1, by omega, by go_num, b, st, now', dls, rfl, ⟨hO2, by omega, HJ.out, HNW.out, hArr, hB2, hzr⟩⟩
          case measure => simp [intOf]; omega
      · obtain rfl : j = xs.length := by omega
        have hB9 := hL.bel
        clear hL
        go_wp2_with fail
        refine (awake _).mono ?_
        rintro e w8 ⟨rfl, u8⟩
        go_wp2_with fail
        go_ret
        exact ⟨rfl, hB9.trans (u8.mono hB9.size)⟩
end Go.Proofs.Ytlkpfdboagjaoaa.WalkAbortLate
