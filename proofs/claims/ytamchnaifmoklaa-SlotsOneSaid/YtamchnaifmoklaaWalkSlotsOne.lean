/- The law SlotsOne, walked. -/
import Derived.Test.YtamchnaifmoklaaOrd
import Derived.Test.YtamchnaifmoklaaWalkSlotsOrder
import Derived.Test.YtamchnaifmoklaaSlotsP
import Derived.Test.YtamchnaifmoklaaLaw11
import Derived.Test.YtamchnaifmoklaaOps10
namespace Go.Proofs.Ytamchnaifmoklaa.WalkSlotsOne
open Go Go.RowKit Go.Proofs.Ytamchnaifmoklaa.WalkSlotsOrder Go.Proofs.Ytamchnaifmoklaa.SlotQ Go.Proofs.Ytamchnaifmoklaa.SlotsP Go.Proofs.Ytamchnaifmoklaa.Heap Go.Proofs.Ytamchnaifmoklaa.Open Go.Proofs.Ytamchnaifmoklaa.Seat Go.Proofs.Ytamchnaifmoklaa.Mach Go.Proofs.Ytamchnaifmoklaa.Has Go.Proofs.Ytamchnaifmoklaa.Lk Go.Proofs.Ytamchnaifmoklaa.Slots Go.Proofs.Ytamchnaifmoklaa.Pack Go.Proofs.Ytamchnaifmoklaa.StepU Go.Proofs.Ytamchnaifmoklaa.Law11

/-- How many of the first flags are 1. -/
def onesV (g u : Int) : Int := if 0 ≤ g ∧ g < u - 1 then 1 else 0
theorem onesV_next (g u : Int) (h : 1 ≤ u) : onesV g (u + 1) = onesV g u + if u - 1 = g then 1 else 0 := by
  unfold onesV
  (repeat' split) <;> omega
theorem onesV_le (g u : Int) : 0 ≤ onesV g u ∧ onesV g u ≤ 1 := by unfold onesV; split <;> omega
set_option maxRecDepth 100000 in
set_option maxHeartbeats 16000000 in
theorem walk (v : Value) (z : List Int × List (List Int)) (w : World) (h : ∃ hv m x ov, v = .agg #[hv, .int .u8 m, .int .u32 x, ov] ∧ (Lit.int .u8 m).wf = true ∧ (Lit.int .u32 x).wf = true ∧ Src1 w hv .i64 z.1 ∧ I64s w ov 4 z.2) :
    Calls Try.prog 4 #[v] w fun e w' => e = .returned (.bool true) ∧ Below w.heap.size w w' := by
  obtain ⟨v, mi, x, v2, rfl, hm8, hx, h0, h2⟩ := h
  obtain ⟨hs, xs⟩ := z
  have hmb := bounds_u8 hm8
  have hxb := wf_u32 hx
  dsimp only at h0 h2
  clear hm8 hx
  have h2k := h2
  obtain ⟨⟨ao, cap, rfl, hlc, -, -⟩, -⟩ := h2
  have HF := Lib.hid (fun w' (hb : Below w.heap.size w w') => fine w' v hs (h0.below hb) ao xs.length cap)
  have HSI := Lib.hid (fun w' => size_all mi w')
  have hB1 : Below w.heap.size w (w.alloc (.cells #[v, .int .u8 mi, .int .u32 x, .slice ao xs.length cap] 44)) := (Below.refl _ _).alloc (Nat.le_refl _) _
  have hR1 : Row (w.alloc (.cells #[v, .int .u8 mi, .int .u32 x, .slice ao xs.length cap] 44)) w.heap.size [v, .int .u8 mi, .int .u32 x, .slice ao xs.length cap] := Row.new' rfl
  have HSRC := Lib.hid h0
  have HOPS := Lib.hid h2k
  clear h2k
  obtain ⟨a, c, rfl, -, -⟩ := h0
  obtain ⟨W1, hW⟩ : ∃ W1, w.alloc (.cells #[.slice a hs.length c, .int .u8 mi, .int .u32 x, .slice ao xs.length cap] 44) = W1 := ⟨_, rfl⟩
  obtain ⟨D, hD⟩ : ∃ D, w.heap.size = D := ⟨_, rfl⟩
  rw [hW] at hB1 hR1
  rw [hD] at hR1
  have HW := Lib.hid hW
  have HD := Lib.hid hD
  have HB1 := Lib.hid hB1
  have y0 := hR1.cell (i := 0) rfl
  have y1 := hR1.cell (i := 1) rfl
  have y2 := hR1.cell (i := 2) rfl
  have y3 := hR1.cell (i := 3) rfl
  clear hW hD hB1 hR1
  cases hf : fineB hs xs.length with
  | false =>
    rw [hf] at HF
    clear hf
    go_enter Try.func4, Try.ntmps4
    go_upto_region 1 with (fail)
    rw [HW.out, HD.out]
    go_wp2_with fail
    go_quiet (fail)
    obtain ⟨W2, hW2⟩ : ∃ W2, W1.drewN nq = W2 := ⟨_, rfl⟩
    have hB0 : Below w.heap.size w W2 := by rw [← hW2]; exact below_drewN HB1.out nq
    (try rw [hW2])
    clear hW2
    go_wp2_with fail
    refine (HF.out _ hB0).mono ?_
    rintro e w' ⟨rfl, rfl⟩
    go_wp2_with fail
    refine (awake _).mono ?_
    rintro e w4 ⟨rfl, u4⟩
    go_wp2_with fail
    go_ret
    exact ⟨rfl, hB0.trans (u4.mono hB0.size)⟩
  | true =>
  cases hs7 : sizeB mi with
  | false =>
    rw [hf] at HF
    rw [hs7] at HSI
    clear hf hs7
    go_enter Try.func4, Try.ntmps4
    go_upto_region 1 with (fail)
    rw [HW.out, HD.out]
    go_wp2_with fail
    go_quiet (fail)
    obtain ⟨W2, hW2⟩ : ∃ W2, W1.drewN nq = W2 := ⟨_, rfl⟩
    have hB0 : Below w.heap.size w W2 := by rw [← hW2]; exact below_drewN HB1.out nq
    (try rw [hW2])
    clear hW2
    go_wp2_with fail
    refine (HF.out _ hB0).mono ?_
    rintro e w' ⟨rfl, rfl⟩
    go_wp2_with fail
    refine (HSI.out _).mono ?_
    rintro e w' ⟨rfl, rfl⟩
    go_wp2_with fail
    refine (awake _).mono ?_
    rintro e w4 ⟨rfl, u4⟩
    go_wp2_with fail
    go_ret
    exact ⟨rfl, hB0.trans (u4.mono hB0.size)⟩
  | true =>
  by_cases hml : mi < (hs.length : Int)
  · rw [hf] at HF
    rw [hs7] at HSI
    clear hf hs7
    go_enter Try.func4, Try.ntmps4
    go_upto_region 1 with (fail)
    rw [HW.out, HD.out]
    go_wp2_with fail
    go_quiet (fail)
    obtain ⟨W2, hW2⟩ : ∃ W2, W1.drewN nq = W2 := ⟨_, rfl⟩
    have hB0 : Below w.heap.size w W2 := by rw [← hW2]; exact below_drewN HB1.out nq
    (try rw [hW2])
    clear hW2
    go_wp2_with fail
    refine (HF.out _ hB0).mono ?_
    rintro e w' ⟨rfl, rfl⟩
    go_wp2_with fail
    refine (HSI.out _).mono ?_
    rintro e w' ⟨rfl, rfl⟩
    go_wp2_with fail
    refine (awake _).mono ?_
    rintro e w4 ⟨rfl, u4⟩
    go_wp2_with fail
    go_ret
    exact ⟨rfl, hB0.trans (u4.mono hB0.size)⟩
  · obtain ⟨n1, n8, hok, hl⟩ := fineB_true hf
    have hsz := (sizeB_iff mi).1 hs7
    obtain ⟨m, hm⟩ : ∃ m : Nat, (m : Int) = mi := ⟨mi.toNat, by omega⟩
    have hnm : hs.length ≤ m := by omega
    rw [← hm] at hsz
    have HM := Lib.hid hm
    rw [hf] at HF
    rw [hs7] at HSI
    have hml' : (hs.length : Int) ≤ mi := by omega
    clear hf hs7 hml hm
    go_enter Try.func4, Try.ntmps4
    go_upto_region 1 with (fail)
    rw [HW.out, HD.out]
    go_wp2_with fail
    go_quiet (fail)
    obtain ⟨W2, hW2⟩ : ∃ W2, W1.drewN nq = W2 := ⟨_, rfl⟩
    have hB0 : Below w.heap.size w W2 := by rw [← hW2]; exact below_drewN HB1.out nq
    (try rw [hW2])
    clear hW2
    go_wp2_with fail
    refine (HF.out _ hB0).mono ?_
    rintro e w' ⟨rfl, rfl⟩
    go_wp2_with fail
    refine (HSI.out _).mono ?_
    rintro e w' ⟨rfl, rfl⟩
    go_wp2_with fail
    refine (Plan.newPl _ hs.length).mono ?_
    rintro e w1 ⟨pl, rfl, hpl, hB1'⟩
    have hB1 := hB0.trans (hB1'.mono hB0.size)
    have hz1 := hB1.size
    have hz0 := hB0.size
    have hz1' := hB1'.size
    go_wp2_with fail
    have KN := Slots.new_yes w1 pl (Mem.Btw W2 w1) hs.length [] [] hpl (by decide) (.slice a hs.length c) hs m x hxb (HSRC.out.below hB1) n1 (by omega) hok (by
      intro b hb h
      obtain ⟨_, _, hv, -, hcell⟩ := HSRC.out
      simp at hv
      obtain ⟨rfl, rfl⟩ := hv
      obtain ⟨b', off, rfl, hbw, -⟩ := hcell (by omega)
      simp [Value.ownBlock] at hb
      have := h.1; omega) hnm hsz
    rw [HM.out] at KN
    have HKN := Lib.hid KN
    clear KN
    refine HKN.out.mono ?_
    rintro e w2 ⟨l, s, lb, pb, rfl, ha, ⟨S', hp2, hS', s1, s2, s3, s4⟩, b1, b2, b3, b4, hu2⟩
    have hB2 : Below w.heap.size w w2 := hu2.below hB1 hz1 (fun i hi => by have := hi.1; omega)
    have hz2 := hB2.size
    go_wp2_with fail
    refine (Plan.portPl _ pl S' hs.length _ _ hp2 (by simp [flags]; have := size_pos hsz; omega) (home3 hs n1 m hok) (wd3 x mi m hxb) n1 (by omega)).mono ?_
    rintro e w3 ⟨p, rfl, hpo, hB3⟩
    have ha3 := ha.keep (Upd.of_below (S := fun _ => False) hB3) id id id id
    have hB4 := hB2.trans (hB3.mono hz2)
    have sep : ¬ Mem.Btw w2 w3 l ∧ ¬ Mem.Btw w2 w3 s ∧ ¬ Mem.Btw w2 w3 lb ∧ ¬ Mem.Btw w2 w3 pb :=
      ⟨fun h => by have := ha.top.lt; have := h.1; omega, fun h => by have := ha.seat.top.lt; have := h.1; omega, fun h => by have := ha.seat.row.lt; have := h.1; omega, fun h => by have := ha.plc.lt; have := h.1; omega⟩
    have hft : ∀ i, ft l s lb pb (Mem.Btw w2 w3) i → w.heap.size ≤ i := by
      intro i hi
      rcases hi with hi | rfl | rfl | rfl | rfl
      · have := hi.1; omega
      all_goals omega
    rw [← HM.out] at ha3 hpo
    have KU : Calls Try.prog 19 #[.pointer (some ⟨l, 0, none⟩), .pointer (some ⟨p, 0, none⟩)] w3 fun e w' => e = .returned (.tuple #[]) ∧ (O l s lb pb p (Mem.Btw w2 w3) hs.length ([] ++ [hs.getD 0 0] ++ homesOf hs m) 0 m w' 0 (st0 hs.length ([] ++ [x] ++ flags m x m)) ∧ (st0 hs.length ([] ++ [x] ++ flags m x m)).seats.length = hs.length) ∧ Upd (ft l s lb pb (Mem.Btw w2 w3)) w3 w' := by
      refine (useO ha3 hpo sep).mono ?_
      rintro e w' ⟨he, ho, hu⟩
      exact ⟨he, ⟨ho, by simp [st0]⟩, hu⟩
    have HKU := Lib.hid KU
    have hn9 : (hs.length : Int) ≤ 8 := by omega
    have hl150 : (xs.length : Int) ≤ 150 := by omega
    obtain ⟨⟨_, _, hv2, -, -, hcells⟩, hwf⟩ := HOPS.out
    simp at hv2
    obtain ⟨rfl, rfl⟩ := hv2
    clear KU ha ha3 hpo hp2 hpl hu2 hB1 HKN
    go_wp2_with fail
    refine HKU.out.mono ?_
    rintro e w4 ⟨rfl, hO, hu4⟩
    have hB5 := hu4.below hB4 hB4.size hft
    obtain ⟨B, hBB⟩ : ∃ B, w4.heap.size = B := ⟨_, rfl⟩
    have hBM : B ≤ w4.heap.size := by omega
    have M := mach (l := l) (s := s) (lb := lb) (pb := pb) (p := p) (SP := Mem.Btw w2 w3) (k := hs.length) (hs := [] ++ [hs.getD 0 0] ++ homesOf hs m) (tl := 0) (kn := m) hs.length
    have hfB : ∀ i, ft l s lb pb (Mem.Btw w2 w3) i → i < B := fun i hi => by rw [← hBB]; exact M.lt hO i hi
    have hwB : w.heap.size ≤ B := by rw [← hBB]; exact hB5.size
    have K := (SlotsP.ql hs.length m x).keeps
    have HI0 := Lib.hid (SlotsP.start hs.length m hnm hsz x hxb)
    clear hBB HKU hu4 hB4
    go_wp2_with fail
    go_loopw [71] (fun i wr => ∃ j : Nat, j ≤ xs.length ∧ i = .int .i64 j ∧ ∃ (b : Nat) (st : St) (q : List Int), b ≤ j ∧ (O l s lb pb p (Mem.Btw w2 w3) hs.length ([] ++ [hs.getD 0 0] ++ homesOf hs m) 0 m wr b st ∧ st.seats.length = hs.length) ∧ (∃ h, SlotsP.I hs.length m x st q h) ∧ Below w.heap.size w wr ∧ B ≤ wr.heap.size) (fun i _ => xs.length - (intOf i).toNat)
    case atStart => exact ⟨0, Nat.zero_le _, rfl, 0, _, [], by omega, hO, ⟨none, HI0.out⟩, hB5, hBM⟩
    case round =>
      obtain ⟨j, hj, rfl, b, st, q, hbj, hO, hinv, hB, hBM⟩ := hrel
      have HINV := Lib.hid hinv
      clear hinv
      by_cases hlt : j < xs.length
      · obtain ⟨bo, off, rfl, hbw, hcell⟩ := hcells (by omega)
        have hy := hwf (xs.getD j []) (by rw [getD_lt _ _ _ hlt]; exact List.getElem_mem hlt)
        obtain ⟨y, hyy⟩ : ∃ y, xs.getD j [] = y := ⟨_, rfl⟩
        rw [hyy] at hy
        obtain ⟨hy3, hyw⟩ := hy
        match y, hy3 with
        | [k, t, N, lt], _ =>
          have c0 := (hB.cell (p := ⟨bo, off + j * 4, none⟩) hbw).trans (hcell j hlt 0 (.int .i64 k) (by decide) (by rw [hyy]; rfl))
          have c1 := (hB.cell (p := ⟨bo, off + j * 4 + 1, none⟩) hbw).trans (hcell j hlt 1 (.int .i64 t) (by decide) (by rw [hyy]; rfl))
          have c2 := (hB.cell (p := ⟨bo, off + j * 4 + 2, none⟩) hbw).trans (hcell j hlt 2 (.int .i64 N) (by decide) (by rw [hyy]; rfl))
          have c3 := (hB.cell (p := ⟨bo, off + j * 4 + 3, none⟩) hbw).trans (hcell j hlt 3 (.int .i64 lt) (by decide) (by rw [hyy]; rfl))
          have hO2 := M.keep hO ((Upd.refl (fun _ => False) wr).alloc (.cells #[.int .i64 k, .int .i64 t, .int .i64 N, .int .i64 lt] 50)) (fun _ _ => id)
          have hB2 := hB.alloc hB.size (.cells #[.int .i64 k, .int .i64 t, .int .i64 N, .int .i64 lt] 50)
          have hR : Row (wr.alloc (.cells #[.int .i64 k, .int .i64 t, .int .i64 N, .int .i64 lt] 50)) wr.heap.size [.int .i64 k, .int .i64 t, .int .i64 N, .int .i64 lt] := Row.new' rfl
          clear hyy hcell hyw hO
          have hlt' : (j : Int) < (xs.length : Int) := by omega
          go_upto_block 2 with (fail)
          have hzr : B ≤ (wr.alloc (.cells #[.int .i64 k, .int .i64 t, .int .i64 N, .int .i64 lt] 50)).heap.size := by simp; omega
          obtain ⟨W2, hW2⟩ : ∃ W, wr.alloc (.cells #[.int .i64 k, .int .i64 t, .int .i64 N, .int .i64 lt] 50) = W := ⟨_, rfl⟩
          obtain ⟨A, hA⟩ : ∃ A, wr.heap.size = A := ⟨_, rfl⟩
          rw [hW2] at hO2 hB2 hR hzr ⊢
          rw [hA] at hR hBM ⊢
          clear hW2 hA c0 c1 c2 c3 hB
          have hAf : ∀ i, ft l s lb pb (Mem.Btw w2 w3) i → i ≠ A := fun i hi e => by have := hfB i hi; omega
          go_cut [] from 74 to 104 (fun wx => ∃ (b' : Nat) (st' : St) (q' : List Int), b' ≤ j + 1 ∧ (O l s lb pb p (Mem.Btw w2 w3) hs.length ([] ++ [hs.getD 0 0] ++ homesOf hs m) 0 m wx b' st' ∧ st'.seats.length = hs.length) ∧ (∃ h, SlotsP.I hs.length m x st' q' h) ∧ Below w.heap.size w wx ∧ B ≤ wx.heap.size)
          case first =>
            have p0 := hR.cell (i := 0) rfl
            have p1 := hR.cell (i := 1) rfl
            have p2 := hR.cell (i := 2) rfl
            have mp := M.ptr hO2
            by_cases e1 : k = 1
            · subst e1
              have KL := M.lockC (M.keep hO2 ((Upd.refl (fun _ => False) W2).drewN 1) (fun _ _ => id)) t N
              have HKL := Lib.hid KL
              clear KL
              go_wp2_with fail
              go_region_held3 (fun w' => w'.cell? ⟨l, 0, none⟩ = some (.pointer (some ⟨s, 0, none⟩)) ∧ w'.cell? ⟨A, 1, none⟩ = some (.int .i64 t) ∧ w'.cell? ⟨A, 2, none⟩ = some (.int .i64 N)) ((first | exact ⟨mp, p1, p2⟩ | exact ⟨q1, q2, q3⟩))
                ((first | (go_at_call 20; refine HKL.out.mono ?_; rintro e w5 ⟨rfl, hO5, u5⟩; have q1 := M.ptr hO5; have q2 := cell_upd u5 p1 (fun h => hAf _ h rfl); have q3 := cell_upd u5 p2 (fun h => hAf _ h rfl))))
              go_wp2_with fail
              have z5 : W2.heap.size ≤ w5.heap.size := u5.size
              go_meet
              case rel => exact ⟨b, _, q, by omega, hO5, K.lock _ _ _ _ HINV.out, u5.below (below_drewN hB2 1) hB2.size hft, by omega⟩
            have E1 : (k == 1) = false := by simpa using e1
            by_cases e2 : k = 2
            · subst e2
              have KL := M.unlockC (M.keep hO2 ((Upd.refl (fun _ => False) W2).drewN 1) (fun _ _ => id)) t
              have HKL := Lib.hid KL
              clear KL
              go_wp2_with fail
              go_region_held3 (fun w' => w'.cell? ⟨l, 0, none⟩ = some (.pointer (some ⟨s, 0, none⟩)) ∧ w'.cell? ⟨A, 1, none⟩ = some (.int .i64 t)) ((first | exact ⟨mp, p1⟩ | exact ⟨q1, q2⟩))
                ((first | (go_at_call 21; refine HKL.out.mono ?_; rintro e w5 ⟨rfl, hO5, u5⟩; have q1 := M.ptr hO5; have q2 := cell_upd u5 p1 (fun h => hAf _ h rfl))))
              go_wp2_with fail
              have z5 : W2.heap.size ≤ w5.heap.size := u5.size
              go_meet
              case rel => exact ⟨b, _, q, by omega, hO5, K.unlock _ _ _ HINV.out, u5.below (below_drewN hB2 1) hB2.size hft, by omega⟩
            have E2 : (k == 2) = false := by simpa using e2
            by_cases e4 : k = 4
            · subst e4
              have KL := M.stepC hO2 (by omega) t t 0
              have HKL := Lib.hid KL
              have hst := (K.step _ _ t 0 HINV.out).2
              have HST := Lib.hid hst
              clear KL hst
              go_wp2_with fail
              refine HKL.out.mono ?_
              rintro e w5 ⟨rfl, hO5, u5⟩
              have z5 : W2.heap.size ≤ w5.heap.size := u5.size
              go_wp2_with fail
              go_meet
              case rel => exact ⟨b + 1, _, _, by omega, hO5, HST.out, u5.below hB2 hB2.size hft, by omega⟩
            have E4 : (k == 4) = false := by simpa using e4
            clear e1 e2 e4
            go_wp2_with fail
            go_meet
            case rel => exact ⟨b, st, q, by omega, hO2, HINV.out, hB2, hzr⟩
          case rest =>
            obtain ⟨b5, st5, q5, hb5, hO5, ⟨h5, hI5⟩, hB5, hz5⟩ := hcut
            obtain ⟨w5, hw5⟩ : ∃ w5, wc = w5 := ⟨_, rfl⟩
            rw [hw5] at hO5 hB5 hz5 ⊢
            obtain ⟨e5, C⟩ := hI5.ci
            have hwl := hI5.wl
            have HPL := Lib.hid hI5.pl
            have hsl := hO5.2
            obtain ⟨⟨mm, cc, cb, S1, S2, hp⟩, hpl⟩ := hO5.1.port
            have KW := Mem.wordsO _ _ _ _ _ hp.mem (by have := size_pos hsz; omega)
            have t0 := hp.top.cell (i := 0) rfl
            have HKW := Lib.hid KW
            have HO5 := Lib.hid hO5
            have HC := Lib.hid C
            have hwl' : (st5.ws.length : Int) = mi + 1 := by have := HM.out; omega
            have hm64 := size_pos hsz
            rw [hwl] at KW
            clear hw5 hp hO2 hR HINV hB2 hzr C hI5 hO5 hpl KW
            go_wp2_with fail
            refine HKW.out.mono ?_
            rintro e w6 ⟨rfl, hrw, hB6⟩
            have hO6 := M.keep HO5.out (Upd.of_below (S := fun _ => False) hB6) (fun _ _ => id)
            have hB7 := hB5.trans (hB6.mono hB5.size)
            have hz6 := hB6.size
            obtain ⟨g, hg1, hg2⟩ : ∃ g : Int, -1 ≤ g ∧ ∀ y : Nat, y < m → st5.ws.getD (y + 1) 0 = if (y : Int) = g then 1 else 0 := by
              have C := HC.out
              have key : ∀ y : Nat, y < m → st5.ws.getD (y + 1) 0 = Mem.get st5.ws (0 + 1 + y) := fun y hy => (Mem.get_in (by omega) (by simp [Mem.inB]; omega)).symm
              by_cases hh : h5 = none
              · obtain ⟨r0, r1⟩ := mod_rg hsz ((x + e5) % 4294967296)
                refine ⟨(x + e5) % 4294967296 % m, by omega, fun y hy => ?_⟩
                rw [key y hy]
                have := C.Gg y (by omega) (by omega)
                simp only [hh, true_and] at this
                exact this
              · refine ⟨-1, by omega, fun y hy => ?_⟩
                rw [key y hy]
                have := C.Gg y (by omega) (by omega)
                rw [if_neg (fun z => hh z.1)] at this
                rw [if_neg (by omega)]; exact this
            have HG := Lib.hid hg2
            obtain ⟨V, hV⟩ : ∃ V, w5.heap.size = V := ⟨_, rfl⟩
            rw [hV] at hrw
            clear hg2 HKW t0
            go_wp2_with fail
            go_loopw [15, 16] (fun s15 s16 wr => ∃ u : Nat, 1 ≤ u ∧ u ≤ m + 1 ∧ s15 = .int .i64 (onesV g u) ∧ s16 = .int .i64 u ∧ wr = w6) (fun _ i _ => m + 1 - (intOf i).toNat)
            case atStart => exact ⟨1, by omega, by omega, by simp [onesV], rfl, rfl⟩
            case round =>
              obtain ⟨u, hu1, hu2, rfl, rfl, rfl⟩ := hrel
              obtain ⟨ov, hov⟩ : ∃ ov, onesV g u = ov := ⟨_, rfl⟩
              have hovr := onesV_le g u
              rw [hov] at hovr
              by_cases hut : u < m + 1
              · have hx0 := HG.out (u - 1) (by omega)
                rw [show u - 1 + 1 = u by omega] at hx0
                obtain ⟨q, hq⟩ : ∃ q : Int, st5.ws.getD u 0 = q := ⟨_, rfl⟩
                have hq01 : q = 0 ∨ q = 1 := by rw [← hq, hx0]; split; exact .inr rfl; exact .inl rfl
                have hnx := Lib.hid (show onesV g ((u : Int) + 1) = ov + q by
                  rw [onesV_next g u (by omega), hov, ← hq, hx0]
                  congr 1
                  by_cases e : (u : Int) - 1 = g
                  · rw [if_pos e, if_pos (by omega)]
                  · rw [if_neg e, if_neg (by omega)])
                have x0 := hrw.cell (ints_get (k := .u32) (i := u) (xs := st5.ws) (by omega))
                rw [hq] at x0
                have i1 : (0 : Int) ≤ (u : Int) := by omega
                have i2 : (u : Int) < mi + 1 := by have := HM.out; omega
                rw [hov]
                clear hx0 hq hov
                go_wp2_with fail
                go_round
                case rel => exact ⟨u + 1, by omega, by omega, by rw [show ((u + 1 : Nat) : Int) = (u : Int) + 1 by omega, hnx.out], by go_num, trivial⟩
                case measure => simp [intOf]; omega
              · obtain rfl : u = m + 1 := by omega
                have i2 : ¬ ((m + 1 : Nat) : Int) < mi + 1 := by have := HM.out; omega
                rw [hov]
                clear hov
                go_wp2_with fail
                go_round
                case rel => exact ⟨j + 1, by omega, by go_num, b5, st5, q5, hb5, hO6, ⟨h5, ⟨hsl, HPL.out, hwl, e5, HC.out⟩⟩, hB7, by omega⟩
                case measure => simp [intOf]; omega
      · obtain rfl : j = xs.length := by omega
        clear hcells hO
        go_wp2_with fail
        refine (awake _).mono ?_
        rintro e w5 ⟨rfl, u5⟩
        go_wp2_with fail
        go_ret
        exact ⟨rfl, hB.trans (u5.mono hB.size)⟩
end Go.Proofs.Ytamchnaifmoklaa.WalkSlotsOne
