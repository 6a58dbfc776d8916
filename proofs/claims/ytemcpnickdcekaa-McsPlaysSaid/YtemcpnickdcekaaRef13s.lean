/- The document's lock of Mellor-Crummey and Scott: its Step, by value: the same as the program's. -/
import Derived.Test.YtemcpnickdcekaaRef13
namespace Go.Proofs.Ytemcpnickdcekaa.Ref13
open Go Go.RowKit Go.Proofs.Ytemcpnickdcekaa.Heap Go.Proofs.Ytemcpnickdcekaa.Open Go.Proofs.Ytemcpnickdcekaa.Seat Go.Proofs.Ytemcpnickdcekaa.Mach Go.Proofs.Ytemcpnickdcekaa.Has Go.Proofs.Ytemcpnickdcekaa.Ref09 Go.Proofs.Ytemcpnickdcekaa.Modl Go.Proofs.Ytemcpnickdcekaa.SeatP Go.Proofs.Ytemcpnickdcekaa.StepU Go.Proofs.Ytemcpnickdcekaa.Mcs
variable {x sx sb db pc ob : Nat}
set_option maxHeartbeats 40000000 in
set_option maxRecDepth 40000 in
theorem stepR {w : World} {st : St} {ol : List Int} {y n : Nat} {R : Nat → Prop} (h : MAt x sx sb db pc ob w st.seats (pcl st) ol) (hrel : Rel st ol) {qq : List Int} {hh : Option Nat} (hI : McsP.I n st qq hh) (hR : Ref04.RO w y R n st.ws st.ts) (hd : ∀ i, R i → ¬ fm x sx sb db pc ob i) (hf : st.ts.length < 1000000) (hwd : Mem.Wd st.ws) (t now : Int) :
    Calls Try.prog 97 #[.pointer (some ⟨x, 0, none⟩), .pointer (some ⟨y, 0, none⟩), .int .i64 t, .int .i64 t, .int .i64 now] w fun e w' =>
      e = .returned (didm (Mcs.step n 0 st t t now).1) ∧ (∃ ol', MAt x sx sb db pc ob w' (Mcs.step n 0 st t t now).2.seats (pcl (Mcs.step n 0 st t t now).2) ol' ∧ Rel (Mcs.step n 0 st t t now).2 ol') ∧
      ∃ R', Ref04.RO w' y R' n (Mcs.step n 0 st t t now).2.ws (Mcs.step n 0 st t t now).2.ts ∧ Upd (fun i => fm x sx sb db pc ob i ∨ R i) w w' ∧ ∀ i, R' i → R i ∨ w.heap.size ≤ i := by
  have c0 := h.top.cell (i := 0) rfl
  have c2 := h.top.cell (i := 2) rfl
  have hxl := h.top.lt
  have hn : st.seats.length = n := hI.sl
  have n8 : n ≤ 8 := hI.ci.n8
  have idle : (state st.seats t = 0 ∨ state st.seats t = 2) → Mcs.step n 0 st t t now = ((0, false, false, false), st) := fun h0 => (McsP.ql n).idle st t now h0
  cases hin : inB t st.seats.length with
  | false =>
    have hz : state st.seats t = 0 := by unfold state; rw [hin]; rfl
    rw [idle (.inl hz)]
    have fin0 : ∀ w', Below w.heap.size w w' → (∃ ol', MAt x sx sb db pc ob w' st.seats (pcl st) ol' ∧ Rel st ol') ∧ ∃ R', Ref04.RO w' y R' n st.ws st.ts ∧ Upd (fun i => fm x sx sb db pc ob i ∨ R i) w w' ∧ ∀ i, R' i → R i ∨ w.heap.size ≤ i := fun w' hB =>
      ⟨⟨ol, h.keep (Upd.of_below (S := fun _ => False) hB) (fun _ _ => id), hrel⟩, R, hR.below hB, Upd.of_below hB, fun i hi => .inl hi⟩
    have FIN := Lib.hid fin0
    have hb : ∀ o : Obj, Below w.heap.size w (w.alloc o) := fun o => (Below.refl _ _).alloc (Nat.le_refl _) _
    clear fin0 h hR hz hI hrel idle hf hwd hn n8
    by_cases t0 : t < 0
    · go_enter Try.func97, Try.ntmps97
      go_wp2_with fail
      refine bodyPost_ret (v := didm (0, false, false, false)) (by simp [results, Try.results97, go_sem, didm, b2i]) rfl ?_
      exact ⟨rfl, FIN.out _ (hb _)⟩
    · have t1 : (st.seats.length : Int) ≤ t := by simp [inB] at hin; omega
      have t0' : decide (t < 0) = false := by simpa using t0
      clear hin
      go_enter Try.func97, Try.ntmps97
      go_wp2_with fail
      refine bodyPost_ret (v := didm (0, false, false, false)) (by simp [results, Try.results97, go_sem, didm, b2i]) rfl ?_
      exact ⟨rfl, FIN.out _ (hb _)⟩
  | true =>
    obtain ⟨q, rfl, hq⟩ := inB_nat hin
    have D1 : Upd (fun _ => False) w ((w.alloc (.cells #[.int .i64 0, .int .i64 0, .int .i64 0, .int .i64 0] 123)).alloc (.cells #[.int .i64 0, .int .i64 0, .int .i64 0, .int .i64 0] 123)) := ((Upd.refl _ w).alloc _).alloc _
    have h1 := h.keep D1 (fun _ _ => id)
    have g1 := hR.keep D1 (fun _ _ => id)
    have R0 : Row ((w.alloc (.cells #[.int .i64 0, .int .i64 0, .int .i64 0, .int .i64 0] 123)).alloc (.cells #[.int .i64 0, .int .i64 0, .int .i64 0, .int .i64 0] 123)) w.heap.size [.int .i64 0, .int .i64 0, .int .i64 0, .int .i64 0] := (Row.new' rfl).alloc _
    have R1 : Row ((w.alloc (.cells #[.int .i64 0, .int .i64 0, .int .i64 0, .int .i64 0] 123)).alloc (.cells #[.int .i64 0, .int .i64 0, .int .i64 0, .int .i64 0] 123)) (w.heap.size + 1) [.int .i64 0, .int .i64 0, .int .i64 0, .int .i64 0] := Row.new' (by simp)
    have up1 : Upd (fun i => fm x sx sb db pc ob i ∨ R i) w ((w.alloc (.cells #[.int .i64 0, .int .i64 0, .int .i64 0, .int .i64 0] 123)).alloc (.cells #[.int .i64 0, .int .i64 0, .int .i64 0, .int .i64 0] 123)) := D1.mono fun _ _ z => z.elim
    have hlm := h.lt
    have hlr := hR.lt
    have b1 : decide ((q : Int) < 0) = false := by rw [decide_eq_false_iff_not]; omega
    have b2 : decide ((st.seats.length : Int) ≤ (q : Int)) = false := by rw [decide_eq_false_iff_not]; omega
    have b3 : decide (st.seats.length ≤ q) = false := by rw [decide_eq_false_iff_not]; omega
    have hqn : q < n := by omega
    have hq8 : (q : Int) ≤ 8 := by omega
    have HQ8 := Lib.hid hq8
    have HF := Lib.hid hf
    have HN := Lib.hid hn
    have HN8 := Lib.hid n8
    have HWD := Lib.hid hwd
    have HI := Lib.hid hI
    have HREL := Lib.hid hrel
    have HIDLE := Lib.hid idle
    have HWS := Lib.hid (show st.ws.length ≤ 100000 by rw [hI.wl]; omega)
    obtain ⟨D, hD⟩ : ∃ D, w.heap.size = D := ⟨_, rfl⟩
    have HD := Lib.hid hD
    obtain ⟨W, hW⟩ : ∃ W, (w.alloc (.cells #[.int .i64 0, .int .i64 0, .int .i64 0, .int .i64 0] 123)).alloc (.cells #[.int .i64 0, .int .i64 0, .int .i64 0, .int .i64 0] 123) = W := ⟨_, rfl⟩
    rw [hD] at R0 R1 hlm hlr
    rw [hW] at h1 g1 R0 R1 up1
    have HW := Lib.hid hW
    have HLM := Lib.hid hlm
    have HLR := Lib.hid hlr
    have HDD := Lib.hid hd
    have HQN := Lib.hid hqn
    have hWD : D + 2 = W.heap.size := by rw [← hW, ← hD]; simp
    clear hin h hR D1 hf hn hwd n8 hW hD hlm hlr hd hI hrel idle hqn hq8
    go_enter Try.func97, Try.ntmps97
    go_upto_region 4 with (fail)
    rw [HW.out, HD.out]
    clear c0 c2 hxl b1 b2 b3
    have hq1 : (0 : Int) ≤ (q : Int) := by omega
    have hq2 : (q : Int) < (st.seats.length : Int) := by omega
    have c1 := h1.top.cell (i := 1) rfl
    have hw1 : wrap64 (2 * (q : Int)) = 2 * (q : Int) := by have := HQ8.out; unfold wrap64; omega
    have hw2 : wrap64 (1 + 2 * (q : Int)) = 1 + 2 * (q : Int) := by have := HQ8.out; unfold wrap64; omega
    have hw3 : wrap64 (2 + 2 * (q : Int)) = 2 + 2 * (q : Int) := by have := HQ8.out; unfold wrap64; omega
    go_quiet (fail)
    rename_i nq
    obtain ⟨W', hW'⟩ : ∃ W', W.drewN nq = W' := ⟨_, rfl⟩
    have h1 := h1.keep ((Upd.refl (fun _ => False) W).drewN nq) (fun _ _ => id)
    have g1 := g1.keep ((Upd.refl (fun _ => False) W).drewN nq) (fun _ _ => id)
    have R0 := R0.drewN nq
    have R1 := R1.drewN nq
    have up1 := up1.drewN nq
    have hWD : D + 2 = (W.drewN nq).heap.size := hWD
    rw [hW'] at h1 g1 R0 R1 up1 hWD ⊢
    have UP1 := Lib.hid up1
    have HWD2 := Lib.hid hWD
    obtain ⟨na, hna⟩ : ∃ na, wrap64 (1 + 2 * (q : Int)) = na := ⟨_, rfl⟩
    obtain ⟨la, hla⟩ : ∃ la, wrap64 (2 + 2 * (q : Int)) = la := ⟨_, rfl⟩
    rw [hna, hla]
    have HNA := Lib.hid (show nextA 0 ((q : Int) + 1) = na by rw [← hna, hw2]; unfold nextA; omega)
    have HLA := Lib.hid (show nextA 0 ((q : Int) + 1) + 1 = la by rw [← hla, hw3]; unfold nextA; omega)
    clear hw1 hw2 hw3 hna hla hW' up1 hWD c1
    have c0 := h1.top.cell (i := 0) rfl
    have c1 := h1.top.cell (i := 1) rfl
    have c2 := h1.top.cell (i := 2) rfl
    have c3 := h1.top.cell (i := 3) rfl
    obtain ⟨cs, cd, htop⟩ := h1.seat.top
    have s0 := htop.cell (i := 0) rfl
    obtain ⟨z, hz⟩ : ∃ z, state st.seats (q : Int) = z := ⟨_, rfl⟩
    have s1 := h1.seat.st.cell (sts_get hq)
    have hzq : (st.seats.getD q (0, -1)).1 = z := by rw [← hz]; unfold state; rw [inB_mk hq, if_pos rfl, Int.toNat_natCast]
    rw [hzq] at s1
    obtain ⟨sv, hsv⟩ : ∃ sv, McsP.sp st q = sv := ⟨_, rfl⟩
    have p1 := h1.prow.cell (ii_get (t := q) (by rw [h1.l1]; exact hq))
    rw [pcl_get, hsv] at p1
    obtain ⟨ov, hov⟩ : ∃ ov, ol.getD q 0 = ov := ⟨_, rfl⟩
    have o1 := h1.orow.cell (ii_get (t := q) (by rw [h1.l2]; exact hq))
    have hovr := h1.wd q
    rw [hov] at o1 hovr
    obtain ⟨x2, hx2⟩ : ∃ x2, McsP.ot st q = x2 := ⟨_, rfl⟩
    have hplq : q < st.pls.length := by rw [HI.out.pl]; exact HQN.out
    have HPL := Lib.hid hplq
    have HZ := Lib.hid hz
    have HSV := Lib.hid (show (st.pls.getD q (0, 0)).1 = sv from hsv)
    have HX2 := Lib.hid (show (st.pls.getD q (0, 0)).2 = x2 from hx2)
    have HOV := Lib.hid hov
    have c := HI.out.ci
    have hst : stt st.seats q = z := by rw [← state_nat]; exact hz
    have hcase : (z = 0 ∧ sv = 0) ∨ (z = 2 ∧ sv = 0) ∨ (z = 4 ∧ sv = 0) ∨ (z = 1 ∧ (sv = 0 ∨ sv = 1 ∨ (sv = 2 ∧ ov = x2) ∨ (sv = 3 ∧ ov = x2) ∨ (sv = 4 ∧ ov = x2))) ∨ (z = 3 ∧ (sv = 0 ∨ sv = 1 ∨ sv = 2 ∨ (sv = 3 ∧ ov = x2))) := by
      have k0 := c.p0 q HQN.out
      have k1 := c.p1 q HQN.out
      have k3 := c.p3 q HQN.out
      have kr := c.rg q HQN.out
      have hr := HREL.out q
      rw [hst] at k0 k1 k3 kr hr
      rw [hsv] at k0 k1 k3 hr
      rw [hov, hx2] at hr
      rcases (show z = 0 ∨ z = 1 ∨ z = 2 ∨ z = 3 ∨ z = 4 by omega) with e | e | e | e | e
      · exact .inl ⟨e, k0 (by omega)⟩
      · have := k1 e
        right; right; right; left
        refine ⟨e, ?_⟩
        rcases (show sv = 0 ∨ sv = 1 ∨ sv = 2 ∨ sv = 3 ∨ sv = 4 by omega) with f | f | f | f | f
        · exact .inl f
        · exact .inr (.inl f)
        · exact .inr (.inr (.inl ⟨f, hr (by omega)⟩))
        · exact .inr (.inr (.inr (.inl ⟨f, hr (by omega)⟩)))
        · exact .inr (.inr (.inr (.inr ⟨f, hr (by omega)⟩)))
      · exact .inr (.inl ⟨e, k0 (by omega)⟩)
      · right; right; right; right
        refine ⟨e, ?_⟩
        rcases k3 e with f | ⟨f, _⟩ | ⟨f, _⟩ | ⟨f, _⟩
        · exact .inl f
        · exact .inr (.inl f)
        · exact .inr (.inr (.inl f))
        · exact .inr (.inr (.inr ⟨f, hr (by omega)⟩))
      · exact .inr (.inr (.inl ⟨e, k0 (by omega)⟩))
    have HST := Lib.hid (show Mcs.step n 0 st q q now = ((midS n 0 st q q).1, { (midS n 0 st q q).2 with seats := (fin (midS n 0 st q q).2.seats q (midS n 0 st q q).1.1).2, pls := if (fin (midS n 0 st q q).2.seats q (midS n 0 st q q).1.1).1 = true then (midS n 0 st q q).2.pls.set q (0, 0) else (midS n 0 st q q).2.pls }) from rfl)
    have hDm : ∀ i, fm x sx sb db pc ob i → i ≠ D := fun i hi e => by have := HLM.out i hi; omega
    have hDm1 : ∀ i, fm x sx sb db pc ob i → i ≠ D + 1 := fun i hi e => by have := HLM.out i hi; omega
    have nR : ∀ i, fm x sx sb db pc ob i → ¬ R i := fun i hi h => HDD.out i h hi
    have nx := nR x (by simp [fm])
    have no := nR ob (by simp [fm])
    have nD : ¬ R D := fun h => by have := HLR.out D h; omega
    have nD1 : ¬ R (D + 1) := fun h => by have := HLR.out _ h; omega
    have hk64 : n ≤ 64 := by have := HN8.out; omega
    have HK64 := Lib.hid hk64
    have hsvr : sv = 0 ∨ sv = 1 ∨ sv = 2 ∨ sv = 3 ∨ sv = 4 := by omega
    have hzr : z = 0 ∨ z = 1 ∨ z = 2 ∨ z = 3 ∨ z = 4 := by omega
    have HCASE := Lib.hid hcase
    clear hz hzq hsv hov hx2 htop hplq c hst hcase nR hk64
    go_upto_block 0 with (fail)
    obtain ⟨pv, hpv⟩ : ∃ pv, sv + 1 = pv := ⟨_, rfl⟩
    rw [hpv]
    obtain ⟨kk, hkk⟩ : ∃ kk, 10 * z + pv = kk := ⟨_, rfl⟩
    rw [hkk]
    have HPV := Lib.hid hpv
    have HKK := Lib.hid hkk
    clear hpv hkk hsvr hzr
    go_cut [11, 14] from 66 to 222 (fun s11 s14 wx => ∃ (pv' : Int) (d : Did) (st' : St) (ol' : List Int), s11 = .pointer (some ⟨D + 1, 0, none⟩) ∧ s14 = .int .i64 pv' ∧ midS n 0 st q q = (d, st') ∧ Mid st ol q z d st' pv' ol' ∧ MAt x sx sb db pc ob wx st.seats (pcl st) ol' ∧ (∃ R', Ref04.RO wx y R' n st'.ws st'.ts ∧ ∀ i, R' i → R i ∨ w.heap.size + 2 ≤ i) ∧ Row wx (D + 1) (dmcells d) ∧ Row wx D [.int .i64 0, .int .i64 0, .int .i64 0, .int .i64 0] ∧ Upd (fun i => fm x sx sb db pc ob i ∨ R i) w wx)
    case first =>
      have hlen : ol.length = st.seats.length := h1.l2
      have HOL := Lib.hid (show q < ol.length by rw [hlen]; exact hq)
      clear hlen
      rcases HCASE.out with ⟨rfl, rfl⟩ | ⟨rfl, rfl⟩ | ⟨rfl, rfl⟩ | ⟨rfl, hs⟩ | ⟨rfl, hs⟩
      · have hkk : kk = 1 := by have := HKK.out; have := HPV.out; omega
        have hpv : pv = 1 := by have := HPV.out; omega
        subst hkk hpv
        have r0 := R1.cell (i := 0) rfl
        have r1 := R1.cell (i := 1) rfl
        have r2 := R1.cell (i := 2) rfl
        have r3 := R1.cell (i := 3) rfl
        have y0 := R0.cell (i := 0) rfl
        have y1 := R0.cell (i := 1) rfl
        have y2 := R0.cell (i := 2) rfl
        have y3 := R0.cell (i := 3) rfl
        have f0 := R0.frozen 0
        have f1 := R0.frozen 1
        have f2 := R0.frozen 2
        have f3 := R0.frozen 3
        go_wp2_with fail
        have UE := upd4 W' D (.int .i64 0) (.int .i64 0) (.int .i64 0) (.int .i64 0)
        have RE := did4 R0 (.int .i64 0) (.int .i64 0) (.int .i64 0) (.int .i64 0)
        obtain ⟨w8, hw8⟩ : ∃ w8, (((W'.setCell ⟨D, 0, none⟩ (.int .i64 0)).setCell ⟨D, 1, none⟩ (.int .i64 0)).setCell ⟨D, 2, none⟩ (.int .i64 0)).setCell ⟨D, 3, none⟩ (.int .i64 0) = w8 := ⟨_, rfl⟩
        rw [hw8] at RE UE ⊢
        have g0 := RE.cell (i := 0) rfl
        have g1' := RE.cell (i := 1) rfl
        have g2 := RE.cell (i := 2) rfl
        have g3 := RE.cell (i := 3) rfl
        refine bodyPost_ret (v := didm (0, false, false, false)) (by simp [results, Try.results97, go_sem, didm, b2i, g0, g1', g2, g3]) rfl ?_
        rw [HIDLE.out (by rw [HZ.out]; decide)]
        exact ⟨rfl, ⟨ol, h1.keep UE (fun i hi e => hDm i hi e), HREL.out⟩, R, g1.keep UE (fun i hi e => nD (e ▸ hi)), UP1.out.then UE (fun i hi e => by have := HD.out; omega), fun i hi => .inl hi⟩
      · have hkk : kk = 21 := by have := HKK.out; have := HPV.out; omega
        have hpv : pv = 1 := by have := HPV.out; omega
        subst hkk hpv
        have r0 := R1.cell (i := 0) rfl
        have r1 := R1.cell (i := 1) rfl
        have r2 := R1.cell (i := 2) rfl
        have r3 := R1.cell (i := 3) rfl
        have y0 := R0.cell (i := 0) rfl
        have y1 := R0.cell (i := 1) rfl
        have y2 := R0.cell (i := 2) rfl
        have y3 := R0.cell (i := 3) rfl
        have f0 := R0.frozen 0
        have f1 := R0.frozen 1
        have f2 := R0.frozen 2
        have f3 := R0.frozen 3
        go_wp2_with fail
        have UE := upd4 W' D (.int .i64 0) (.int .i64 0) (.int .i64 0) (.int .i64 0)
        have RE := did4 R0 (.int .i64 0) (.int .i64 0) (.int .i64 0) (.int .i64 0)
        obtain ⟨w8, hw8⟩ : ∃ w8, (((W'.setCell ⟨D, 0, none⟩ (.int .i64 0)).setCell ⟨D, 1, none⟩ (.int .i64 0)).setCell ⟨D, 2, none⟩ (.int .i64 0)).setCell ⟨D, 3, none⟩ (.int .i64 0) = w8 := ⟨_, rfl⟩
        rw [hw8] at RE UE ⊢
        have g0 := RE.cell (i := 0) rfl
        have g1' := RE.cell (i := 1) rfl
        have g2 := RE.cell (i := 2) rfl
        have g3 := RE.cell (i := 3) rfl
        refine bodyPost_ret (v := didm (0, false, false, false)) (by simp [results, Try.results97, go_sem, didm, b2i, g0, g1', g2, g3]) rfl ?_
        rw [HIDLE.out (by rw [HZ.out]; decide)]
        exact ⟨rfl, ⟨ol, h1.keep UE (fun i hi e => hDm i hi e), HREL.out⟩, R, g1.keep UE (fun i hi e => nD (e ▸ hi)), UP1.out.then UE (fun i hi e => by have := HD.out; omega), fun i hi => .inl hi⟩
      · have hkk : kk = 41 := by have := HKK.out; have := HPV.out; omega
        have hpv : pv = 1 := by have := HPV.out; omega
        subst hkk hpv
        obtain ⟨g, hg⟩ : ∃ g, rd n st.ws q na = g := ⟨_, rfl⟩
        have E := Lib.hid (show midS n 0 st q q = ((if g = 0 then 4 else 5, false, false, false), { st with ts := Cache.after n st.ws.length st.ts q na false }) by unfold midS; rw [HZ.out]; rw [if_neg (by decide), if_neg (by decide), if_pos rfl]; rw [HNA.out, hg])
        have U3 := Upd.one W' (D + 1) 0 (.int .i64 5)
        have h3 := h1.keep U3 (fun i hi e => hDm1 i hi e)
        have g3 := g1.keep U3 (fun i hi e => nD1 (e ▸ hi))
        have R3 := R1.set 0 (.int .i64 5)
        have Q3 := R0.upd U3 (by omega)
        have UP3 := Lib.hid (UP1.out.then U3 (fun i hi e => by have := HD.out; omega))
        have y0 := R1.cell (i := 0) rfl
        have z0 := R1.frozen 0
        clear UP1
        go_upto_region 39 with (fail)
        obtain ⟨W3, hW3⟩ : ∃ W3, W'.setCell ⟨D + 1, 0, none⟩ (.int .i64 5) = W3 := ⟨_, rfl⟩
        rw [hW3] at h3 g3 R3 Q3 UP3 ⊢
        have HWD3 : Hid (D + 2 = W3.heap.size) := Lib.hid (by rw [← hW3]; simp [World.setCell]; exact HWD2.out)
        have KA := Ref04.loadR W3 g3 HF.out HK64.out HWS.out q na
        rw [hg] at KA
        have HKA := Lib.hid KA
        clear KA hg hW3 y0 z0 U3
        go_wp2_with fail
        refine HKA.out.mono ?_
        rintro e w5 ⟨rfl, R', hR5, u5, hR5s⟩
        have h2 := h3.keep u5 (fun i hi h => HDD.out i h hi)
        have R5 := R3.upd u5 nD1
        have Q5 := Q3.upd u5 nD
        have up5 : Upd (fun i => fm x sx sb db pc ob i ∨ R i) w w5 := UP3.out.trans (u5.mono fun i _ h => .inr h)
        have HRS : Hid (∀ i, R' i → (R i ∨ w.heap.size + 2 ≤ i) ∧ i ≠ D + 1 ∧ i ≠ ob) := Lib.hid fun i hi => by
          rcases hR5s i hi with h | h
          · exact ⟨.inl h, by have := HLR.out i h; omega, fun e => HDD.out i h (by rw [e]; simp [fm])⟩
          · have := HWD3.out; have := HD.out; have := HLM.out ob (by simp [fm]); have h : W3.heap.size ≤ i := h; exact ⟨.inr (by omega), by omega, by omega⟩
        have y0 := R5.cell (i := 0) rfl
        have z0 := R5.frozen 0
        clear h1 g1 R0 R1 c0 c1 c2 c3 s0 s1 p1 o1 u5 h3 g3 R3 Q3 HKA
        by_cases hgn : g = 0
        · subst hgn
          rw [if_pos rfl] at E
          go_wp2_with fail
          have RE := R5.set 0 (.int .i64 4)
          have UE := Upd.one w5 (D + 1) 0 (.int .i64 4)
          go_meet
          case rel => exact ⟨1, (4, false, false, false), _, ol, rfl, rfl, E.out, Mid.stay rfl rfl (fun e => by rw [fin_yes HZ.out (by decide)] at e; cases e), h2.keep UE (fun i hi e => hDm1 i hi e), ⟨R', hR5.keep UE (fun i hi e => (HRS.out i hi).2.1 e), fun i hi => (HRS.out i hi).1⟩, by simpa [dmcells, b2i] using RE, Q5.upd UE (by omega), up5.then UE (fun i hi e => by have := HD.out; omega)⟩
        · have hgn' : (g == 0) = false := by simpa using hgn
          rw [if_neg hgn] at E
          go_wp2_with fail
          go_meet
          case rel => exact ⟨1, (5, false, false, false), _, ol, rfl, rfl, E.out, Mid.stay rfl rfl (fun e => by rw [fin_yes HZ.out (by decide)] at e; cases e), h2, ⟨R', hR5, fun i hi => (HRS.out i hi).1⟩, by simpa [dmcells, b2i] using R5, Q5, up5⟩
      · rcases hs with rfl | rfl | ⟨rfl, rfl⟩ | ⟨rfl, rfl⟩ | ⟨rfl, rfl⟩
        · have hkk : kk = 11 := by have := HKK.out; have := HPV.out; omega
          have hpv : pv = 1 := by have := HPV.out; omega
          subst hkk hpv
          have E := Lib.hid (show midS n 0 st q q = ((0, false, false, false), { st with pls := st.pls.set q (1, x2), ws := wrt n st.ws q na 0, ts := Cache.after n st.ws.length st.ts q na true }) by unfold midS; rw [HZ.out]; rw [if_pos rfl, Int.toNat_natCast]; unfold lockS; dsimp only; rw [if_pos HSV.out, HX2.out, HNA.out])
          have KA := Ref04.storeR W' g1 HF.out HK64.out HWS.out q na 0
          have HKA := Lib.hid KA
          clear KA
          go_wp2_with fail
          refine HKA.out.mono ?_
          rintro e w5 ⟨rfl, R', hR5, u5, hR5s⟩
          have h2 := h1.keep u5 (fun i hi h => HDD.out i h hi)
          have R5 := R1.upd u5 nD1
          have Q5 := R0.upd u5 nD
          have up5 : Upd (fun i => fm x sx sb db pc ob i ∨ R i) w w5 := UP1.out.trans (u5.mono fun i _ h => .inr h)
          have HRS : Hid (∀ i, R' i → (R i ∨ w.heap.size + 2 ≤ i) ∧ i ≠ D + 1 ∧ i ≠ ob) := Lib.hid fun i hi => by
            rcases hR5s i hi with h | h
            · exact ⟨.inl h, by have := HLR.out i h; omega, fun e => HDD.out i h (by rw [e]; simp [fm])⟩
            · have := HWD2.out; have := HD.out; have := HLM.out ob (by simp [fm]); have h : W'.heap.size ≤ i := h; exact ⟨.inr (by omega), by omega, by omega⟩
          clear h1 g1 R0 R1 c0 c1 c2 c3 s0 s1 p1 o1 u5
          go_wp2_with fail
          go_meet
          case rel => exact ⟨1, (0, false, false, false), _, ol, rfl, rfl, E.out, Mid.set HPL.out 1 x2 rfl rfl rfl (by omega), h2, ⟨R', hR5, fun i hi => (HRS.out i hi).1⟩, by simpa [dmcells, b2i] using R5, Q5, up5⟩
        · have hkk : kk = 12 := by have := HKK.out; have := HPV.out; omega
          have hpv : pv = 2 := by have := HPV.out; omega
          subst hkk hpv
          obtain ⟨g, hg⟩ : ∃ g, rd n st.ws q 0 = g := ⟨_, rfl⟩
          have hgw := rd_wd HWD.out n q 0
          rw [hg] at hgw
          have E := Lib.hid (show midS n 0 st q q = ((if g = 0 then 1 else 0, true, false, false), { st with pls := st.pls.set q (2, g), ws := wrt n st.ws q 0 (q + 1), ts := Cache.after n st.ws.length st.ts q 0 true }) by unfold midS; rw [HZ.out]; rw [if_pos rfl, Int.toNat_natCast]; unfold lockS; dsimp only; rw [if_neg (by rw [HSV.out]; decide), if_pos HSV.out, hg])
          have hu1 : wrap64 ((q : Int) + 1) = (q : Int) + 1 := by have := HQ8.out; unfold wrap64; omega
          have hu2 : ((q : Int) + 1) % 4294967296 = (q : Int) + 1 := by have := HQ8.out; omega
          have hu3 : IntKind.i64.wrap ((q : Int) + 1) = (q : Int) + 1 := IntWalk.i64_in _ (by have := HQ8.out; omega)
          have hu4 : IntKind.u32.wrap ((q : Int) + 1) = (q : Int) + 1 := hu2
          have KA := Ref04.swapR W'.drew (g1.drewN 1) HF.out HK64.out HWS.out q 0 (q + 1)
          rw [hg] at KA
          have HKA := Lib.hid KA
          have hgi : IntKind.i64.wrap g = g := IntWalk.i64_in _ (by omega)
          have h1d := h1.keep ((Upd.refl (fun _ => False) W').drewN 1) (fun _ _ => id)
          clear KA hg
          go_wp2_with fail
          go_region_held3 (fun w' => w'.cell? ⟨x, 1, none⟩ = some (.int .i64 0) ∧ w'.cell? ⟨x, 3, none⟩ = some (.slice (some ⟨ob, 0, none⟩) st.seats.length st.seats.length)) ((first | exact ⟨c1, c3⟩ | exact ⟨e1, e3⟩ | exact ⟨f1, f3⟩))
            ((go_at_call 99; refine HKA.out.mono ?_; rintro e w5 ⟨rfl, R', hR5, u5, hR5s⟩; have e1 := cell_upd u5 c1 nx; have e3 := cell_upd u5 c3 nx; have A5 := h1d.keep u5 (fun i hi h => HDD.out i h hi); have m5 := cell_upd u5 o1 no; have fz5 := A5.orow.frozen q; have A6 := A5.setOt q g hgw; have f1 := A6.top.cell (i := 1) rfl; have f3 := A6.top.cell (i := 3) rfl))
          have R5 := (R1.drewN 1).upd u5 nD1
          have Q5 := (R0.drewN 1).upd u5 nD
          have up5 : Upd (fun i => fm x sx sb db pc ob i ∨ R i) w w5 := (UP1.out.drewN 1).trans (u5.mono fun i _ h => .inr h)
          have HRS : Hid (∀ i, R' i → (R i ∨ w.heap.size + 2 ≤ i) ∧ i ≠ D + 1 ∧ i ≠ ob) := Lib.hid fun i hi => by
            rcases hR5s i hi with h | h
            · exact ⟨.inl h, by have := HLR.out i h; omega, fun e => HDD.out i h (by rw [e]; simp [fm])⟩
            · have := HWD2.out; have := HD.out; have := HLM.out ob (by simp [fm]); have h : W'.heap.size ≤ i := h; exact ⟨.inr (by omega), by omega, by omega⟩
          have U6 := Upd.one w5 ob q (.int .i64 g)
          have hoD : ob ≠ D ∧ ob ≠ D + 1 := ⟨hDm _ (by simp [fm]), hDm1 _ (by simp [fm])⟩
          have R6 := R5.upd U6 (fun e => hoD.2 e.symm)
          have Q6 := Q5.upd U6 (fun e => hoD.1 e.symm)
          have hR6 := hR5.keep U6 (fun i hi e => (HRS.out i hi).2.2 e)
          have up6 := up5.trans (U6.mono fun i _ e => (by rw [e]; simp [fm] : fm x sx sb db pc ob i ∨ R i))
          obtain ⟨w6, hw6⟩ : ∃ w6, w5.setCell ⟨ob, q, none⟩ (.int .i64 g) = w6 := ⟨_, rfl⟩
          rw [hw6] at A6 R6 Q6 hR6 up6 ⊢
          have o6 := A6.orow.cell (ii_get (t := q) (by rw [A6.l2]; exact hq))
          rw [is_set _ _ _ _ HOL.out, if_pos rfl] at o6
          have t3 := A6.top.cell (i := 3) rfl
          have y1 := R6.cell (i := 1) rfl
          have z1 := R6.frozen 1
          have R7 := R6.set 1 (.int .i64 1)
          have U7 := Upd.one w6 (D + 1) 1 (.int .i64 1)
          have A7 := A6.keep U7 (fun i hi e => hDm1 i hi e)
          have Q7 := Q6.upd U7 (by omega)
          have hR7 := hR6.keep U7 (fun i hi e => (HRS.out i hi).2.1 e)
          have up7 := up6.then U7 (fun i hi e => by have := HD.out; omega)
          clear hw6 e1 e3 f1 f3 m5 fz5 A5 u5 h1 h1d g1 R0 R1 c0 c1 c2 c3 s0 s1 p1 o1 R5 Q5 up5 hR5 U6 HKA
          go_upto_region 13 with (fail)
          obtain ⟨w7, hw7⟩ : ∃ w7, w6.setCell ⟨D + 1, 1, none⟩ (.int .i64 1) = w7 := ⟨_, rfl⟩
          have o7 := cell_upd U7 o6 (fun e => hoD.2 e)
          have t7 := cell_upd U7 t3 (fun e => hDm1 x (by simp [fm]) e)
          rw [hw7] at A7 R7 Q7 hR7 up7 o7 t7 ⊢
          have y0 := R7.cell (i := 0) rfl
          have z0 := R7.frozen 0
          clear hw7 o6 t3 y1 z1 A6 R6 Q6 hR6 up6 U7
          by_cases hgn : g = 0
          · subst hgn
            rw [if_pos rfl] at E
            go_wp2_with fail
            have RE := R7.set 0 (.int .i64 1)
            have UE := Upd.one w7 (D + 1) 0 (.int .i64 1)
            go_meet
            case rel => exact ⟨2, (1, true, false, false), _, (ol.set q 0), rfl, rfl, E.out, Mid.setO HPL.out HOL.out 2 0 rfl rfl rfl, A7.keep UE (fun i hi e => hDm1 i hi e), ⟨R', hR7.keep UE (fun i hi e => (HRS.out i hi).2.1 e), fun i hi => (HRS.out i hi).1⟩, by simpa [dmcells, b2i] using RE, Q7.upd UE (by omega), up7.then UE (fun i hi e => by have := HD.out; omega)⟩
          · have hgn' : (g == 0) = false := by simpa using hgn
            rw [if_neg hgn] at E
            go_wp2_with fail
            go_meet
            case rel => exact ⟨2, (0, true, false, false), _, (ol.set q g), rfl, rfl, E.out, Mid.setO HPL.out HOL.out 2 g rfl rfl rfl, A7, ⟨R', hR7, fun i hi => (HRS.out i hi).1⟩, by simpa [dmcells, b2i] using R7, Q7, up7⟩
        · have hkk : kk = 13 := by have := HKK.out; have := HPV.out; omega
          have hpv : pv = 3 := by have := HPV.out; omega
          subst hkk hpv
          have E := Lib.hid (show midS n 0 st q q = ((0, false, false, false), { st with pls := st.pls.set q (3, ov), ws := wrt n st.ws q la 1, ts := Cache.after n st.ws.length st.ts q la true }) by unfold midS; rw [HZ.out]; rw [if_pos rfl, Int.toNat_natCast]; unfold lockS; dsimp only; rw [if_neg (by rw [HSV.out]; decide), if_neg (by rw [HSV.out]; decide), if_pos HSV.out, HX2.out, HLA.out])
          have KA := Ref04.storeR W' g1 HF.out HK64.out HWS.out q la 1
          have HKA := Lib.hid KA
          clear KA
          go_wp2_with fail
          refine HKA.out.mono ?_
          rintro e w5 ⟨rfl, R', hR5, u5, hR5s⟩
          have h2 := h1.keep u5 (fun i hi h => HDD.out i h hi)
          have R5 := R1.upd u5 nD1
          have Q5 := R0.upd u5 nD
          have up5 : Upd (fun i => fm x sx sb db pc ob i ∨ R i) w w5 := UP1.out.trans (u5.mono fun i _ h => .inr h)
          have HRS : Hid (∀ i, R' i → (R i ∨ w.heap.size + 2 ≤ i) ∧ i ≠ D + 1 ∧ i ≠ ob) := Lib.hid fun i hi => by
            rcases hR5s i hi with h | h
            · exact ⟨.inl h, by have := HLR.out i h; omega, fun e => HDD.out i h (by rw [e]; simp [fm])⟩
            · have := HWD2.out; have := HD.out; have := HLM.out ob (by simp [fm]); have h : W'.heap.size ≤ i := h; exact ⟨.inr (by omega), by omega, by omega⟩
          clear h1 g1 R0 R1 c0 c1 c2 c3 s0 s1 p1 o1 u5
          go_wp2_with fail
          go_meet
          case rel => exact ⟨3, (0, false, false, false), _, ol, rfl, rfl, E.out, Mid.set HPL.out 3 ov rfl rfl rfl (fun _ => HOV.out), h2, ⟨R', hR5, fun i hi => (HRS.out i hi).1⟩, by simpa [dmcells, b2i] using R5, Q5, up5⟩
        · have hkk : kk = 14 := by have := HKK.out; have := HPV.out; omega
          have hpv : pv = 4 := by have := HPV.out; omega
          subst hkk hpv
          have hu1 : wrap64 ((q : Int) + 1) = (q : Int) + 1 := by have := HQ8.out; unfold wrap64; omega
          have hu2 : ((q : Int) + 1) % 4294967296 = (q : Int) + 1 := by have := HQ8.out; omega
          have hu3 : IntKind.i64.wrap ((q : Int) + 1) = (q : Int) + 1 := IntWalk.i64_in _ (by have := HQ8.out; omega)
          have hu4 : IntKind.u32.wrap ((q : Int) + 1) = (q : Int) + 1 := hu2
          have hx2r := hovr
          have ha1 : wrap64 (ov - 1) = ov - 1 := by unfold wrap64; omega
          have ha2 : wrap64 (2 * (ov - 1)) = 2 * (ov - 1) := by unfold wrap64; omega
          have ha3 : wrap64 (1 + 2 * (ov - 1)) = 1 + 2 * (ov - 1) := by unfold wrap64; omega
          have ha4 : IntKind.i64.wrap (ov - 1) = ov - 1 := IntWalk.i64_in _ (by omega)
          have ha5 : IntKind.i64.wrap (2 * (ov - 1)) = 2 * (ov - 1) := IntWalk.i64_in _ (by omega)
          have ha6 : IntKind.i64.wrap (1 + 2 * (ov - 1)) = 1 + 2 * (ov - 1) := IntWalk.i64_in _ (by omega)
          have ha7 : IntKind.i64.wrap 1 = 1 := IntWalk.i64_in _ (by omega)
          have E := Lib.hid (show midS n 0 st q q = ((0, false, false, false), { st with pls := st.pls.set q (4, ov), ws := wrt n st.ws q (1 + 2 * (ov - 1)) (q + 1), ts := Cache.after n st.ws.length st.ts q (1 + 2 * (ov - 1)) true }) by unfold midS; rw [HZ.out]; rw [if_pos rfl, Int.toNat_natCast]; unfold lockS; dsimp only; rw [if_neg (by rw [HSV.out]; decide), if_neg (by rw [HSV.out]; decide), if_neg (by rw [HSV.out]; decide), if_pos HSV.out, HX2.out, show nextA 0 ov = 1 + 2 * (ov - 1) by unfold nextA; omega])
          have KA := Ref04.storeR W'.drew (g1.drewN 1) HF.out HK64.out HWS.out q (1 + 2 * (ov - 1)) (q + 1)
          have HKA := Lib.hid KA
          have h1d := h1.keep ((Upd.refl (fun _ => False) W').drewN 1) (fun _ _ => id)
          clear KA hx2r hovr
          go_wp2_with fail
          go_region_held3 (fun w' => w'.cell? ⟨x, 1, none⟩ = some (.int .i64 0) ∧ w'.cell? ⟨x, 3, none⟩ = some (.slice (some ⟨ob, 0, none⟩) st.seats.length st.seats.length) ∧ w'.cell? ⟨ob, q, none⟩ = some (.int .i64 ov)) ((first | exact ⟨c1, c3, o1⟩ | exact ⟨e1, e3, m5⟩))
            ((go_at_call 98; refine HKA.out.mono ?_; rintro e w5 ⟨rfl, R', hR5, u5, hR5s⟩; have e1 := cell_upd u5 c1 nx; have e3 := cell_upd u5 c3 nx; have m5 := cell_upd u5 o1 no))
          have h2 := h1d.keep u5 (fun i hi h => HDD.out i h hi)
          have R5 := (R1.drewN 1).upd u5 nD1
          have Q5 := (R0.drewN 1).upd u5 nD
          have up5 : Upd (fun i => fm x sx sb db pc ob i ∨ R i) w w5 := (UP1.out.drewN 1).trans (u5.mono fun i _ h => .inr h)
          have HRS : Hid (∀ i, R' i → (R i ∨ w.heap.size + 2 ≤ i) ∧ i ≠ D + 1 ∧ i ≠ ob) := Lib.hid fun i hi => by
            rcases hR5s i hi with h | h
            · exact ⟨.inl h, by have := HLR.out i h; omega, fun e => HDD.out i h (by rw [e]; simp [fm])⟩
            · have := HWD2.out; have := HD.out; have := HLM.out ob (by simp [fm]); have h : W'.heap.size ≤ i := h; exact ⟨.inr (by omega), by omega, by omega⟩
          clear h1 g1 R0 R1 c0 c1 c2 c3 s0 s1 p1 o1 u5 e1 e3 m5 h1d HKA
          go_wp2_with fail
          go_meet
          case rel => exact ⟨4, (0, false, false, false), _, ol, rfl, rfl, E.out, Mid.set HPL.out 4 ov rfl rfl rfl (fun _ => HOV.out), h2, ⟨R', hR5, fun i hi => (HRS.out i hi).1⟩, by simpa [dmcells, b2i] using R5, Q5, up5⟩
        · have hkk : kk = 15 := by have := HKK.out; have := HPV.out; omega
          have hpv : pv = 5 := by have := HPV.out; omega
          subst hkk hpv
          obtain ⟨g, hg⟩ : ∃ g, rd n st.ws q la = g := ⟨_, rfl⟩
          have E := Lib.hid (show midS n 0 st q q = ((if g = 0 then 1 else 0, false, false, false), { st with ts := Cache.after n st.ws.length st.ts q la false }) by unfold midS; rw [HZ.out]; rw [if_pos rfl, Int.toNat_natCast]; unfold lockS; dsimp only; rw [if_neg (by rw [HSV.out]; decide), if_neg (by rw [HSV.out]; decide), if_neg (by rw [HSV.out]; decide), if_neg (by rw [HSV.out]; decide), HLA.out, hg])
          have KA := Ref04.loadR W' g1 HF.out HK64.out HWS.out q la
          rw [hg] at KA
          have HKA := Lib.hid KA
          clear KA hg
          go_wp2_with fail
          refine HKA.out.mono ?_
          rintro e w5 ⟨rfl, R', hR5, u5, hR5s⟩
          have h2 := h1.keep u5 (fun i hi h => HDD.out i h hi)
          have R5 := R1.upd u5 nD1
          have Q5 := R0.upd u5 nD
          have up5 : Upd (fun i => fm x sx sb db pc ob i ∨ R i) w w5 := UP1.out.trans (u5.mono fun i _ h => .inr h)
          have HRS : Hid (∀ i, R' i → (R i ∨ w.heap.size + 2 ≤ i) ∧ i ≠ D + 1 ∧ i ≠ ob) := Lib.hid fun i hi => by
            rcases hR5s i hi with h | h
            · exact ⟨.inl h, by have := HLR.out i h; omega, fun e => HDD.out i h (by rw [e]; simp [fm])⟩
            · have := HWD2.out; have := HD.out; have := HLM.out ob (by simp [fm]); have h : W'.heap.size ≤ i := h; exact ⟨.inr (by omega), by omega, by omega⟩
          have y0 := R5.cell (i := 0) rfl
          have z0 := R5.frozen 0
          clear h1 g1 R0 R1 c0 c1 c2 c3 s0 s1 p1 o1 u5
          by_cases hgn : g = 0
          · subst hgn
            rw [if_pos rfl] at E
            go_wp2_with fail
            have RE := R5.set 0 (.int .i64 1)
            have UE := Upd.one w5 (D + 1) 0 (.int .i64 1)
            go_meet
            case rel => exact ⟨4, (1, false, false, false), _, ol, rfl, rfl, E.out, Mid.stay rfl rfl (fun e => by rw [fin_yes HZ.out (by decide)] at e; cases e), h2.keep UE (fun i hi e => hDm1 i hi e), ⟨R', hR5.keep UE (fun i hi e => (HRS.out i hi).2.1 e), fun i hi => (HRS.out i hi).1⟩, by simpa [dmcells, b2i] using RE, Q5.upd UE (by omega), up5.then UE (fun i hi e => by have := HD.out; omega)⟩
          · have hgn' : (g == 0) = false := by simpa using hgn
            rw [if_neg hgn] at E
            go_wp2_with fail
            go_meet
            case rel => exact ⟨4, (0, false, false, false), _, ol, rfl, rfl, E.out, Mid.stay rfl rfl (fun _ => ⟨HSV.out, fun _ => by rw [HOV.out, HX2.out]⟩), h2, ⟨R', hR5, fun i hi => (HRS.out i hi).1⟩, by simpa [dmcells, b2i] using R5, Q5, up5⟩
      · rcases hs with rfl | rfl | rfl | ⟨rfl, rfl⟩
        · have hkk : kk = 31 := by have := HKK.out; have := HPV.out; omega
          have hpv : pv = 1 := by have := HPV.out; omega
          subst hkk hpv
          obtain ⟨g, hg⟩ : ∃ g, rd n st.ws q na = g := ⟨_, rfl⟩
          have hgw := rd_wd HWD.out n q na
          rw [hg] at hgw
          have E := Lib.hid (show midS n 0 st q q = ((0, false, false, false), { st with pls := st.pls.set q (if g = 0 then 1 else 3, g), ts := Cache.after n st.ws.length st.ts q na false }) by unfold midS; rw [HZ.out]; rw [if_neg (by decide), if_pos rfl, Int.toNat_natCast]; unfold unlS; dsimp only; rw [if_pos (by rw [HSV.out]; decide), HNA.out, hg, if_pos HSV.out])
          have KA := Ref04.loadR W'.drew (g1.drewN 1) HF.out HK64.out HWS.out q na
          rw [hg] at KA
          have HKA := Lib.hid KA
          have hgi : IntKind.i64.wrap g = g := IntWalk.i64_in _ (by omega)
          have h1d := h1.keep ((Upd.refl (fun _ => False) W').drewN 1) (fun _ _ => id)
          clear KA hg
          go_wp2_with fail
          go_region_held3 (fun w' => w'.cell? ⟨x, 3, none⟩ = some (.slice (some ⟨ob, 0, none⟩) st.seats.length st.seats.length)) ((first | exact c3 | exact e3 | exact f3))
            ((go_at_call 100; refine HKA.out.mono ?_; rintro e w5 ⟨rfl, R', hR5, u5, hR5s⟩; have e3 := cell_upd u5 c3 nx; have A5 := h1d.keep u5 (fun i hi h => HDD.out i h hi); have m5 := cell_upd u5 o1 no; have fz5 := A5.orow.frozen q; have A6 := A5.setOt q g hgw; have f3 := A6.top.cell (i := 3) rfl))
          have R5 := (R1.drewN 1).upd u5 nD1
          have Q5 := (R0.drewN 1).upd u5 nD
          have up5 : Upd (fun i => fm x sx sb db pc ob i ∨ R i) w w5 := (UP1.out.drewN 1).trans (u5.mono fun i _ h => .inr h)
          have HRS : Hid (∀ i, R' i → (R i ∨ w.heap.size + 2 ≤ i) ∧ i ≠ D + 1 ∧ i ≠ ob) := Lib.hid fun i hi => by
            rcases hR5s i hi with h | h
            · exact ⟨.inl h, by have := HLR.out i h; omega, fun e => HDD.out i h (by rw [e]; simp [fm])⟩
            · have := HWD2.out; have := HD.out; have := HLM.out ob (by simp [fm]); have h : W'.heap.size ≤ i := h; exact ⟨.inr (by omega), by omega, by omega⟩
          have U6 := Upd.one w5 ob q (.int .i64 g)
          have hoD : ob ≠ D ∧ ob ≠ D + 1 := ⟨hDm _ (by simp [fm]), hDm1 _ (by simp [fm])⟩
          have R6 := R5.upd U6 (fun e => hoD.2 e.symm)
          have Q6 := Q5.upd U6 (fun e => hoD.1 e.symm)
          have hR6 := hR5.keep U6 (fun i hi e => (HRS.out i hi).2.2 e)
          have up6 := up5.trans (U6.mono fun i _ e => (by rw [e]; simp [fm] : fm x sx sb db pc ob i ∨ R i))
          obtain ⟨w6, hw6⟩ : ∃ w6, w5.setCell ⟨ob, q, none⟩ (.int .i64 g) = w6 := ⟨_, rfl⟩
          rw [hw6] at A6 R6 Q6 hR6 up6 ⊢
          have o6 := A6.orow.cell (ii_get (t := q) (by rw [A6.l2]; exact hq))
          rw [is_set _ _ _ _ HOL.out, if_pos rfl] at o6
          have t3 := A6.top.cell (i := 3) rfl
          clear hw6 e3 f3 m5 fz5 A5 u5 h1 h1d g1 R0 R1 c0 c1 c2 c3 s0 s1 p1 o1 R5 Q5 up5 hR5 U6 HKA
          by_cases hgn : g = 0
          · subst hgn
            rw [if_pos rfl] at E
            go_wp2_with fail
            go_meet
            case rel => exact ⟨1, (0, false, false, false), _, (ol.set q 0), rfl, rfl, E.out, Mid.setO HPL.out HOL.out 1 0 rfl rfl rfl, A6, ⟨R', hR6, fun i hi => (HRS.out i hi).1⟩, by simpa [dmcells, b2i] using R6, Q6, up6⟩
          · have hgn' : (g == 0) = false := by simpa using hgn
            have hgn2 : (g != 0) = true := by simpa using hgn
            rw [if_neg hgn] at E
            go_wp2_with fail
            go_meet
            case rel => exact ⟨3, (0, false, false, false), _, (ol.set q g), rfl, rfl, E.out, Mid.setO HPL.out HOL.out 3 g rfl rfl rfl, A6, ⟨R', hR6, fun i hi => (HRS.out i hi).1⟩, by simpa [dmcells, b2i] using R6, Q6, up6⟩
        · have hkk : kk = 32 := by have := HKK.out; have := HPV.out; omega
          have hpv : pv = 2 := by have := HPV.out; omega
          subst hkk hpv
          obtain ⟨g, hg⟩ : ∃ g, (Mem.inB (q : Int) n && Mem.casB st.ws 0 (q + 1)) = g := ⟨_, rfl⟩
          have E := Lib.hid (show midS n 0 st q q = if g = true then ((3, false, false, false), { st with ws := Mem.put st.ws 0 0, ts := Cache.after n st.ws.length st.ts q 0 true }) else ((0, false, false, false), { st with pls := st.pls.set q (2, x2), ts := Cache.after n st.ws.length st.ts q 0 true }) by unfold midS; rw [HZ.out]; rw [if_neg (by decide), if_pos rfl, Int.toNat_natCast]; unfold unlS; dsimp only; rw [if_neg (by rw [HSV.out]; decide), if_pos HSV.out, hg, HX2.out]; cases g <;> rfl)
          have hu1 : wrap64 ((q : Int) + 1) = (q : Int) + 1 := by have := HQ8.out; unfold wrap64; omega
          have hu2 : ((q : Int) + 1) % 4294967296 = (q : Int) + 1 := by have := HQ8.out; omega
          have hu3 : IntKind.i64.wrap ((q : Int) + 1) = (q : Int) + 1 := IntWalk.i64_in _ (by have := HQ8.out; omega)
          have hu4 : IntKind.u32.wrap ((q : Int) + 1) = (q : Int) + 1 := hu2
          have KA := Ref04.casR W' g1 HF.out HK64.out HWS.out q 0 (q + 1) 0
          rw [hg] at KA
          have HKA := Lib.hid KA
          clear KA hg
          go_wp2_with fail
          refine HKA.out.mono ?_
          rintro e w5 ⟨rfl, R', hR5, u5, hR5s⟩
          have h2 := h1.keep u5 (fun i hi h => HDD.out i h hi)
          have R5 := R1.upd u5 nD1
          have Q5 := R0.upd u5 nD
          have up5 : Upd (fun i => fm x sx sb db pc ob i ∨ R i) w w5 := UP1.out.trans (u5.mono fun i _ h => .inr h)
          have HRS : Hid (∀ i, R' i → (R i ∨ w.heap.size + 2 ≤ i) ∧ i ≠ D + 1 ∧ i ≠ ob) := Lib.hid fun i hi => by
            rcases hR5s i hi with h | h
            · exact ⟨.inl h, by have := HLR.out i h; omega, fun e => HDD.out i h (by rw [e]; simp [fm])⟩
            · have := HWD2.out; have := HD.out; have := HLM.out ob (by simp [fm]); have h : W'.heap.size ≤ i := h; exact ⟨.inr (by omega), by omega, by omega⟩
          have y0 := R5.cell (i := 0) rfl
          have z0 := R5.frozen 0
          clear h1 g1 R0 R1 c0 c1 c2 c3 s0 s1 p1 o1 u5
          cases g with
          | true =>
            rw [if_pos rfl] at E hR5
            go_wp2_with fail
            have RE := R5.set 0 (.int .i64 3)
            have UE := Upd.one w5 (D + 1) 0 (.int .i64 3)
            go_meet
            case rel => exact ⟨2, (3, false, false, false), _, ol, rfl, rfl, E.out, Mid.stay rfl rfl (fun e => by rw [fin_yes HZ.out (by decide)] at e; cases e), h2.keep UE (fun i hi e => hDm1 i hi e), ⟨R', hR5.keep UE (fun i hi e => (HRS.out i hi).2.1 e), fun i hi => (HRS.out i hi).1⟩, by simpa [dmcells, b2i] using RE, Q5.upd UE (by omega), up5.then UE (fun i hi e => by have := HD.out; omega)⟩
          | false =>
            rw [if_neg (by decide)] at E hR5
            go_wp2_with fail
            go_meet
            case rel => exact ⟨2, (0, false, false, false), _, ol, rfl, rfl, E.out, Mid.set HPL.out 2 x2 rfl rfl rfl (by omega), h2, ⟨R', hR5, fun i hi => (HRS.out i hi).1⟩, by simpa [dmcells, b2i] using R5, Q5, up5⟩
        · have hkk : kk = 33 := by have := HKK.out; have := HPV.out; omega
          have hpv : pv = 3 := by have := HPV.out; omega
          subst hkk hpv
          obtain ⟨g, hg⟩ : ∃ g, rd n st.ws q na = g := ⟨_, rfl⟩
          have hgw := rd_wd HWD.out n q na
          rw [hg] at hgw
          have E := Lib.hid (show midS n 0 st q q = ((0, false, false, false), { st with pls := st.pls.set q (if g = 0 then 2 else 3, g), ts := Cache.after n st.ws.length st.ts q na false }) by unfold midS; rw [HZ.out]; rw [if_neg (by decide), if_pos rfl, Int.toNat_natCast]; unfold unlS; dsimp only; rw [if_pos (by rw [HSV.out]; decide), HNA.out, hg, if_neg (show ¬ (st.pls.getD q (0, 0)).1 = 0 by rw [HSV.out]; decide)])
          have KA := Ref04.loadR W'.drew (g1.drewN 1) HF.out HK64.out HWS.out q na
          rw [hg] at KA
          have HKA := Lib.hid KA
          have hgi : IntKind.i64.wrap g = g := IntWalk.i64_in _ (by omega)
          have h1d := h1.keep ((Upd.refl (fun _ => False) W').drewN 1) (fun _ _ => id)
          clear KA hg
          go_wp2_with fail
          go_region_held3 (fun w' => w'.cell? ⟨x, 3, none⟩ = some (.slice (some ⟨ob, 0, none⟩) st.seats.length st.seats.length)) ((first | exact c3 | exact e3 | exact f3))
            ((go_at_call 100; refine HKA.out.mono ?_; rintro e w5 ⟨rfl, R', hR5, u5, hR5s⟩; have e3 := cell_upd u5 c3 nx; have A5 := h1d.keep u5 (fun i hi h => HDD.out i h hi); have m5 := cell_upd u5 o1 no; have fz5 := A5.orow.frozen q; have A6 := A5.setOt q g hgw; have f3 := A6.top.cell (i := 3) rfl))
          have R5 := (R1.drewN 1).upd u5 nD1
          have Q5 := (R0.drewN 1).upd u5 nD
          have up5 : Upd (fun i => fm x sx sb db pc ob i ∨ R i) w w5 := (UP1.out.drewN 1).trans (u5.mono fun i _ h => .inr h)
          have HRS : Hid (∀ i, R' i → (R i ∨ w.heap.size + 2 ≤ i) ∧ i ≠ D + 1 ∧ i ≠ ob) := Lib.hid fun i hi => by
            rcases hR5s i hi with h | h
            · exact ⟨.inl h, by have := HLR.out i h; omega, fun e => HDD.out i h (by rw [e]; simp [fm])⟩
            · have := HWD2.out; have := HD.out; have := HLM.out ob (by simp [fm]); have h : W'.heap.size ≤ i := h; exact ⟨.inr (by omega), by omega, by omega⟩
          have U6 := Upd.one w5 ob q (.int .i64 g)
          have hoD : ob ≠ D ∧ ob ≠ D + 1 := ⟨hDm _ (by simp [fm]), hDm1 _ (by simp [fm])⟩
          have R6 := R5.upd U6 (fun e => hoD.2 e.symm)
          have Q6 := Q5.upd U6 (fun e => hoD.1 e.symm)
          have hR6 := hR5.keep U6 (fun i hi e => (HRS.out i hi).2.2 e)
          have up6 := up5.trans (U6.mono fun i _ e => (by rw [e]; simp [fm] : fm x sx sb db pc ob i ∨ R i))
          obtain ⟨w6, hw6⟩ : ∃ w6, w5.setCell ⟨ob, q, none⟩ (.int .i64 g) = w6 := ⟨_, rfl⟩
          rw [hw6] at A6 R6 Q6 hR6 up6 ⊢
          have o6 := A6.orow.cell (ii_get (t := q) (by rw [A6.l2]; exact hq))
          rw [is_set _ _ _ _ HOL.out, if_pos rfl] at o6
          have t3 := A6.top.cell (i := 3) rfl
          clear hw6 e3 f3 m5 fz5 A5 u5 h1 h1d g1 R0 R1 c0 c1 c2 c3 s0 s1 p1 o1 R5 Q5 up5 hR5 U6 HKA
          by_cases hgn : g = 0
          · subst hgn
            rw [if_pos rfl] at E
            go_wp2_with fail
            go_meet
            case rel => exact ⟨2, (0, false, false, false), _, (ol.set q 0), rfl, rfl, E.out, Mid.setO HPL.out HOL.out 2 0 rfl rfl rfl, A6, ⟨R', hR6, fun i hi => (HRS.out i hi).1⟩, by simpa [dmcells, b2i] using R6, Q6, up6⟩
          · have hgn' : (g == 0) = false := by simpa using hgn
            have hgn2 : (g != 0) = true := by simpa using hgn
            rw [if_neg hgn] at E
            go_wp2_with fail
            go_meet
            case rel => exact ⟨3, (0, false, false, false), _, (ol.set q g), rfl, rfl, E.out, Mid.setO HPL.out HOL.out 3 g rfl rfl rfl, A6, ⟨R', hR6, fun i hi => (HRS.out i hi).1⟩, by simpa [dmcells, b2i] using R6, Q6, up6⟩
        · have hkk : kk = 34 := by have := HKK.out; have := HPV.out; omega
          have hpv : pv = 4 := by have := HPV.out; omega
          subst hkk hpv
          have hx2r := hovr
          have ha1 : wrap64 (ov - 1) = ov - 1 := by unfold wrap64; omega
          have ha2 : wrap64 (2 * (ov - 1)) = 2 * (ov - 1) := by unfold wrap64; omega
          have ha3 : wrap64 (2 + 2 * (ov - 1)) = 2 + 2 * (ov - 1) := by unfold wrap64; omega
          have ha4 : IntKind.i64.wrap (ov - 1) = ov - 1 := IntWalk.i64_in _ (by omega)
          have ha5 : IntKind.i64.wrap (2 * (ov - 1)) = 2 * (ov - 1) := IntWalk.i64_in _ (by omega)
          have ha6 : IntKind.i64.wrap (2 + 2 * (ov - 1)) = 2 + 2 * (ov - 1) := IntWalk.i64_in _ (by omega)
          have ha7 : IntKind.i64.wrap 2 = 2 := IntWalk.i64_in _ (by omega)
          have E := Lib.hid (show midS n 0 st q q = ((3, false, false, false), { st with ws := wrt n st.ws q (2 + 2 * (ov - 1)) 0, ts := Cache.after n st.ws.length st.ts q (2 + 2 * (ov - 1)) true }) by unfold midS; rw [HZ.out]; rw [if_neg (by decide), if_pos rfl, Int.toNat_natCast]; unfold unlS; dsimp only; rw [if_neg (by rw [HSV.out]; decide), if_neg (by rw [HSV.out]; decide), HX2.out, show nextA 0 ov + 1 = 2 + 2 * (ov - 1) by unfold nextA; omega])
          have KA := Ref04.storeR W'.drew (g1.drewN 1) HF.out HK64.out HWS.out q (2 + 2 * (ov - 1)) 0
          have HKA := Lib.hid KA
          have h1d := h1.keep ((Upd.refl (fun _ => False) W').drewN 1) (fun _ _ => id)
          clear KA hx2r hovr
          go_wp2_with fail
          go_region_held3 (fun w' => w'.cell? ⟨x, 1, none⟩ = some (.int .i64 0) ∧ w'.cell? ⟨x, 3, none⟩ = some (.slice (some ⟨ob, 0, none⟩) st.seats.length st.seats.length) ∧ w'.cell? ⟨ob, q, none⟩ = some (.int .i64 ov)) ((first | exact ⟨c1, c3, o1⟩ | exact ⟨e1, e3, m5⟩))
            ((go_at_call 98; refine HKA.out.mono ?_; rintro e w5 ⟨rfl, R', hR5, u5, hR5s⟩; have e1 := cell_upd u5 c1 nx; have e3 := cell_upd u5 c3 nx; have m5 := cell_upd u5 o1 no))
          have h2 := h1d.keep u5 (fun i hi h => HDD.out i h hi)
          have R5 := (R1.drewN 1).upd u5 nD1
          have Q5 := (R0.drewN 1).upd u5 nD
          have up5 : Upd (fun i => fm x sx sb db pc ob i ∨ R i) w w5 := (UP1.out.drewN 1).trans (u5.mono fun i _ h => .inr h)
          have HRS : Hid (∀ i, R' i → (R i ∨ w.heap.size + 2 ≤ i) ∧ i ≠ D + 1 ∧ i ≠ ob) := Lib.hid fun i hi => by
            rcases hR5s i hi with h | h
            · exact ⟨.inl h, by have := HLR.out i h; omega, fun e => HDD.out i h (by rw [e]; simp [fm])⟩
            · have := HWD2.out; have := HD.out; have := HLM.out ob (by simp [fm]); have h : W'.heap.size ≤ i := h; exact ⟨.inr (by omega), by omega, by omega⟩
          have y0 := R5.cell (i := 0) rfl
          have z0 := R5.frozen 0
          clear h1 g1 R0 R1 c0 c1 c2 c3 s0 s1 p1 o1 u5 e1 e3 m5 h1d HKA
          go_wp2_with fail
          have RE := R5.set 0 (.int .i64 3)
          have UE := Upd.one w5 (D + 1) 0 (.int .i64 3)
          go_meet
          case rel => exact ⟨4, (3, false, false, false), _, ol, rfl, rfl, E.out, Mid.stay rfl rfl (fun e => by rw [fin_yes HZ.out (by decide)] at e; cases e), h2.keep UE (fun i hi e => hDm1 i hi e), ⟨R', hR5.keep UE (fun i hi e => (HRS.out i hi).2.1 e), fun i hi => (HRS.out i hi).1⟩, by simpa [dmcells, b2i] using RE, Q5.upd UE (by omega), up5.then UE (fun i hi e => by have := HD.out; omega)⟩
    case rest =>
      obtain ⟨pv', d, st', ol', rfl, rfl, hmid, hM, h5, ⟨R', g5, hR5s⟩, r5, q5, u5⟩ := hcut
      obtain ⟨w5, hw5⟩ : ∃ w5, wc = w5 := ⟨_, rfl⟩
      rw [hw5] at h5 g5 r5 q5 u5 ⊢
      obtain ⟨hss, hpll, hoth, hown⟩ := hM
      rw [hmid] at HST
      dsimp only at HST
      rw [hss] at HST
      obtain ⟨ev, b1, b2, b3⟩ := d
      obtain ⟨i1, hi1⟩ : ∃ i, b2i b1 = i := ⟨_, rfl⟩
      obtain ⟨i2, hi2⟩ : ∃ i, b2i b2 = i := ⟨_, rfl⟩
      obtain ⟨i3, hi3⟩ : ∃ i, b2i b3 = i := ⟨_, rfl⟩
      replace r5 : Row w5 (D + 1) [.int .i64 ev, .int .i64 i1, .int .i64 i2, .int .i64 i3] := by rw [← hi1, ← hi2, ← hi3]; exact r5
      have HDM := Lib.hid (show didm (ev, b1, b2, b3) = .agg #[.int .i64 ev, .int .i64 i1, .int .i64 i2, .int .i64 i3] by rw [← hi1, ← hi2, ← hi3]; rfl)
      obtain ⟨fv, hfv⟩ : ∃ fv, fin st.seats (q : Int) ev = fv := ⟨_, rfl⟩
      have hown : fv.1 = false → (st'.pls.getD q (0, 0)).1 = pv' ∧ (((z = 1 ∧ 2 ≤ pv') ∨ (z = 3 ∧ pv' = 3)) → ol'.getD q 0 = (st'.pls.getD q (0, 0)).2) := by rw [← hfv]; exact hown
      obtain ⟨fb, fl⟩ := fv
      have HST2 := Lib.hid (show Mcs.step n 0 st q q now = ((ev, b1, b2, b3), { st' with seats := fl, pls := if fb = true then st'.pls.set q (0, 0) else st'.pls }) by have := HST.out; rw [hfv] at this; exact this)
      have hfl : fl.length = st.seats.length := by have := fin_len st.seats (q : Int) ev; rw [hfv] at this; exact this
      have hfs : fb = false → fl = st.seats := fun e => by
        rcases fin_cases st.seats (q : Int) ev with ⟨hn, k⟩ | ⟨k, hk, hkl, hn, hs⟩
        · rw [hfv] at k; exact k
        · exfalso
          obtain rfl : q = k := by omega
          have : (fin st.seats (q : Int) ev).1 = true := by unfold fin; rw [state_nat, if_neg (by omega)]
          rw [hfv] at this
          rw [e] at this; cases this
      have hft : ∀ u, u ≠ q → stt fl u = stt st.seats u := fun u hu => by
        rcases fin_cases st.seats (q : Int) ev with ⟨hn, k⟩ | ⟨k, hk, hkl, hn, hs⟩
        · rw [hfv] at k; rw [show fl = st.seats from k]
        · obtain rfl : q = k := by omega
          rw [hfv] at hs
          rw [show fl = _ from hs, stt_set _ _ _ hkl, if_neg hu]
      have hpq : q < st.pls.length := HPL.out
      have hpq' : q < st'.pls.length := by rw [hpll]; exact hpq
      have hst : stt st.seats q = z := by rw [← state_nat]; exact HZ.out
      have FREL : Hid (Rel ⟨fl, (if fb = true then st'.pls.set q (0, 0) else st'.pls), st'.ws, st'.ts⟩ ol') := Lib.hid fun u hu => by
        by_cases e : u = q
        · subst e
          cases fb with
          | true =>
            have : McsP.sp (⟨fl, st'.pls.set u (0, 0), st'.ws, st'.ts⟩ : St) u = 0 := by
              show ((st'.pls.set u (0, 0)).getD u (0, 0)).1 = 0
              rw [McsP.pset _ _ hpq', if_pos rfl]
            rw [show McsP.sp (⟨fl, (if true = true then st'.pls.set u (0, 0) else st'.pls), st'.ws, st'.ts⟩ : St) u = 0 from this] at hu
            omega
          | false =>
            obtain ⟨k1, k2⟩ := hown rfl
            rw [show stt (St.seats ⟨fl, (if false = true then st'.pls.set u (0, 0) else st'.pls), st'.ws, st'.ts⟩) u = z by rw [← hst]; show stt fl u = _; rw [hfs rfl]] at hu
            rw [show McsP.sp (⟨fl, (if false = true then st'.pls.set u (0, 0) else st'.pls), st'.ws, st'.ts⟩ : St) u = pv' from k1] at hu
            exact k2 hu
        · obtain ⟨k1, k2⟩ := hoth u e
          have e1 : McsP.sp (⟨fl, (if fb = true then st'.pls.set q (0, 0) else st'.pls), st'.ws, st'.ts⟩ : St) u = McsP.sp st u ∧ McsP.ot (⟨fl, (if fb = true then st'.pls.set q (0, 0) else st'.pls), st'.ws, st'.ts⟩ : St) u = McsP.ot st u := by
            unfold McsP.sp McsP.ot
            cases fb with
            | true =>
              show ((st'.pls.set q (0, 0)).getD u (0, 0)).1 = _ ∧ ((st'.pls.set q (0, 0)).getD u (0, 0)).2 = _
              rw [McsP.pset _ _ hpq', if_neg e, k1]; exact ⟨rfl, rfl⟩
            | false =>
              show (st'.pls.getD u (0, 0)).1 = _ ∧ (st'.pls.getD u (0, 0)).2 = _
              rw [k1]; exact ⟨rfl, rfl⟩
          rw [e1.1] at hu
          rw [e1.2, k2]
          exact HREL.out u (by rw [← hft u e]; exact hu)
      have FPC : Hid (pcl (⟨fl, (if fb = true then st'.pls.set q (0, 0) else st'.pls), st'.ws, st'.ts⟩ : St) = if fb = true then ((pcl st).set q pv').set q 0 else (pcl st).set q pv') := Lib.hid (by
        have hpl2 : q < (pcl st).length := by unfold pcl; simpa using hpq
        have hpl3 : (pcl st).length = st.pls.length := by unfold pcl; simp
        cases fb with
        | true =>
          show (st'.pls.set q (0, 0)).map (·.1) = ((pcl st).set q pv').set q 0
          rw [List.set_set]
          refine pcl_of _ _ (by rw [List.length_set, List.length_set, hpl3]; exact hpll) fun u => ?_
          rw [McsP.pset _ _ hpq', is_set _ _ _ _ hpl2]
          by_cases e : u = q
          · rw [if_pos e, if_pos e]
          · rw [if_neg e, if_neg e, (hoth u e).1, pcl_get]; rfl
        | false =>
          show st'.pls.map (·.1) = (pcl st).set q pv'
          refine pcl_of _ _ (by rw [List.length_set, hpl3]; exact hpll) fun u => ?_
          rw [is_set _ _ _ _ hpl2]
          by_cases e : u = q
          · subst e; rw [if_pos rfl]; exact (hown rfl).1
          · rw [if_neg e, (hoth u e).1, pcl_get]; rfl)
      have hRb : ∀ i, R' i → ¬ (i = sb ∨ i = db) ∧ i ≠ D ∧ i ≠ pc := fun i hi => by
        rcases hR5s i hi with h | h
        · refine ⟨fun e => HDD.out i h (by rcases e with rfl | rfl <;> simp [fm]), fun e => by have := HLR.out i h; omega, fun e => HDD.out i h (by rw [e]; simp [fm])⟩
        · have := HD.out
          have k1 := HLM.out sb (by simp [fm])
          have k2 := HLM.out db (by simp [fm])
          have k3 := HLM.out pc (by simp [fm])
          exact ⟨fun e => by omega, by omega, by omega⟩
      have HRB := Lib.hid hRb
      have HRS := Lib.hid hR5s
      have d2 := h5.top.cell (i := 2) rfl
      have d3 := h5.prow.cell (ii_get (t := q) (by rw [h5.l1]; exact hq))
      have d4 := h5.prow.frozen q
      have U6 := Upd.one w5 pc q (.int .i64 pv')
      have hpn : pc ≠ D ∧ pc ≠ D + 1 := ⟨hDm pc (by simp [fm]), hDm1 pc (by simp [fm])⟩
      have h6 := h5.setPc q pv'
      have g6 := g5.keep U6 (fun i hi e => (HRB.out i hi).2.2 e)
      have r6 := r5.upd U6 (fun e => hpn.2 e.symm)
      have q6 := q5.upd U6 (fun e => hpn.1 e.symm)
      have u6 := u5.trans (U6.mono fun i _ e => (by rw [e]; simp [fm] : fm x sx sb db pc ob i ∨ R i))
      clear hRb hR5s hown hoth hfs hft hfl hst hpq hpq' hi1 hi2 hi3 hss hpll hw5 HST hmid h1 g1 R0 R1 c0 c1 c2 c3 s0 s1 p1 o1 UP1
      go_upto_region 42 with (fail)
      obtain ⟨w6, hw6⟩ : ∃ w6, w5.setCell ⟨pc, q, none⟩ (.int .i64 pv') = w6 := ⟨_, rfl⟩
      rw [hw6] at h6 g6 r6 q6 u6 ⊢
      have g0 := h6.top.cell (i := 0) rfl
      have g1' := r6.cell (i := 0) rfl
      have hxb : ¬ (x = sb ∨ x = db) := fun e => by rcases e with e | e; exact h6.e1.2.1 e; exact h6.e1.2.2.1 e
      have hDb : ¬ (D = sb ∨ D = db) := fun e => by rcases e with e | e; exact hDm sb (by simp [fm]) e.symm; exact hDm db (by simp [fm]) e.symm
      have hD1b : ¬ (D + 1 = sb ∨ D + 1 = db) := fun e => by rcases e with e | e; exact hDm1 sb (by simp [fm]) e.symm; exact hDm1 db (by simp [fm]) e.symm
      have KE := rend_all _ _ _ _ _ _ _ (h6.seat.drewN 1) q ev
      rw [hfv] at KE
      have h6d := h6.keep ((Upd.refl (fun _ => False) w6).drewN 1) (fun _ _ => id)
      have hfl : fl.length = st.seats.length := by have := fin_len st.seats (q : Int) ev; rw [hfv] at this; exact this
      have HFL := Lib.hid hfl
      clear hfv hw6 h5 g5 r5 q5 u5 U6 d2 d3 d4 hfl
      cases fb with
      | false =>
        rw [show b2i ((false, fl) : Bool × List (Int × Int)).1 = 0 from rfl] at KE
        have HKE := Lib.hid KE
        clear KE
        go_region_held3 (fun w' => w'.cell? ⟨x, 0, none⟩ = some (.pointer (some ⟨sx, 0, none⟩)) ∧ w'.cell? ⟨D + 1, 0, none⟩ = some (.int .i64 ev)) ((first | exact ⟨g0, g1'⟩ | exact ⟨e0, e1⟩))
          ((go_at_call 102; refine HKE.out.mono ?_; rintro e w7 ⟨rfl, hs7, u7⟩; have e0 := cell_upd u7 g0 hxb; have e1 := cell_upd u7 g1' hD1b))
        have A7 := h6d.seats HFL.out hs7 u7
        have g7 := (g6.drewN 1).keep u7 (fun i hi => (HRB.out i hi).1)
        have r7 := (r6.drewN 1).upd u7 hD1b
        have q7 := (q6.drewN 1).upd u7 hDb
        have up7 : Upd (fun i => fm x sx sb db pc ob i ∨ R i) w w7 := (u6.drewN 1).trans (u7.mono fun i _ e => by rcases e with rfl | rfl <;> simp [fm])
        clear e0 e1 g0 g1' h6 h6d g6 r6 q6 u6 u7 hs7 HKE
        have y0 := r7.cell (i := 0) rfl
        have y1 := r7.cell (i := 1) rfl
        have y2 := r7.cell (i := 2) rfl
        have y3 := r7.cell (i := 3) rfl
        have z0 := q7.cell (i := 0) rfl
        have z1 := q7.cell (i := 1) rfl
        have z2 := q7.cell (i := 2) rfl
        have z3 := q7.cell (i := 3) rfl
        have k0 := q7.frozen 0
        have k1 := q7.frozen 1
        have k2 := q7.frozen 2
        have k3 := q7.frozen 3
        go_wp2_with fail
        have RE := did4 q7 (.int .i64 ev) (.int .i64 i1) (.int .i64 i2) (.int .i64 i3)
        have UE := upd4 w7 D (.int .i64 ev) (.int .i64 i1) (.int .i64 i2) (.int .i64 i3)
        obtain ⟨w9, hw9⟩ : ∃ w9, (((w7.setCell ⟨D, 0, none⟩ (.int .i64 ev)).setCell ⟨D, 1, none⟩ (.int .i64 i1)).setCell ⟨D, 2, none⟩ (.int .i64 i2)).setCell ⟨D, 3, none⟩ (.int .i64 i3) = w9 := ⟨_, rfl⟩
        rw [hw9] at RE UE ⊢
        have g0 := RE.cell (i := 0) rfl
        have g1' := RE.cell (i := 1) rfl
        have g2 := RE.cell (i := 2) rfl
        have g3 := RE.cell (i := 3) rfl
        refine bodyPost_ret (v := didm (ev, b1, b2, b3)) (by rw [HDM.out]; simp [results, Try.results97, go_sem, g0, g1', g2, g3]) rfl ?_
        rw [HST2.out]
        refine ⟨rfl, ⟨ol', ?_, FREL.out⟩, R', g7.keep UE (fun i hi e => (HRB.out i hi).2.1 e), up7.then UE (fun i hi e => by have := HD.out; omega), fun i hi => ?_⟩
        · have e := FPC.out
          show MAt x sx sb db pc ob w9 fl (pcl ⟨fl, _, st'.ws, st'.ts⟩) ol'
          rw [e]
          exact A7.keep UE (fun i hi e => hDm i hi e)
        · rcases HRS.out i hi with h | h
          · exact .inl h
          · exact .inr (by omega)
      | true =>
        rw [show b2i ((true, fl) : Bool × List (Int × Int)).1 = 1 from rfl] at KE
        have HKE := Lib.hid KE
        clear KE
        go_region_held3 (fun w' => w'.cell? ⟨x, 0, none⟩ = some (.pointer (some ⟨sx, 0, none⟩)) ∧ w'.cell? ⟨D + 1, 0, none⟩ = some (.int .i64 ev)) ((first | exact ⟨g0, g1'⟩ | exact ⟨e0, e1⟩))
          ((go_at_call 102; refine HKE.out.mono ?_; rintro e w7 ⟨rfl, hs7, u7⟩; have e0 := cell_upd u7 g0 hxb; have e1 := cell_upd u7 g1' hD1b))
        have A7' := h6d.seats HFL.out hs7 u7
        have g7' := (g6.drewN 1).keep u7 (fun i hi => (HRB.out i hi).1)
        have r7' := (r6.drewN 1).upd u7 hD1b
        have q7' := (q6.drewN 1).upd u7 hDb
        have up7' : Upd (fun i => fm x sx sb db pc ob i ∨ R i) w w7 := (u6.drewN 1).trans (u7.mono fun i _ e => by rcases e with rfl | rfl <;> simp [fm])
        have t2 := A7'.top.cell (i := 2) rfl
        rw [HFL.out] at t2
        have t4 := A7'.prow.cell (ii_get (t := q) (by rw [A7'.l1, HFL.out]; exact hq))
        have t5 := A7'.prow.frozen q
        have U8 := Upd.one w7 pc q (.int .i64 0)
        have A7 := A7'.setPc q 0
        have g7 := g7'.keep U8 (fun i hi e => (HRB.out i hi).2.2 e)
        have r7 := r7'.upd U8 (fun e => hpn.2 e.symm)
        have q7 := q7'.upd U8 (fun e => hpn.1 e.symm)
        have up7 := up7'.trans (U8.mono fun i _ e => (by rw [e]; simp [fm] : fm x sx sb db pc ob i ∨ R i))
        clear e0 e1 g0 g1' h6 h6d g6 r6 q6 u6 u7 hs7 HKE A7' g7' r7' q7' up7' U8
        go_upto_region 44 with (fail)
        obtain ⟨w8, hw8⟩ : ∃ w8, w7.setCell ⟨pc, q, none⟩ (.int .i64 0) = w8 := ⟨_, rfl⟩
        rw [hw8] at A7 g7 r7 q7 up7 ⊢
        clear hw8 t2 t4 t5
        have y0 := r7.cell (i := 0) rfl
        have y1 := r7.cell (i := 1) rfl
        have y2 := r7.cell (i := 2) rfl
        have y3 := r7.cell (i := 3) rfl
        have z0 := q7.cell (i := 0) rfl
        have z1 := q7.cell (i := 1) rfl
        have z2 := q7.cell (i := 2) rfl
        have z3 := q7.cell (i := 3) rfl
        have k0 := q7.frozen 0
        have k1 := q7.frozen 1
        have k2 := q7.frozen 2
        have k3 := q7.frozen 3
        go_wp2_with fail
        have RE := did4 q7 (.int .i64 ev) (.int .i64 i1) (.int .i64 i2) (.int .i64 i3)
        have UE := upd4 w8 D (.int .i64 ev) (.int .i64 i1) (.int .i64 i2) (.int .i64 i3)
        obtain ⟨w9, hw9⟩ : ∃ w9, (((w8.setCell ⟨D, 0, none⟩ (.int .i64 ev)).setCell ⟨D, 1, none⟩ (.int .i64 i1)).setCell ⟨D, 2, none⟩ (.int .i64 i2)).setCell ⟨D, 3, none⟩ (.int .i64 i3) = w9 := ⟨_, rfl⟩
        rw [hw9] at RE UE ⊢
        have g0 := RE.cell (i := 0) rfl
        have g1' := RE.cell (i := 1) rfl
        have g2 := RE.cell (i := 2) rfl
        have g3 := RE.cell (i := 3) rfl
        refine bodyPost_ret (v := didm (ev, b1, b2, b3)) (by rw [HDM.out]; simp [results, Try.results97, go_sem, g0, g1', g2, g3]) rfl ?_
        rw [HST2.out]
        refine ⟨rfl, ⟨ol', ?_, FREL.out⟩, R', g7.keep UE (fun i hi e => (HRB.out i hi).2.1 e), up7.then UE (fun i hi e => by have := HD.out; omega), fun i hi => ?_⟩
        · have e := FPC.out
          show MAt x sx sb db pc ob w9 fl (pcl ⟨fl, _, st'.ws, st'.ts⟩) ol'
          rw [e]
          exact A7.keep UE (fun i hi e => hDm i hi e)
        · rcases HRS.out i hi with h | h
          · exact .inl h
          · exact .inr (by omega)
end Go.Proofs.Ytemcpnickdcekaa.Ref13
