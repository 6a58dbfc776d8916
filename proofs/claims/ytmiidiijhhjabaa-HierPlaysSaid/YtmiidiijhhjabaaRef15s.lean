/- The document's queue lock of queues: its Step, by value: the same as the program's. -/
import Derived.Test.YtmiidiijhhjabaaRef15L
namespace Go.Proofs.Ytmiidiijhhjabaa.Ref15
open Go Go.RowKit Go.Proofs.Ytmiidiijhhjabaa.Heap Go.Proofs.Ytmiidiijhhjabaa.Open Go.Proofs.Ytmiidiijhhjabaa.Seat Go.Proofs.Ytmiidiijhhjabaa.Mach Go.Proofs.Ytmiidiijhhjabaa.Has Go.Proofs.Ytmiidiijhhjabaa.Ref09 Go.Proofs.Ytmiidiijhhjabaa.Modl Go.Proofs.Ytmiidiijhhjabaa.SeatP Go.Proofs.Ytmiidiijhhjabaa.StepU Go.Proofs.Ytmiidiijhhjabaa.Hier
variable {b : Bk}
theorem lockR {w : World} {st : St} {y n q : Nat} {R : Nat → Prop} (h : MAt b w st.seats st.pls) (hR : Ref04.RO w y R n st.ws st.ts) (hd : ∀ i, R i → ¬ fm b i) (hf : st.ts.length < 1000000) (n8 : n ≤ 8) (hn : st.seats.length = n) (hws : st.ws.length ≤ 100000) (hwd : Mem.Wd st.ws) (hq : q < st.seats.length) :
    Calls Try.prog 109 #[.pointer (some ⟨b.x, 0, none⟩), .pointer (some ⟨y, 0, none⟩), .int .i64 q, .int .i64 q] w fun e w' =>
      e = .returned (didm (lockS n 0 st q q).1) ∧ MAt b w' st.seats (lockS n 0 st q q).2.pls ∧
      ∃ R', Ref04.RO w' y R' n (lockS n 0 st q q).2.ws (lockS n 0 st q q).2.ts ∧ Upd (fun i => fm b i ∨ R i) w w' ∧ ∀ i, R' i → R i ∨ w.heap.size ≤ i := by
  obtain ⟨_, _, _, _, _, o1, o2⟩ := h.ok q (by rw [h.l1]; exact hq)
  rcases (show (st.pls.getD q p0).s = 0 ∨ (st.pls.getD q p0).s = 1 ∨ (st.pls.getD q p0).s = 2 ∨ (st.pls.getD q p0).s = 3 ∨ (st.pls.getD q p0).s = 4 ∨ (st.pls.getD q p0).s = 5 ∨ (st.pls.getD q p0).s = 6 ∨ (st.pls.getD q p0).s = 7 by omega) with e | e | e | e | e | e | e | e
  · exact lock0 h hR hd hf n8 hn hws hwd hq e
  · exact lock1 h hR hd hf n8 hn hws hwd hq e
  · exact lock2 h hR hd hf n8 hn hws hwd hq e
  · exact lock3 h hR hd hf n8 hn hws hwd hq e
  · exact lock4 h hR hd hf n8 hn hws hwd hq e
  · exact lock5 h hR hd hf n8 hn hws hwd hq e
  · exact lock6 h hR hd hf n8 hn hws hwd hq e
  · exact lock7 h hR hd hf n8 hn hws hwd hq e
theorem lockS_seats (k : Nat) (tl : Int) (st : St) (t : Nat) (a : Int) : (lockS k tl st t a).2.seats = st.seats := by
  unfold lockS
  dsimp only
  (repeat' split) <;> rfl
set_option maxHeartbeats 8000000 in
set_option maxRecDepth 20000 in
theorem stepOut {w : World} {st : St} {y n : Nat} {R : Nat → Prop} (h : MAt b w st.seats st.pls) (hR : Ref04.RO w y R n st.ws st.ts) (t now : Int) (hin : inB t st.seats.length = false) :
    Calls Try.prog 108 #[.pointer (some ⟨b.x, 0, none⟩), .pointer (some ⟨y, 0, none⟩), .int .i64 t, .int .i64 t, .int .i64 now] w fun e w' => e = .returned (didm (Hier.step n 0 st t t now).1) ∧ MAt b w' (Hier.step n 0 st t t now).2.seats (Hier.step n 0 st t t now).2.pls ∧
      ∃ R', Ref04.RO w' y R' n (Hier.step n 0 st t t now).2.ws (Hier.step n 0 st t t now).2.ts ∧ Upd (fun i => fm b i ∨ R i) w w' ∧ ∀ i, R' i → R i ∨ w.heap.size ≤ i := by
  have c3 := h.top.cell (i := 3) rfl
  have hxl := h.top.lt
  have hz : state st.seats t = 0 := by unfold state; rw [hin]; rfl
  have idle : Hier.step n 0 st t t now = ((0, false, false, false), st) := by
    have em : midS n 0 st t t = ((0, false, false, false), st) := by unfold midS; rw [hz, if_neg (by decide), if_neg (by decide)]
    unfold Hier.step
    rw [em]
    dsimp only
    rw [fin_none]
  rw [idle]
  clear idle
  have fin0 : ∀ w', Below w.heap.size w w' → MAt b w' st.seats st.pls ∧ ∃ R', Ref04.RO w' y R' n st.ws st.ts ∧ Upd (fun i => fm b i ∨ R i) w w' ∧ ∀ i, R' i → R i ∨ w.heap.size ≤ i := fun w' hB =>
    ⟨h.keep (Upd.of_below (S := fun _ => False) hB) (fun _ _ => id), R, hR.below hB, Upd.of_below hB, fun i hi => .inl hi⟩
  have FIN := Lib.hid fin0
  have hb : ∀ o : Obj, Below w.heap.size w (w.alloc o) := fun o => (Below.refl _ _).alloc (Nat.le_refl _) _
  clear fin0 h hR hz
  by_cases t0 : t < 0
  · go_enter Try.func108, Try.ntmps108
    go_wp2_with fail
    refine bodyPost_ret (v := didm (0, false, false, false)) (by simp [results, Try.results108, go_sem, didm, b2i]) rfl ?_
    exact ⟨rfl, FIN.out _ (hb _)⟩
  · have t1 : (st.seats.length : Int) ≤ t := by simp [inB] at hin; omega
    have t0' : decide (t < 0) = false := by simpa using t0
    clear hin
    go_enter Try.func108, Try.ntmps108
    go_wp2_with fail
    refine bodyPost_ret (v := didm (0, false, false, false)) (by simp [results, Try.results108, go_sem, didm, b2i]) rfl ?_
    exact ⟨rfl, FIN.out _ (hb _)⟩
set_option maxHeartbeats 16000000 in
set_option maxRecDepth 40000 in
theorem stepIdle {w : World} {st : St} {y n : Nat} {R : Nat → Prop} (h : MAt b w st.seats st.pls) (hR : Ref04.RO w y R n st.ws st.ts) (hd : ∀ i, R i → ¬ fm b i) (hf : st.ts.length < 1000000) (n8 : n ≤ 8) (hn : st.seats.length = n) (hws : st.ws.length ≤ 100000) (hwd : Mem.Wd st.ws) (q : Nat) (now : Int) (hq : q < st.seats.length) (h1s : state st.seats (q : Int) ≠ 1) (h3s : state st.seats (q : Int) ≠ 3) :
    Calls Try.prog 108 #[.pointer (some ⟨b.x, 0, none⟩), .pointer (some ⟨y, 0, none⟩), .int .i64 q, .int .i64 q, .int .i64 now] w fun e w' => e = .returned (didm (Hier.step n 0 st q q now).1) ∧ MAt b w' (Hier.step n 0 st q q now).2.seats (Hier.step n 0 st q q now).2.pls ∧
      ∃ R', Ref04.RO w' y R' n (Hier.step n 0 st q q now).2.ws (Hier.step n 0 st q q now).2.ts ∧ Upd (fun i => fm b i ∨ R i) w w' ∧ ∀ i, R' i → R i ∨ w.heap.size ≤ i := by
  have hp : q < st.pls.length := by rw [h.l1]; exact hq
  have hok := h.ok q hp
  obtain ⟨⟨kc, kn, ka, kl, kw, ks⟩, hx⟩ : ∃ x, st.pls.getD q p0 = x := ⟨_, rfl⟩
  rw [hx] at hok
  obtain ⟨o1, o2, o3, o4, o5, o6⟩ := hok
  dsimp only at o1 o2 o3 o4 o5 o6
  have c0 := h.top.cell (i := 0) rfl
  have c3 := h.top.cell (i := 3) rfl
  obtain ⟨cs, cd, htop⟩ := h.seat.top
  have u0 := htop.cell (i := 0) rfl
  have v0 := h.seat.st.cell (sts_get hq)
  obtain ⟨z, hz⟩ : ∃ z, state st.seats (q : Int) = z := ⟨_, rfl⟩
  have hzq : (st.seats.getD q (0, -1)).1 = z := by rw [← hz]; unfold state; rw [inB_mk hq, if_pos rfl, Int.toNat_natCast]
  rw [hzq] at v0
  have hlx := h.lt b.x (fm_all b).1
  have hls := h.lt b.sx (fm_all b).2.1
  have hlb := h.lt b.sb (fm_all b).2.2.1
  have hlm := h.lt
  have hlr := hR.lt
  have D1 : Upd (fun _ => False) w ((w.alloc (.cells #[.int .i64 0, .int .i64 0, .int .i64 0, .int .i64 0] 130)).alloc (.cells #[.int .i64 0, .int .i64 0, .int .i64 0, .int .i64 0] 130)) := ((Upd.refl _ w).alloc _).alloc _
  have h1 := h.keep D1 (fun _ _ => id)
  have g1 := hR.keep D1 (fun _ _ => id)
  have R0 : Row ((w.alloc (.cells #[.int .i64 0, .int .i64 0, .int .i64 0, .int .i64 0] 130)).alloc (.cells #[.int .i64 0, .int .i64 0, .int .i64 0, .int .i64 0] 130)) w.heap.size [.int .i64 0, .int .i64 0, .int .i64 0, .int .i64 0] := (Row.new' rfl).alloc _
  have R1 : Row ((w.alloc (.cells #[.int .i64 0, .int .i64 0, .int .i64 0, .int .i64 0] 130)).alloc (.cells #[.int .i64 0, .int .i64 0, .int .i64 0, .int .i64 0] 130)) (w.heap.size + 1) [.int .i64 0, .int .i64 0, .int .i64 0, .int .i64 0] := Row.new' (by simp)
  have up1 : Upd (fun i => fm b i ∨ R i) w ((w.alloc (.cells #[.int .i64 0, .int .i64 0, .int .i64 0, .int .i64 0] 130)).alloc (.cells #[.int .i64 0, .int .i64 0, .int .i64 0, .int .i64 0] 130)) := D1.mono fun _ _ z => z.elim
  have b1 : decide ((q : Int) < 0) = false := by rw [decide_eq_false_iff_not]; omega
  have b2 : decide ((st.seats.length : Int) ≤ (q : Int)) = false := by rw [decide_eq_false_iff_not]; omega
  have b3 : decide (st.seats.length ≤ q) = false := by rw [decide_eq_false_iff_not]; omega
  obtain ⟨D, hD⟩ : ∃ D, w.heap.size = D := ⟨_, rfl⟩
  have HD := Lib.hid hD
  obtain ⟨W, hW⟩ : ∃ W, (w.alloc (.cells #[.int .i64 0, .int .i64 0, .int .i64 0, .int .i64 0] 130)).alloc (.cells #[.int .i64 0, .int .i64 0, .int .i64 0, .int .i64 0] 130) = W := ⟨_, rfl⟩
  rw [hW] at h1 g1 R0 R1 up1
  rw [hD] at R0 R1 hlm hlr
  have HW := Lib.hid hW
  have HLM := Lib.hid hlm
  have HLR := Lib.hid hlr
  have HX := Lib.hid hx
  have hWD : W.heap.size = D + 2 := by rw [← hW, ← hD]; simp
  have HWD := Lib.hid hWD
  have nx : ¬ R b.x := fun h => hd _ h (fm_all b).1
  have nn : ¬ R b.nb := fun h => hd _ h (fm_all b).2.2.2.2.2.2.1
  have na : ¬ R b.ab := fun h => hd _ h (fm_all b).2.2.2.2.2.2.2.1
  have nw : ¬ R b.wb := fun h => hd _ h (fm_all b).2.2.2.2.2.2.2.2.2
  have nD : ¬ R D := fun h => by have := HLR.out D h; omega
  have nD1 : ¬ R (D + 1) := fun h => by have := HLR.out _ h; omega
  have HF := Lib.hid hf
  have HN := Lib.hid hn
  have HN8 := Lib.hid n8
  have HK64 := Lib.hid (show n ≤ 64 by omega)
  have HWS := Lib.hid hws
  have HDD := Lib.hid hd
  have HWDD := Lib.hid hwd
  have HST := Lib.hid (show Hier.step n 0 st q q now = ((midS n 0 st q q).1, { (midS n 0 st q q).2 with seats := (fin (midS n 0 st q q).2.seats q (midS n 0 st q q).1.1).2 }) from rfl)
  have hq1 : (0 : Int) ≤ (q : Int) := by omega
  have hq2 : (q : Int) < (st.seats.length : Int) := by omega
  have hDm : ∀ i, fm b i → i ≠ D := fun i hi e => by have := HLM.out i hi; omega
  have hDm1 : ∀ i, fm b i → i ≠ D + 1 := fun i hi e => by have := HLM.out i hi; omega
  clear hlm hlr hR D1 hW hD hd hf hws h hx hWD hn hwd n8 htop
  have HMID := Lib.hid (show midS n 0 st q q = ((0, false, false, false), st) by unfold midS; rw [if_neg h1s, if_neg h3s])
  have HSS := Lib.hid (show st.seats = st.seats from rfl)
  have HZQ := Lib.hid hzq
  have t1 : (z == 1) = false := by simpa [hz] using h1s
  have t3 : (z == 3) = false := by simpa [hz] using h3s
  clear h1s h3s hzq hz
  go_enter Try.func108, Try.ntmps108
  go_upto_region 4 with (fail)
  rw [HW.out, HD.out]
  clear c0 c3 u0 v0 hlx hls hlb b1 b2 b3
  have c0 := h1.top.cell (i := 0) rfl
  have c3 := h1.top.cell (i := 3) rfl
  obtain ⟨cs, cd, htop⟩ := h1.seat.top
  have u0 := htop.cell (i := 0) rfl
  have v0 := h1.seat.st.cell (sts_get hq)
  rw [HZQ.out] at v0
  clear htop
  obtain ⟨R', hR'⟩ : ∃ R', R = R' := ⟨_, rfl⟩
  have HS : Hid (∀ i, R' i → (R i ∨ D ≤ i) ∧ i ≠ D ∧ i ≠ D + 1 ∧ ¬ fm b i) := Lib.hid fun i hi => by
    rw [← hR'] at hi
    exact ⟨.inl hi, by have := HLR.out i hi; omega, by have := HLR.out i hi; omega, HDD.out i hi⟩
  have A1 := h1
  have Q1 := R0
  rw [hR'] at g1
  clear hR'
  go_upto_region 17 with (fail)
  clear c0 c3 u0 v0 h1 R0
  obtain ⟨w6, hw6⟩ : ∃ w6, W = w6 := ⟨_, rfl⟩
  have h5 := A1
  have g5 := g1
  have r5 := R1
  have q5 := Q1
  have u5 := up1
  rw [hw6] at h5 g5 r5 q5 u5 ⊢
  clear A1 g1 R1 Q1 up1
  obtain ⟨fv, hfv⟩ : ∃ fv, fin st.seats (q : Int) 0 = fv := ⟨_, rfl⟩
  obtain ⟨fb, fl⟩ := fv
  have HST2 := Lib.hid (show Hier.step n 0 st q q now = ((0, false, false, false), { st with seats := fl }) by rw [HST.out, HMID.out]; dsimp only; rw [HSS.out, hfv])
  have hfl : fl.length = st.seats.length := by have := fin_len st.seats (q : Int) 0; rw [hfv] at this; exact this
  have HFL := Lib.hid hfl
  have HRB : Hid (∀ i, R' i → ¬ (i = b.sb ∨ i = b.db) ∧ i ≠ D) := Lib.hid fun i hi => by
    obtain ⟨_, k1, _, k2⟩ := HS.out i hi
    exact ⟨fun e => k2 (by rcases e with rfl | rfl; exact (fm_all b).2.2.1; exact (fm_all b).2.2.2.1), k1⟩
  have g0 := h5.top.cell (i := 0) rfl
  have g1' := r5.cell (i := 0) rfl
  have hxb : ¬ (b.x = b.sb ∨ b.x = b.db) := fun e => by rcases e with e | e; exact Bk.ne h5.nd 0 2 (by decide) (by decide) (by decide) e; exact Bk.ne h5.nd 0 3 (by decide) (by decide) (by decide) e
  have hDb : ¬ (D = b.sb ∨ D = b.db) := fun e => by rcases e with e | e; exact hDm b.sb (fm_all b).2.2.1 e.symm; exact hDm b.db (fm_all b).2.2.2.1 e.symm
  have hD1b : ¬ (D + 1 = b.sb ∨ D + 1 = b.db) := fun e => by rcases e with e | e; exact hDm1 b.sb (fm_all b).2.2.1 e.symm; exact hDm1 b.db (fm_all b).2.2.2.1 e.symm
  have KE := rend_all _ _ _ _ _ _ _ (h5.seat.drewN 1) q (0)
  rw [hfv] at KE
  have h6d := h5.keep ((Upd.refl (fun _ => False) w6).drewN 1) (fun _ _ => id)
  have HKE := Lib.hid KE
  clear KE hfv hw6 hfl
  go_wp2_with fail
  go_region_held3 (fun w' => w'.cell? ⟨b.x, 0, none⟩ = some (.pointer (some ⟨b.sx, 0, none⟩)) ∧ w'.cell? ⟨D + 1, 0, none⟩ = some (.int .i64 0)) ((first | exact ⟨g0, g1'⟩ | exact ⟨e0, e1⟩))
    ((go_at_call 113; refine HKE.out.mono ?_; rintro e w7 ⟨rfl, hs7, u7⟩; have e0 := cell_upd u7 g0 hxb; have e1 := cell_upd u7 g1' hD1b))
  have A7 := h6d.seats HFL.out hs7 u7
  have g7 := (g5.drewN 1).keep u7 (fun i hi => (HRB.out i hi).1)
  have r7 := (r5.drewN 1).upd u7 hD1b
  have q7 := (q5.drewN 1).upd u7 hDb
  have up7 : Upd (fun i => fm b i ∨ R i) w w7 := (u5.drewN 1).trans (u7.mono fun i _ e => by rcases e with rfl | rfl; exact .inl (fm_all b).2.2.1; exact .inl (fm_all b).2.2.2.1)
  clear e0 e1 g0 g1' h5 h6d g5 r5 q5 u5 u7 hs7 HKE
  have y0 := r7.cell (i := 0) rfl
  have y1 := r7.cell (i := 1) rfl
  have y2 := r7.cell (i := 2) rfl
  have y3 := r7.cell (i := 3) rfl
  have z0 := q7.cell (i := 0) rfl
  have z1 := q7.cell (i := 1) rfl
  have z2 := q7.cell (i := 2) rfl
  have z3 := q7.cell (i := 3) rfl
  have k0 := q7.frozen 0
  have k1 := q7.frozen 1
  have k2 := q7.frozen 2
  have k3 := q7.frozen 3
  go_wp2_with fail
  have RE := did4 q7 (.int .i64 0) (.int .i64 0) (.int .i64 0) (.int .i64 0)
  have UE := upd4 w7 D (.int .i64 0) (.int .i64 0) (.int .i64 0) (.int .i64 0)
  obtain ⟨w9, hw9⟩ : ∃ w9, (((w7.setCell ⟨D, 0, none⟩ (.int .i64 0)).setCell ⟨D, 1, none⟩ (.int .i64 0)).setCell ⟨D, 2, none⟩ (.int .i64 0)).setCell ⟨D, 3, none⟩ (.int .i64 0) = w9 := ⟨_, rfl⟩
  rw [hw9] at RE UE ⊢
  have g0 := RE.cell (i := 0) rfl
  have g1' := RE.cell (i := 1) rfl
  have g2 := RE.cell (i := 2) rfl
  have g3 := RE.cell (i := 3) rfl
  refine bodyPost_ret (v := didm (0, false, false, false)) (by simp [results, Try.results108, go_sem, didm, b2i, g0, g1', g2, g3]) rfl ?_
  rw [HST2.out]
  exact ⟨rfl, A7.keep UE (fun i hi e => hDm i hi e), R', g7.keep UE (fun i hi e => (HRB.out i hi).2 e), up7.then UE (fun i hi e => by have := HD.out; omega), fun i hi => (by rw [HD.out]; exact (HS.out i hi).1)⟩
set_option maxHeartbeats 16000000 in
set_option maxRecDepth 40000 in
theorem stepLock {w : World} {st : St} {y n : Nat} {R : Nat → Prop} (h : MAt b w st.seats st.pls) (hR : Ref04.RO w y R n st.ws st.ts) (hd : ∀ i, R i → ¬ fm b i) (hf : st.ts.length < 1000000) (n8 : n ≤ 8) (hn : st.seats.length = n) (hws : st.ws.length ≤ 100000) (hwd : Mem.Wd st.ws) (q : Nat) (now : Int) (hq : q < st.seats.length) (h1s : state st.seats (q : Int) = 1) :
    Calls Try.prog 108 #[.pointer (some ⟨b.x, 0, none⟩), .pointer (some ⟨y, 0, none⟩), .int .i64 q, .int .i64 q, .int .i64 now] w fun e w' => e = .returned (didm (Hier.step n 0 st q q now).1) ∧ MAt b w' (Hier.step n 0 st q q now).2.seats (Hier.step n 0 st q q now).2.pls ∧
      ∃ R', Ref04.RO w' y R' n (Hier.step n 0 st q q now).2.ws (Hier.step n 0 st q q now).2.ts ∧ Upd (fun i => fm b i ∨ R i) w w' ∧ ∀ i, R' i → R i ∨ w.heap.size ≤ i := by
  have hp : q < st.pls.length := by rw [h.l1]; exact hq
  have hok := h.ok q hp
  obtain ⟨⟨kc, kn, ka, kl, kw, ks⟩, hx⟩ : ∃ x, st.pls.getD q p0 = x := ⟨_, rfl⟩
  rw [hx] at hok
  obtain ⟨o1, o2, o3, o4, o5, o6⟩ := hok
  dsimp only at o1 o2 o3 o4 o5 o6
  have c0 := h.top.cell (i := 0) rfl
  have c3 := h.top.cell (i := 3) rfl
  obtain ⟨cs, cd, htop⟩ := h.seat.top
  have u0 := htop.cell (i := 0) rfl
  have v0 := h.seat.st.cell (sts_get hq)
  obtain ⟨z, hz⟩ : ∃ z, state st.seats (q : Int) = z := ⟨_, rfl⟩
  have hzq : (st.seats.getD q (0, -1)).1 = z := by rw [← hz]; unfold state; rw [inB_mk hq, if_pos rfl, Int.toNat_natCast]
  rw [hzq] at v0
  have hlx := h.lt b.x (fm_all b).1
  have hls := h.lt b.sx (fm_all b).2.1
  have hlb := h.lt b.sb (fm_all b).2.2.1
  have hlm := h.lt
  have hlr := hR.lt
  have D1 : Upd (fun _ => False) w ((w.alloc (.cells #[.int .i64 0, .int .i64 0, .int .i64 0, .int .i64 0] 130)).alloc (.cells #[.int .i64 0, .int .i64 0, .int .i64 0, .int .i64 0] 130)) := ((Upd.refl _ w).alloc _).alloc _
  have h1 := h.keep D1 (fun _ _ => id)
  have g1 := hR.keep D1 (fun _ _ => id)
  have R0 : Row ((w.alloc (.cells #[.int .i64 0, .int .i64 0, .int .i64 0, .int .i64 0] 130)).alloc (.cells #[.int .i64 0, .int .i64 0, .int .i64 0, .int .i64 0] 130)) w.heap.size [.int .i64 0, .int .i64 0, .int .i64 0, .int .i64 0] := (Row.new' rfl).alloc _
  have R1 : Row ((w.alloc (.cells #[.int .i64 0, .int .i64 0, .int .i64 0, .int .i64 0] 130)).alloc (.cells #[.int .i64 0, .int .i64 0, .int .i64 0, .int .i64 0] 130)) (w.heap.size + 1) [.int .i64 0, .int .i64 0, .int .i64 0, .int .i64 0] := Row.new' (by simp)
  have up1 : Upd (fun i => fm b i ∨ R i) w ((w.alloc (.cells #[.int .i64 0, .int .i64 0, .int .i64 0, .int .i64 0] 130)).alloc (.cells #[.int .i64 0, .int .i64 0, .int .i64 0, .int .i64 0] 130)) := D1.mono fun _ _ z => z.elim
  have b1 : decide ((q : Int) < 0) = false := by rw [decide_eq_false_iff_not]; omega
  have b2 : decide ((st.seats.length : Int) ≤ (q : Int)) = false := by rw [decide_eq_false_iff_not]; omega
  have b3 : decide (st.seats.length ≤ q) = false := by rw [decide_eq_false_iff_not]; omega
  obtain ⟨D, hD⟩ : ∃ D, w.heap.size = D := ⟨_, rfl⟩
  have HD := Lib.hid hD
  obtain ⟨W, hW⟩ : ∃ W, (w.alloc (.cells #[.int .i64 0, .int .i64 0, .int .i64 0, .int .i64 0] 130)).alloc (.cells #[.int .i64 0, .int .i64 0, .int .i64 0, .int .i64 0] 130) = W := ⟨_, rfl⟩
  rw [hW] at h1 g1 R0 R1 up1
  rw [hD] at R0 R1 hlm hlr
  have HW := Lib.hid hW
  have HLM := Lib.hid hlm
  have HLR := Lib.hid hlr
  have HX := Lib.hid hx
  have hWD : W.heap.size = D + 2 := by rw [← hW, ← hD]; simp
  have HWD := Lib.hid hWD
  have nx : ¬ R b.x := fun h => hd _ h (fm_all b).1
  have nn : ¬ R b.nb := fun h => hd _ h (fm_all b).2.2.2.2.2.2.1
  have na : ¬ R b.ab := fun h => hd _ h (fm_all b).2.2.2.2.2.2.2.1
  have nw : ¬ R b.wb := fun h => hd _ h (fm_all b).2.2.2.2.2.2.2.2.2
  have nD : ¬ R D := fun h => by have := HLR.out D h; omega
  have nD1 : ¬ R (D + 1) := fun h => by have := HLR.out _ h; omega
  have HF := Lib.hid hf
  have HN := Lib.hid hn
  have HN8 := Lib.hid n8
  have HK64 := Lib.hid (show n ≤ 64 by omega)
  have HWS := Lib.hid hws
  have HDD := Lib.hid hd
  have HWDD := Lib.hid hwd
  have HST := Lib.hid (show Hier.step n 0 st q q now = ((midS n 0 st q q).1, { (midS n 0 st q q).2 with seats := (fin (midS n 0 st q q).2.seats q (midS n 0 st q q).1.1).2 }) from rfl)
  have hq1 : (0 : Int) ≤ (q : Int) := by omega
  have hq2 : (q : Int) < (st.seats.length : Int) := by omega
  have hDm : ∀ i, fm b i → i ≠ D := fun i hi e => by have := HLM.out i hi; omega
  have hDm1 : ∀ i, fm b i → i ≠ D + 1 := fun i hi e => by have := HLM.out i hi; omega
  clear hlm hlr hR D1 hW hD hd hf hws h hx hWD hn hwd n8 htop
  have KL := lockR h1 g1 HDD.out HF.out HN8.out HN.out HWS.out HWDD.out hq
  obtain ⟨d, st', hL⟩ : ∃ d st', lockS n 0 st q q = (d, st') := ⟨_, _, rfl⟩
  have hss : st'.seats = st.seats := by have := lockS_seats n 0 st q q; rw [hL] at this; exact this
  have HSS := Lib.hid hss
  rw [hL] at KL
  obtain ⟨ev, d1, d2, d3⟩ := d
  obtain ⟨i1, hi1⟩ : ∃ i, b2i d1 = i := ⟨_, rfl⟩
  obtain ⟨i2, hi2⟩ : ∃ i, b2i d2 = i := ⟨_, rfl⟩
  obtain ⟨i3, hi3⟩ : ∃ i, b2i d3 = i := ⟨_, rfl⟩
  have hdm : didm (ev, d1, d2, d3) = .agg #[.int .i64 ev, .int .i64 i1, .int .i64 i2, .int .i64 i3] := by rw [← hi1, ← hi2, ← hi3]; rfl
  have HDM := Lib.hid hdm
  dsimp only at KL
  rw [hdm] at KL
  have HKL := Lib.hid KL
  have HMID := Lib.hid (show midS n 0 st q q = ((ev, d1, d2, d3), st') by unfold midS; rw [if_pos h1s, Int.toNat_natCast]; exact hL)
  have HZQ := Lib.hid (show (st.seats.getD q (0, -1)).1 = 1 by rw [hzq, ← hz]; exact h1s)
  rw [show z = 1 by rw [← hz]; exact h1s] at v0
  clear h1s hzq hz hdm KL hss hL hi1 hi2 hi3
  go_enter Try.func108, Try.ntmps108
  go_upto_region 4 with (fail)
  rw [HW.out, HD.out]
  clear c0 c3 u0 v0 hlx hls hlb b1 b2 b3
  have c0 := h1.top.cell (i := 0) rfl
  have c3 := h1.top.cell (i := 3) rfl
  obtain ⟨cs, cd, htop⟩ := h1.seat.top
  have u0 := htop.cell (i := 0) rfl
  have v0 := h1.seat.st.cell (sts_get hq)
  rw [HZQ.out] at v0
  clear htop
  go_wp2_with fail
  refine HKL.out.mono ?_
  rintro e w5 ⟨rfl, A5, R', g5, u5, hR5s⟩
  have HS : Hid (∀ i, R' i → (R i ∨ D ≤ i) ∧ i ≠ D ∧ i ≠ D + 1 ∧ ¬ fm b i) := Lib.hid fun i hi => by
    rcases hR5s i hi with h | h
    · exact ⟨.inl h, by have := HLR.out i h; omega, by have := HLR.out i h; omega, HDD.out i h⟩
    · have := HWD.out
      have h : W.heap.size ≤ i := h
      exact ⟨.inr (by omega), by omega, by omega, fun e => by have := HLM.out i e; omega⟩
  have R5 := R1.upd u5 (fun e => e.elim (fun e => hDm1 _ e rfl) nD1)
  have Q5 := R0.upd u5 (fun e => e.elim (fun e => hDm _ e rfl) nD)
  have up5 := up1.trans u5
  have a0 := R5.cell (i := 0) rfl
  have a1 := R5.cell (i := 1) rfl
  have a2 := R5.cell (i := 2) rfl
  have a3 := R5.cell (i := 3) rfl
  have z0 := R5.frozen 0
  have z1 := R5.frozen 1
  have z2 := R5.frozen 2
  have z3 := R5.frozen 3
  go_upto_region 17 with (fail)
  have R6 := did4 R5 (.int .i64 ev) (.int .i64 i1) (.int .i64 i2) (.int .i64 i3)
  have U6 := upd4 w5 (D + 1) (.int .i64 ev) (.int .i64 i1) (.int .i64 i2) (.int .i64 i3)
  have A6 := A5.keep U6 (fun i hi e => hDm1 i hi e)
  have Q6 := Q5.upd U6 (by omega)
  have g6 := g5.keep U6 (fun i hi e => (HS.out i hi).2.2.1 e)
  have up6 := up5.then U6 (fun i hi e => by have := HD.out; omega)
  obtain ⟨w6', hw6'⟩ : ∃ w', (((w5.setCell ⟨D + 1, 0, none⟩ (.int .i64 ev)).setCell ⟨D + 1, 1, none⟩ (.int .i64 i1)).setCell ⟨D + 1, 2, none⟩ (.int .i64 i2)).setCell ⟨D + 1, 3, none⟩ (.int .i64 i3) = w' := ⟨_, rfl⟩
  rw [hw6'] at R6 U6 A6 Q6 g6 up6 ⊢
  clear hw6' a0 a1 a2 a3 z0 z1 z2 z3 A5 R5 Q5 g5 up5 u5 c0 c3 u0 v0
  obtain ⟨w6, hw6⟩ : ∃ w6, w6' = w6 := ⟨_, rfl⟩
  have h5 := A6
  have g5 := g6
  have r5 := R6
  have q5 := Q6
  have u5 := up6
  rw [hw6] at h5 g5 r5 q5 u5 ⊢
  clear A6 g6 R6 Q6 up6
  obtain ⟨fv, hfv⟩ : ∃ fv, fin st.seats (q : Int) (ev) = fv := ⟨_, rfl⟩
  obtain ⟨fb, fl⟩ := fv
  have HST2 := Lib.hid (show Hier.step n 0 st q q now = ((ev, d1, d2, d3), { st' with seats := fl }) by rw [HST.out, HMID.out]; dsimp only; rw [HSS.out, hfv])
  have hfl : fl.length = st.seats.length := by have := fin_len st.seats (q : Int) (ev); rw [hfv] at this; exact this
  have HFL := Lib.hid hfl
  have HRB : Hid (∀ i, R' i → ¬ (i = b.sb ∨ i = b.db) ∧ i ≠ D) := Lib.hid fun i hi => by
    obtain ⟨_, k1, _, k2⟩ := HS.out i hi
    exact ⟨fun e => k2 (by rcases e with rfl | rfl; exact (fm_all b).2.2.1; exact (fm_all b).2.2.2.1), k1⟩
  have g0 := h5.top.cell (i := 0) rfl
  have g1' := r5.cell (i := 0) rfl
  have hxb : ¬ (b.x = b.sb ∨ b.x = b.db) := fun e => by rcases e with e | e; exact Bk.ne h5.nd 0 2 (by decide) (by decide) (by decide) e; exact Bk.ne h5.nd 0 3 (by decide) (by decide) (by decide) e
  have hDb : ¬ (D = b.sb ∨ D = b.db) := fun e => by rcases e with e | e; exact hDm b.sb (fm_all b).2.2.1 e.symm; exact hDm b.db (fm_all b).2.2.2.1 e.symm
  have hD1b : ¬ (D + 1 = b.sb ∨ D + 1 = b.db) := fun e => by rcases e with e | e; exact hDm1 b.sb (fm_all b).2.2.1 e.symm; exact hDm1 b.db (fm_all b).2.2.2.1 e.symm
  have KE := rend_all _ _ _ _ _ _ _ (h5.seat.drewN 1) q (ev)
  rw [hfv] at KE
  have h6d := h5.keep ((Upd.refl (fun _ => False) w6).drewN 1) (fun _ _ => id)
  have HKE := Lib.hid KE
  clear KE hfv hw6 hfl
  go_wp2_with fail
  go_region_held3 (fun w' => w'.cell? ⟨b.x, 0, none⟩ = some (.pointer (some ⟨b.sx, 0, none⟩)) ∧ w'.cell? ⟨D + 1, 0, none⟩ = some (.int .i64 (ev))) ((first | exact ⟨g0, g1'⟩ | exact ⟨e0, e1⟩))
    ((go_at_call 113; refine HKE.out.mono ?_; rintro e w7 ⟨rfl, hs7, u7⟩; have e0 := cell_upd u7 g0 hxb; have e1 := cell_upd u7 g1' hD1b))
  have A7 := h6d.seats HFL.out hs7 u7
  have g7 := (g5.drewN 1).keep u7 (fun i hi => (HRB.out i hi).1)
  have r7 := (r5.drewN 1).upd u7 hD1b
  have q7 := (q5.drewN 1).upd u7 hDb
  have up7 : Upd (fun i => fm b i ∨ R i) w w7 := (u5.drewN 1).trans (u7.mono fun i _ e => by rcases e with rfl | rfl; exact .inl (fm_all b).2.2.1; exact .inl (fm_all b).2.2.2.1)
  clear e0 e1 g0 g1' h5 h6d g5 r5 q5 u5 u7 hs7 HKE
  have y0 := r7.cell (i := 0) rfl
  have y1 := r7.cell (i := 1) rfl
  have y2 := r7.cell (i := 2) rfl
  have y3 := r7.cell (i := 3) rfl
  have z0 := q7.cell (i := 0) rfl
  have z1 := q7.cell (i := 1) rfl
  have z2 := q7.cell (i := 2) rfl
  have z3 := q7.cell (i := 3) rfl
  have k0 := q7.frozen 0
  have k1 := q7.frozen 1
  have k2 := q7.frozen 2
  have k3 := q7.frozen 3
  go_wp2_with fail
  have RE := did4 q7 (.int .i64 (ev)) (.int .i64 i1) (.int .i64 i2) (.int .i64 i3)
  have UE := upd4 w7 D (.int .i64 (ev)) (.int .i64 i1) (.int .i64 i2) (.int .i64 i3)
  obtain ⟨w9, hw9⟩ : ∃ w9, (((w7.setCell ⟨D, 0, none⟩ (.int .i64 (ev))).setCell ⟨D, 1, none⟩ (.int .i64 i1)).setCell ⟨D, 2, none⟩ (.int .i64 i2)).setCell ⟨D, 3, none⟩ (.int .i64 i3) = w9 := ⟨_, rfl⟩
  rw [hw9] at RE UE ⊢
  have g0 := RE.cell (i := 0) rfl
  have g1' := RE.cell (i := 1) rfl
  have g2 := RE.cell (i := 2) rfl
  have g3 := RE.cell (i := 3) rfl
  refine bodyPost_ret (v := didm (ev, d1, d2, d3)) (by rw [HDM.out]; simp [results, Try.results108, go_sem, g0, g1', g2, g3]) rfl ?_
  rw [HST2.out]
  exact ⟨rfl, A7.keep UE (fun i hi e => hDm i hi e), R', g7.keep UE (fun i hi e => (HRB.out i hi).2 e), up7.then UE (fun i hi e => by have := HD.out; omega), fun i hi => (by rw [HD.out]; exact (HS.out i hi).1)⟩
set_option maxHeartbeats 16000000 in
set_option maxRecDepth 40000 in
theorem stepA {w : World} {st : St} {y n : Nat} {R : Nat → Prop} (h : MAt b w st.seats st.pls) (hR : Ref04.RO w y R n st.ws st.ts) (hd : ∀ i, R i → ¬ fm b i) (hf : st.ts.length < 1000000) (n8 : n ≤ 8) (hn : st.seats.length = n) (hws : st.ws.length ≤ 100000) (hwd : Mem.Wd st.ws) (q : Nat) (now : Int) (hq : q < st.seats.length) (h3s : state st.seats (q : Int) = 3) (hs0 : (st.pls.getD q p0).s = 0) :
    Calls Try.prog 108 #[.pointer (some ⟨b.x, 0, none⟩), .pointer (some ⟨y, 0, none⟩), .int .i64 q, .int .i64 q, .int .i64 now] w fun e w' => e = .returned (didm (Hier.step n 0 st q q now).1) ∧ MAt b w' (Hier.step n 0 st q q now).2.seats (Hier.step n 0 st q q now).2.pls ∧
      ∃ R', Ref04.RO w' y R' n (Hier.step n 0 st q q now).2.ws (Hier.step n 0 st q q now).2.ts ∧ Upd (fun i => fm b i ∨ R i) w w' ∧ ∀ i, R' i → R i ∨ w.heap.size ≤ i := by
  have hp : q < st.pls.length := by rw [h.l1]; exact hq
  have hok := h.ok q hp
  obtain ⟨⟨kc, kn, ka, kl, kw, ks⟩, hx⟩ : ∃ x, st.pls.getD q p0 = x := ⟨_, rfl⟩
  rw [hx] at hok
  obtain ⟨o1, o2, o3, o4, o5, o6⟩ := hok
  dsimp only at o1 o2 o3 o4 o5 o6
  have c0 := h.top.cell (i := 0) rfl
  have c3 := h.top.cell (i := 3) rfl
  obtain ⟨cs, cd, htop⟩ := h.seat.top
  have u0 := htop.cell (i := 0) rfl
  have v0 := h.seat.st.cell (sts_get hq)
  obtain ⟨z, hz⟩ : ∃ z, state st.seats (q : Int) = z := ⟨_, rfl⟩
  have hzq : (st.seats.getD q (0, -1)).1 = z := by rw [← hz]; unfold state; rw [inB_mk hq, if_pos rfl, Int.toNat_natCast]
  rw [hzq] at v0
  have hlx := h.lt b.x (fm_all b).1
  have hls := h.lt b.sx (fm_all b).2.1
  have hlb := h.lt b.sb (fm_all b).2.2.1
  have hlm := h.lt
  have hlr := hR.lt
  have D1 : Upd (fun _ => False) w ((w.alloc (.cells #[.int .i64 0, .int .i64 0, .int .i64 0, .int .i64 0] 130)).alloc (.cells #[.int .i64 0, .int .i64 0, .int .i64 0, .int .i64 0] 130)) := ((Upd.refl _ w).alloc _).alloc _
  have h1 := h.keep D1 (fun _ _ => id)
  have g1 := hR.keep D1 (fun _ _ => id)
  have R0 : Row ((w.alloc (.cells #[.int .i64 0, .int .i64 0, .int .i64 0, .int .i64 0] 130)).alloc (.cells #[.int .i64 0, .int .i64 0, .int .i64 0, .int .i64 0] 130)) w.heap.size [.int .i64 0, .int .i64 0, .int .i64 0, .int .i64 0] := (Row.new' rfl).alloc _
  have R1 : Row ((w.alloc (.cells #[.int .i64 0, .int .i64 0, .int .i64 0, .int .i64 0] 130)).alloc (.cells #[.int .i64 0, .int .i64 0, .int .i64 0, .int .i64 0] 130)) (w.heap.size + 1) [.int .i64 0, .int .i64 0, .int .i64 0, .int .i64 0] := Row.new' (by simp)
  have up1 : Upd (fun i => fm b i ∨ R i) w ((w.alloc (.cells #[.int .i64 0, .int .i64 0, .int .i64 0, .int .i64 0] 130)).alloc (.cells #[.int .i64 0, .int .i64 0, .int .i64 0, .int .i64 0] 130)) := D1.mono fun _ _ z => z.elim
  have b1 : decide ((q : Int) < 0) = false := by rw [decide_eq_false_iff_not]; omega
  have b2 : decide ((st.seats.length : Int) ≤ (q : Int)) = false := by rw [decide_eq_false_iff_not]; omega
  have b3 : decide (st.seats.length ≤ q) = false := by rw [decide_eq_false_iff_not]; omega
  obtain ⟨D, hD⟩ : ∃ D, w.heap.size = D := ⟨_, rfl⟩
  have HD := Lib.hid hD
  obtain ⟨W, hW⟩ : ∃ W, (w.alloc (.cells #[.int .i64 0, .int .i64 0, .int .i64 0, .int .i64 0] 130)).alloc (.cells #[.int .i64 0, .int .i64 0, .int .i64 0, .int .i64 0] 130) = W := ⟨_, rfl⟩
  rw [hW] at h1 g1 R0 R1 up1
  rw [hD] at R0 R1 hlm hlr
  have HW := Lib.hid hW
  have HLM := Lib.hid hlm
  have HLR := Lib.hid hlr
  have HX := Lib.hid hx
  have hWD : W.heap.size = D + 2 := by rw [← hW, ← hD]; simp
  have HWD := Lib.hid hWD
  have nx : ¬ R b.x := fun h => hd _ h (fm_all b).1
  have nn : ¬ R b.nb := fun h => hd _ h (fm_all b).2.2.2.2.2.2.1
  have na : ¬ R b.ab := fun h => hd _ h (fm_all b).2.2.2.2.2.2.2.1
  have nw : ¬ R b.wb := fun h => hd _ h (fm_all b).2.2.2.2.2.2.2.2.2
  have nD : ¬ R D := fun h => by have := HLR.out D h; omega
  have nD1 : ¬ R (D + 1) := fun h => by have := HLR.out _ h; omega
  have HF := Lib.hid hf
  have HN := Lib.hid hn
  have HN8 := Lib.hid n8
  have HK64 := Lib.hid (show n ≤ 64 by omega)
  have HWS := Lib.hid hws
  have HDD := Lib.hid hd
  have HWDD := Lib.hid hwd
  have HST := Lib.hid (show Hier.step n 0 st q q now = ((midS n 0 st q q).1, { (midS n 0 st q q).2 with seats := (fin (midS n 0 st q q).2.seats q (midS n 0 st q q).1.1).2 }) from rfl)
  have hq1 : (0 : Int) ≤ (q : Int) := by omega
  have hq2 : (q : Int) < (st.seats.length : Int) := by omega
  have hDm : ∀ i, fm b i → i ≠ D := fun i hi e => by have := HLM.out i hi; omega
  have hDm1 : ∀ i, fm b i → i ≠ D + 1 := fun i hi e => by have := HLM.out i hi; omega
  clear hlm hlr hR D1 hW hD hd hf hws h hx hWD hn hwd n8 htop
  rw [HX.out] at hs0
  dsimp only at hs0
  subst hs0
  have HZQ := Lib.hid (show (st.seats.getD q (0, -1)).1 = 3 by rw [hzq, ← hz]; exact h3s)
  rw [show z = 3 by rw [← hz]; exact h3s] at v0
  have HHS := Lib.hid h3s
  clear h3s hzq hz
  have c1a := h1.top.cell (i := 1) rfl
  have c4a := h1.top.cell (i := 4) rfl
  have c7a := h1.top.cell (i := 7) rfl
  have n1a := h1.nrow.cell (col_get hp)
  rw [HX.out] at n1a
  dsimp only at n1a
  have pz := h1.prow.cell (col_get hp)
  rw [HX.out] at pz
  dsimp only at pz
  have hnA : nodeA 0 kn = 8 + kn := by unfold nodeA; omega
  have hu1 : IntKind.i64.wrap (8 + kn) = 8 + kn := IntWalk.i64_in _ (by omega)
  have hu2 : IntKind.i64.wrap 8 = 8 := rfl
  obtain ⟨g, hg⟩ : ∃ g, rd n st.ws q (8 + kn) = g := ⟨_, rfl⟩
  have hgw := rd_wd HWDD.out n q (8 + kn)
  rw [hg] at hgw
  have KA := Ref04.loadR W.drew (g1.drewN 1) HF.out HK64.out HWS.out q (8 + kn)
  rw [hg] at KA
  have HKA := Lib.hid KA
  clear KA
  have h1d := h1.keep ((Upd.refl (fun _ => False) W).drewN 1) (fun _ _ => id)
  have a0 := h1.wrow.cell (col_get hp)
  go_enter Try.func108, Try.ntmps108
  go_upto_region 4 with (fail)
  rw [HW.out, HD.out]
  clear c0 c3 u0 v0 hlx hls hlb b1 b2 b3
  have c0 := h1.top.cell (i := 0) rfl
  have c3 := h1.top.cell (i := 3) rfl
  obtain ⟨cs, cd, htop⟩ := h1.seat.top
  have u0 := htop.cell (i := 0) rfl
  have v0 := h1.seat.st.cell (sts_get hq)
  rw [HZQ.out] at v0
  clear htop
  go_wp2_with fail
  go_region_held3 (fun w' => w'.cell? ⟨b.x, 1, none⟩ = some (.int .i64 0) ∧ w'.cell? ⟨b.x, 4, none⟩ = some (.slice (some ⟨b.nb, 0, none⟩) st.seats.length b.cn) ∧ w'.cell? ⟨b.x, 7, none⟩ = some (.slice (some ⟨b.wb, 0, none⟩) st.seats.length st.seats.length) ∧ w'.cell? ⟨b.nb, q, none⟩ = some (.int .i64 kn)) ((first | exact ⟨c1a, c4a, c7a, n1a⟩ | exact ⟨c1e, c4e, c7e, n1e⟩ | exact ⟨c1f, c4f, c7f, n1f⟩))
      ((first
        | (go_at_call 110; refine HKA.out.mono ?_; rintro e w5 ⟨rfl, R', hR5, u5, hR5s⟩; have c1e := cell_upd u5 c1a nx; have c4e := cell_upd u5 c4a nx; have c7e := cell_upd u5 c7a nx; have n1e := cell_upd u5 n1a nn; have A5' := h1d.keep u5 (fun i hi h => HDD.out i h hi); have m5 := cell_upd u5 a0 nw; have fz5 := A5'.wrow.frozen q; have A6' := A5'.setWd q hq ⟨kc, kn, ka, kl, g, 0⟩ (by rw [HX.out]) ⟨o1, o2, o3, o4, hgw, o6⟩; have c1f := A6'.top.cell (i := 1) rfl; have c4f := A6'.top.cell (i := 4) rfl; have c7f := A6'.top.cell (i := 7) rfl; have n1f := A6'.nrow.cell (col_get (t := q) (by rw [A6'.l1]; exact hq)); rw [pl_set _ _ hp, if_pos rfl] at n1f; dsimp only at n1f)))
  have HS : Hid (∀ i, R' i → (R i ∨ D ≤ i) ∧ i ≠ D ∧ i ≠ D + 1 ∧ ¬ fm b i) := Lib.hid fun i hi => by
    rcases hR5s i hi with h | h
    · exact ⟨.inl h, by have := HLR.out i h; omega, by have := HLR.out i h; omega, HDD.out i h⟩
    · have := HWD.out
      have h : W.heap.size ≤ i := h
      exact ⟨.inr (by omega), by omega, by omega, fun e => by have := HLM.out i e; omega⟩
  have A5 := h1d.keep u5 (fun i hi h => HDD.out i h hi)
  have R5 := (R1.drewN 1).upd u5 nD1
  have Q5 := (R0.drewN 1).upd u5 nD
  have up5 : Upd (fun i => fm b i ∨ R i) w w5 := (up1.drewN 1).trans (u5.mono fun i _ h => .inr h)
  have g5 := hR5
  have dm : ∀ i, fm b i → i ≠ D ∧ i ≠ D + 1 := fun i hi => ⟨hDm i hi, hDm1 i hi⟩
  clear c1a c1e c1f c4a c4e c4f c7a c7e c7f n1a n1e n1f A5' A6' m5 fz5 a0 pz
  have A6 := A5.setWd q hq ⟨kc, kn, ka, kl, g, 0⟩ (by rw [HX.out]) ⟨o1, o2, o3, o4, hgw, o6⟩
  have U6 := Upd.one w5 b.wb q (.int .u32 g)
  have R6 := R5.upd U6 (fun e => (dm b.wb (fm_all b).2.2.2.2.2.2.2.2.2).2 e.symm)
  have Q6 := Q5.upd U6 (fun e => (dm b.wb (fm_all b).2.2.2.2.2.2.2.2.2).1 e.symm)
  have g6 := g5.keep U6 (fun i hi e => (HS.out i hi).2.2.2 (e ▸ (fm_all b).2.2.2.2.2.2.2.2.2))
  have up6 := up5.trans (U6.mono fun i _ e => .inl (e ▸ (fm_all b).2.2.2.2.2.2.2.2.2))
  obtain ⟨w6, hw6⟩ : ∃ w', w5.setCell ⟨b.wb, q, none⟩ (.int .u32 g) = w' := ⟨_, rfl⟩
  rw [hw6] at A6 R6 Q6 g6 up6 ⊢
  clear hw6 A5 R5 Q5 g5 up5 U6
  have t3 := A6.top.cell (i := 3) rfl
  have p3 := A6.prow.cell (col_get (t := q) (by rw [A6.l1]; exact hq))
  rw [pl_set _ _ hp, if_pos rfl] at p3
  dsimp only at p3
  have p4 := A6.prow.frozen q
  have A7 := A6.setPc q hq ⟨kc, kn, ka, kl, g, 1⟩ (by rw [pl_set _ _ hp, if_pos rfl]) ⟨o1, o2, o3, o4, hgw, (show (0 : Int) ≤ 1 ∧ (1 : Int) ≤ 7 by decide)⟩
  have U7 := Upd.one w6 b.pc q (.int .i64 1)
  have R7 := R6.upd U7 (fun e => (dm b.pc (fm_all b).2.2.2.2.2.1).2 e.symm)
  have Q7 := Q6.upd U7 (fun e => (dm b.pc (fm_all b).2.2.2.2.2.1).1 e.symm)
  have g7 := g6.keep U7 (fun i hi e => (HS.out i hi).2.2.2 (e ▸ (fm_all b).2.2.2.2.2.1))
  have up7 := up6.trans (U7.mono fun i _ e => .inl (e ▸ (fm_all b).2.2.2.2.2.1))
  go_upto_region 11 with (fail)
  obtain ⟨w7, hw7⟩ : ∃ w', w6.setCell ⟨b.pc, q, none⟩ (.int .i64 1) = w' := ⟨_, rfl⟩
  rw [hw7] at A7 R7 Q7 g7 up7 ⊢
  clear hw7 A6 R6 Q6 g6 up6 U7
  clear t3 p3 p4
  have r0 := R7.cell (i := 0) rfl
  have s0 := Q7.cell (i := 0) rfl
  have z0 := Q7.frozen 0
  have r1 := R7.cell (i := 1) rfl
  have s1 := Q7.cell (i := 1) rfl
  have z1 := Q7.frozen 1
  have r2 := R7.cell (i := 2) rfl
  have s2 := Q7.cell (i := 2) rfl
  have z2 := Q7.frozen 2
  have r3 := R7.cell (i := 3) rfl
  have s3 := Q7.cell (i := 3) rfl
  have z3 := Q7.frozen 3
  go_wp2_with fail
  have E : Hier.step n 0 st q q now = ((0, false, false, false), { st with pls := st.pls.set q ⟨kc, kn, ka, kl, g, 1⟩, ts := Cache.after n st.ws.length st.ts q (8 + kn) false }) := by
    have em : midS n 0 st q q = ((0, false, false, false), { st with pls := st.pls.set q ⟨kc, kn, ka, kl, g, 1⟩, ts := Cache.after n st.ws.length st.ts q (8 + kn) false }) := by
      unfold midS; rw [HHS.out, if_neg (by decide), if_pos rfl, Int.toNat_natCast]; unfold unlS; rw [HX.out]; dsimp only; rw [if_pos rfl, hnA, hg]
    rw [HST.out, em]
    dsimp only
    rw [fin_none]
  have U9 : Upd (fun i => i = D) w7 ((((w7.setCell ⟨D, 0, none⟩ (.int .i64 0)).setCell ⟨D, 1, none⟩ (.int .i64 0)).setCell ⟨D, 2, none⟩ (.int .i64 0)).setCell ⟨D, 3, none⟩ (.int .i64 0)) := (((Upd.one _ _ _ _).trans (Upd.one _ _ _ _)).trans (Upd.one _ _ _ _)).trans (Upd.one _ _ _ _)
  have RF := (((Q7.set 0 (.int .i64 0)).set 1 (.int .i64 0)).set 2 (.int .i64 0)).set 3 (.int .i64 0)
  have f0 := RF.cell (i := 0) rfl
  have f1 := RF.cell (i := 1) rfl
  have f2 := RF.cell (i := 2) rfl
  have f3 := RF.cell (i := 3) rfl
  have A99 := A7.keep U9 (fun i hi => (dm i hi).1)
  have g99 := g7.keep U9 (fun i hi e => (HS.out i hi).2.1 e)
  have up99 := up7.then U9 (fun i hi e => by have := HD.out; omega)
  obtain ⟨w9, hw9⟩ : ∃ w9, ((((w7.setCell ⟨D, 0, none⟩ (.int .i64 0)).setCell ⟨D, 1, none⟩ (.int .i64 0)).setCell ⟨D, 2, none⟩ (.int .i64 0)).setCell ⟨D, 3, none⟩ (.int .i64 0)) = w9 := ⟨_, rfl⟩
  rw [hw9] at f0 f1 f2 f3 A99 g99 up99 ⊢
  refine bodyPost_ret (v := didm (0, false, false, false)) (by simp [results, Try.results108, go_sem, didm, b2i, f0, f1, f2, f3]) rfl ?_
  rw [E]
  rw [List.set_set] at A99
  exact ⟨rfl, A99, R', g99, up99, fun i hi => (by rw [HD.out]; exact (HS.out i hi).1)⟩
set_option maxHeartbeats 16000000 in
set_option maxRecDepth 40000 in
theorem stepB {w : World} {st : St} {y n : Nat} {R : Nat → Prop} (h : MAt b w st.seats st.pls) (hR : Ref04.RO w y R n st.ws st.ts) (hd : ∀ i, R i → ¬ fm b i) (hf : st.ts.length < 1000000) (n8 : n ≤ 8) (hn : st.seats.length = n) (hws : st.ws.length ≤ 100000) (hwd : Mem.Wd st.ws) (q : Nat) (now : Int) (hq : q < st.seats.length) (h3s : state st.seats (q : Int) = 3) (hs0 : ¬ (st.pls.getD q p0).s = 0) :
    Calls Try.prog 108 #[.pointer (some ⟨b.x, 0, none⟩), .pointer (some ⟨y, 0, none⟩), .int .i64 q, .int .i64 q, .int .i64 now] w fun e w' => e = .returned (didm (Hier.step n 0 st q q now).1) ∧ MAt b w' (Hier.step n 0 st q q now).2.seats (Hier.step n 0 st q q now).2.pls ∧
      ∃ R', Ref04.RO w' y R' n (Hier.step n 0 st q q now).2.ws (Hier.step n 0 st q q now).2.ts ∧ Upd (fun i => fm b i ∨ R i) w w' ∧ ∀ i, R' i → R i ∨ w.heap.size ≤ i := by
  have hp : q < st.pls.length := by rw [h.l1]; exact hq
  have hok := h.ok q hp
  obtain ⟨⟨kc, kn, ka, kl, kw, ks⟩, hx⟩ : ∃ x, st.pls.getD q p0 = x := ⟨_, rfl⟩
  rw [hx] at hok
  obtain ⟨o1, o2, o3, o4, o5, o6⟩ := hok
  dsimp only at o1 o2 o3 o4 o5 o6
  have c0 := h.top.cell (i := 0) rfl
  have c3 := h.top.cell (i := 3) rfl
  obtain ⟨cs, cd, htop⟩ := h.seat.top
  have u0 := htop.cell (i := 0) rfl
  have v0 := h.seat.st.cell (sts_get hq)
  obtain ⟨z, hz⟩ : ∃ z, state st.seats (q : Int) = z := ⟨_, rfl⟩
  have hzq : (st.seats.getD q (0, -1)).1 = z := by rw [← hz]; unfold state; rw [inB_mk hq, if_pos rfl, Int.toNat_natCast]
  rw [hzq] at v0
  have hlx := h.lt b.x (fm_all b).1
  have hls := h.lt b.sx (fm_all b).2.1
  have hlb := h.lt b.sb (fm_all b).2.2.1
  have hlm := h.lt
  have hlr := hR.lt
  have D1 : Upd (fun _ => False) w ((w.alloc (.cells #[.int .i64 0, .int .i64 0, .int .i64 0, .int .i64 0] 130)).alloc (.cells #[.int .i64 0, .int .i64 0, .int .i64 0, .int .i64 0] 130)) := ((Upd.refl _ w).alloc _).alloc _
  have h1 := h.keep D1 (fun _ _ => id)
  have g1 := hR.keep D1 (fun _ _ => id)
  have R0 : Row ((w.alloc (.cells #[.int .i64 0, .int .i64 0, .int .i64 0, .int .i64 0] 130)).alloc (.cells #[.int .i64 0, .int .i64 0, .int .i64 0, .int .i64 0] 130)) w.heap.size [.int .i64 0, .int .i64 0, .int .i64 0, .int .i64 0] := (Row.new' rfl).alloc _
  have R1 : Row ((w.alloc (.cells #[.int .i64 0, .int .i64 0, .int .i64 0, .int .i64 0] 130)).alloc (.cells #[.int .i64 0, .int .i64 0, .int .i64 0, .int .i64 0] 130)) (w.heap.size + 1) [.int .i64 0, .int .i64 0, .int .i64 0, .int .i64 0] := Row.new' (by simp)
  have up1 : Upd (fun i => fm b i ∨ R i) w ((w.alloc (.cells #[.int .i64 0, .int .i64 0, .int .i64 0, .int .i64 0] 130)).alloc (.cells #[.int .i64 0, .int .i64 0, .int .i64 0, .int .i64 0] 130)) := D1.mono fun _ _ z => z.elim
  have b1 : decide ((q : Int) < 0) = false := by rw [decide_eq_false_iff_not]; omega
  have b2 : decide ((st.seats.length : Int) ≤ (q : Int)) = false := by rw [decide_eq_false_iff_not]; omega
  have b3 : decide (st.seats.length ≤ q) = false := by rw [decide_eq_false_iff_not]; omega
  obtain ⟨D, hD⟩ : ∃ D, w.heap.size = D := ⟨_, rfl⟩
  have HD := Lib.hid hD
  obtain ⟨W, hW⟩ : ∃ W, (w.alloc (.cells #[.int .i64 0, .int .i64 0, .int .i64 0, .int .i64 0] 130)).alloc (.cells #[.int .i64 0, .int .i64 0, .int .i64 0, .int .i64 0] 130) = W := ⟨_, rfl⟩
  rw [hW] at h1 g1 R0 R1 up1
  rw [hD] at R0 R1 hlm hlr
  have HW := Lib.hid hW
  have HLM := Lib.hid hlm
  have HLR := Lib.hid hlr
  have HX := Lib.hid hx
  have hWD : W.heap.size = D + 2 := by rw [← hW, ← hD]; simp
  have HWD := Lib.hid hWD
  have nx : ¬ R b.x := fun h => hd _ h (fm_all b).1
  have nn : ¬ R b.nb := fun h => hd _ h (fm_all b).2.2.2.2.2.2.1
  have na : ¬ R b.ab := fun h => hd _ h (fm_all b).2.2.2.2.2.2.2.1
  have nw : ¬ R b.wb := fun h => hd _ h (fm_all b).2.2.2.2.2.2.2.2.2
  have nD : ¬ R D := fun h => by have := HLR.out D h; omega
  have nD1 : ¬ R (D + 1) := fun h => by have := HLR.out _ h; omega
  have HF := Lib.hid hf
  have HN := Lib.hid hn
  have HN8 := Lib.hid n8
  have HK64 := Lib.hid (show n ≤ 64 by omega)
  have HWS := Lib.hid hws
  have HDD := Lib.hid hd
  have HWDD := Lib.hid hwd
  have HST := Lib.hid (show Hier.step n 0 st q q now = ((midS n 0 st q q).1, { (midS n 0 st q q).2 with seats := (fin (midS n 0 st q q).2.seats q (midS n 0 st q q).1.1).2 }) from rfl)
  have hq1 : (0 : Int) ≤ (q : Int) := by omega
  have hq2 : (q : Int) < (st.seats.length : Int) := by omega
  have hDm : ∀ i, fm b i → i ≠ D := fun i hi e => by have := HLM.out i hi; omega
  have hDm1 : ∀ i, fm b i → i ≠ D + 1 := fun i hi e => by have := HLM.out i hi; omega
  clear hlm hlr hR D1 hW hD hd hf hws h hx hWD hn hwd n8 htop
  rw [HX.out] at hs0
  dsimp only at hs0
  have HZQ := Lib.hid (show (st.seats.getD q (0, -1)).1 = 3 by rw [hzq, ← hz]; exact h3s)
  rw [show z = 3 by rw [← hz]; exact h3s] at v0
  have HHS := Lib.hid h3s
  clear h3s hzq hz
  obtain ⟨pa, hpa⟩ : ∃ x, kw / 4 = x := ⟨_, rfl⟩
  obtain ⟨pw, hpw⟩ : ∃ x, kw / 2 % 2 = x := ⟨_, rfl⟩
  obtain ⟨ps, hps⟩ : ∃ x, kw % 2 = x := ⟨_, rfl⟩
  have HKP := Lib.hid (fun (w : World) => Pack.parts_to kw w o5.1 o5.2 pa pw ps hpa.symm hpw.symm hps.symm)
  have hps2 : ps = 0 ∨ ps = 1 := by omega
  have hcl : Pack.clamp pa = pa := by unfold Pack.clamp; rw [if_neg (by omega), if_neg (by omega)]
  have HKW := Lib.hid (fun (w : World) => Pack.word_to pa 0 ps (.inl rfl) hps2 w (kw - 2 * (kw / 2 % 2)) (by rw [hcl]; omega))
  clear hpa hpw hps hcl hps2
  have hnA : nodeA 0 kn = 8 + kn := by unfold nodeA; omega
  have hu1 : IntKind.i64.wrap (8 + kn) = 8 + kn := IntWalk.i64_in _ (by omega)
  have hu2 : IntKind.i64.wrap 8 = 8 := rfl
  obtain ⟨cb, hcb⟩ : ∃ x, (Mem.inB q n && Mem.casB st.ws (8 + kn) kw) = x := ⟨_, rfl⟩
  cases cb with
  | true =>
    have HCB := Lib.hid hcb
    clear hcb
    have t3 := h1.top.cell (i := 3) rfl
    have p3 := h1.prow.cell (col_get hp)
    rw [HX.out] at p3
    dsimp only at p3
    have p4 := h1.prow.frozen q
    have v7 := h1.top.cell (i := 7) rfl
    have vw := h1.wrow.cell (col_get hp)
    rw [HX.out] at vw
    dsimp only at vw
    have ks0 : (ks == 0) = false := by simpa using hs0
    go_enter Try.func108, Try.ntmps108
    go_upto_region 4 with (fail)
    rw [HW.out, HD.out]
    clear c0 c3 u0 v0 hlx hls hlb b1 b2 b3
    have c0 := h1.top.cell (i := 0) rfl
    have c3 := h1.top.cell (i := 3) rfl
    obtain ⟨cs, cd, htop⟩ := h1.seat.top
    have u0 := htop.cell (i := 0) rfl
    have v0 := h1.seat.st.cell (sts_get hq)
    rw [HZQ.out] at v0
    clear htop
    go_wp2_with fail
    refine (HKP.out _).mono ?_
    rintro e w' ⟨rfl, rfl⟩
    go_upto_region 14 with (fail)
    have A2 := h1.setPc q hq ⟨kc, kn, ka, kl, kw, 0⟩ (by rw [HX.out]) ⟨o1, o2, o3, o4, o5, (show (0 : Int) ≤ 0 ∧ (0 : Int) ≤ 7 by decide)⟩
    have U2 := Upd.one W b.pc q (.int .i64 0)
    have R2 := R1.upd U2 (fun e => hDm1 b.pc (fm_all b).2.2.2.2.2.1 e.symm)
    have Q2 := R0.upd U2 (fun e => hDm b.pc (fm_all b).2.2.2.2.2.1 e.symm)
    have g2 := g1.keep U2 (fun i hi e => HDD.out i hi (e ▸ (fm_all b).2.2.2.2.2.1))
    have up2 := up1.trans (U2.mono fun i _ e => .inl (e ▸ (fm_all b).2.2.2.2.2.1))
    have s2 : D + 2 ≤ (W.setCell ⟨b.pc, q, none⟩ (.int .i64 0)).heap.size := by have := U2.size; have := HWD.out; omega
    obtain ⟨w2, hw2⟩ : ∃ w', W.setCell ⟨b.pc, q, none⟩ (.int .i64 0) = w' := ⟨_, rfl⟩
    rw [hw2] at A2 R2 Q2 g2 up2 s2 ⊢
    clear hw2 h1 R1 R0 g1 up1 U2 t3 p3 p4 v7 vw c0 c3 u0 v0
    have HS2 := Lib.hid s2
    clear s2
    have KA := Ref04.casR w2.drew (g2.drewN 1) HF.out HK64.out HWS.out q (8 + kn) kw (kw - 2 * (kw / 2 % 2))
    rw [HCB.out, if_pos rfl] at KA
    have HKA := Lib.hid KA
    clear KA
    have h1d := A2.keep ((Upd.refl (fun _ => False) w2).drewN 1) (fun _ _ => id)
    have hp2 : q < (st.pls.set q ⟨kc, kn, ka, kl, kw, 0⟩).length := by simpa using hp
    have HX2 := Lib.hid (show (st.pls.set q ⟨kc, kn, ka, kl, kw, 0⟩).getD q p0 = ⟨kc, kn, ka, kl, kw, 0⟩ by rw [pl_set _ _ hp, if_pos rfl])
    have c1a := A2.top.cell (i := 1) rfl
    have c4a := A2.top.cell (i := 4) rfl
    have c7a := A2.top.cell (i := 7) rfl
    have n1a := A2.nrow.cell (col_get hp2)
    rw [HX2.out] at n1a
    dsimp only at n1a
    have w1a := A2.wrow.cell (col_get hp2)
    rw [HX2.out] at w1a
    dsimp only at w1a
    go_wp2_with fail
    go_region_held3 (fun w' => w'.cell? ⟨b.x, 1, none⟩ = some (.int .i64 0) ∧ w'.cell? ⟨b.x, 4, none⟩ = some (.slice (some ⟨b.nb, 0, none⟩) st.seats.length b.cn) ∧ w'.cell? ⟨b.x, 7, none⟩ = some (.slice (some ⟨b.wb, 0, none⟩) st.seats.length st.seats.length) ∧ w'.cell? ⟨b.nb, q, none⟩ = some (.int .i64 kn) ∧ w'.cell? ⟨b.wb, q, none⟩ = some (.int .u32 kw)) ((first | exact ⟨c1a, c4a, c7a, n1a, w1a⟩ | exact ⟨c1e, c4e, c7e, n1e, w1e⟩))
        ((first
          | (go_at_call 46; refine (HKW.out _).mono ?_; rintro e w' ⟨rfl, rfl⟩)
          | (go_at_call 112; refine HKA.out.mono ?_; rintro e w5 ⟨rfl, R', hR5, u5, hR5s⟩; have c1e := cell_upd u5 c1a nx; have c4e := cell_upd u5 c4a nx; have c7e := cell_upd u5 c7a nx; have n1e := cell_upd u5 n1a nn; have w1e := cell_upd u5 w1a nw)))
    have HS : Hid (∀ i, R' i → (R i ∨ D ≤ i) ∧ i ≠ D ∧ i ≠ D + 1 ∧ ¬ fm b i) := Lib.hid fun i hi => by
      rcases hR5s i hi with h | h
      · exact ⟨.inl h, by have := HLR.out i h; omega, by have := HLR.out i h; omega, HDD.out i h⟩
      · have := HS2.out
        have h : w2.heap.size ≤ i := h
        exact ⟨.inr (by omega), by omega, by omega, fun e => by have := HLM.out i e; omega⟩
    have A5 := h1d.keep u5 (fun i hi h => HDD.out i h hi)
    have R5 := (R2.drewN 1).upd u5 nD1
    have Q5 := (Q2.drewN 1).upd u5 nD
    have up5 : Upd (fun i => fm b i ∨ R i) w w5 := (up2.drewN 1).trans (u5.mono fun i _ h => .inr h)
    have g5 := hR5
    have dm : ∀ i, fm b i → i ≠ D ∧ i ≠ D + 1 := fun i hi => ⟨hDm i hi, hDm1 i hi⟩
    clear c1a c1e c4a c4e c7a c7e n1a n1e w1a w1e A2 R2 Q2 g2 up2
    have HMID := Lib.hid (show midS n 0 st q q = ((3, false, false, false), { st with pls := st.pls.set q ⟨kc, ka, ka, kl, kw, 0⟩, ws := Mem.put st.ws (8 + kn) (kw - 2 * (kw / 2 % 2)), ts := Cache.after n st.ws.length st.ts q (8 + kn) true }) by
      unfold midS; rw [HHS.out, if_neg (by decide), if_pos rfl, Int.toNat_natCast]; unfold unlS; rw [HX.out]; dsimp only; rw [if_neg hs0, hnA, HCB.out, if_pos rfl])
    have y1 := R5.cell (i := 0) rfl
    have y2 := R5.frozen 0
    have U6 := Upd.one w5 (D + 1) 0 (.int .i64 3)
    have A6 := A5.keep U6 (fun i hi e => (dm i hi).2 e)
    have R6 := R5.set 0 (.int .i64 3)
    have Q6 := Q5.upd U6 (by omega)
    have g6 := g5.keep U6 (fun i hi e => (HS.out i hi).2.2.1 e)
    have up6 := up5.then U6 (fun i hi e => by have := HD.out; omega)
    go_upto_region 16 with (fail)
    obtain ⟨w6, hw6⟩ : ∃ w', w5.setCell ⟨D + 1, 0, none⟩ (.int .i64 3) = w' := ⟨_, rfl⟩
    rw [hw6] at A6 R6 Q6 g6 up6 ⊢
    clear hw6 A5 R5 Q5 g5 up5 U6
    clear y1 y2
    have c4 := A6.top.cell (i := 4) rfl
    have c5 := A6.top.cell (i := 5) rfl
    have a1 := A6.arow.cell (col_get (t := q) (by rw [A6.l1]; exact hq))
    rw [HX2.out] at a1
    dsimp only at a1
    have n1 := A6.nrow.cell (col_get (t := q) (by rw [A6.l1]; exact hq))
    have n2 := A6.nrow.frozen q
    have A7 := A6.setNd q hq ⟨kc, ka, ka, kl, kw, 0⟩ (by rw [HX2.out]) ⟨o1, o3, o3, o4, o5, (show (0 : Int) ≤ 0 ∧ (0 : Int) ≤ 7 by decide)⟩
    rw [List.set_set] at A7
    have U7 := Upd.one w6 b.nb q (.int .i64 ka)
    have R7 := R6.upd U7 (fun e => hDm1 b.nb (fm_all b).2.2.2.2.2.2.1 e.symm)
    have Q7 := Q6.upd U7 (fun e => hDm b.nb (fm_all b).2.2.2.2.2.2.1 e.symm)
    have g7 := g6.keep U7 (fun i hi e => (HS.out i hi).2.2.2 (e ▸ (fm_all b).2.2.2.2.2.2.1))
    have up7 := up6.trans (U7.mono fun i _ e => .inl (e ▸ (fm_all b).2.2.2.2.2.2.1))
    have A7 := A7.keep ((Upd.refl (fun _ => False) _).drewN 1) (fun _ _ => id)
    have R7 := R7.drewN 1
    have Q7 := Q7.drewN 1
    have g7 := g7.drewN 1
    have up7 := up7.drewN 1
    clear U7
    go_wp2_with fail
    go_region
    obtain ⟨w7', hw7⟩ : ∃ w', (w6.setCell ⟨b.nb, q, none⟩ (.int .i64 ka)).drew = w' := ⟨_, rfl⟩
    have hw7' : (w6.setCell ⟨b.nb, q, none⟩ (.int .i64 ka)).drewN 1 = w7' := hw7
    rw [hw7'] at A7 R7 Q7 g7 up7
    rw [hw7]
    clear hw7 hw7' A6 R6 Q6 g6 up6 c4 c5 a1 n1 n2
    obtain ⟨w6, hw6⟩ : ∃ w6, w7' = w6 := ⟨_, rfl⟩
    have h5 := A7
    have g5 := g7
    have r5 := R7
    have q5 := Q7
    have u5 := up7
    rw [hw6] at h5 g5 r5 q5 u5 ⊢
    clear A7 g7 R7 Q7 up7
    obtain ⟨fv, hfv⟩ : ∃ fv, fin st.seats (q : Int) 3 = fv := ⟨_, rfl⟩
    obtain ⟨fb, fl⟩ := fv
    have HST2 := Lib.hid (show Hier.step n 0 st q q now = ((3, false, false, false), { ({ st with pls := st.pls.set q ⟨kc, ka, ka, kl, kw, 0⟩, ws := Mem.put st.ws (8 + kn) (kw - 2 * (kw / 2 % 2)), ts := Cache.after n st.ws.length st.ts q (8 + kn) true } : St) with seats := fl }) by rw [HST.out, HMID.out]; dsimp only; rw [hfv])
    have hfl : fl.length = st.seats.length := by have := fin_len st.seats (q : Int) 3; rw [hfv] at this; exact this
    have HFL := Lib.hid hfl
    have HRB : Hid (∀ i, R' i → ¬ (i = b.sb ∨ i = b.db) ∧ i ≠ D) := Lib.hid fun i hi => by
      obtain ⟨_, k1, _, k2⟩ := HS.out i hi
      exact ⟨fun e => k2 (by rcases e with rfl | rfl; exact (fm_all b).2.2.1; exact (fm_all b).2.2.2.1), k1⟩
    have g0 := h5.top.cell (i := 0) rfl
    have g1' := r5.cell (i := 0) rfl
    have hxb : ¬ (b.x = b.sb ∨ b.x = b.db) := fun e => by rcases e with e | e; exact Bk.ne h5.nd 0 2 (by decide) (by decide) (by decide) e; exact Bk.ne h5.nd 0 3 (by decide) (by decide) (by decide) e
    have hDb : ¬ (D = b.sb ∨ D = b.db) := fun e => by rcases e with e | e; exact hDm b.sb (fm_all b).2.2.1 e.symm; exact hDm b.db (fm_all b).2.2.2.1 e.symm
    have hD1b : ¬ (D + 1 = b.sb ∨ D + 1 = b.db) := fun e => by rcases e with e | e; exact hDm1 b.sb (fm_all b).2.2.1 e.symm; exact hDm1 b.db (fm_all b).2.2.2.1 e.symm
    have KE := rend_all _ _ _ _ _ _ _ (h5.seat.drewN 1) q (3)
    rw [hfv] at KE
    have h6d := h5.keep ((Upd.refl (fun _ => False) w6).drewN 1) (fun _ _ => id)
    have HKE := Lib.hid KE
    clear KE hfv hw6 hfl
    go_wp2_with fail
    go_region_held3 (fun w' => w'.cell? ⟨b.x, 0, none⟩ = some (.pointer (some ⟨b.sx, 0, none⟩)) ∧ w'.cell? ⟨D + 1, 0, none⟩ = some (.int .i64 3)) ((first | exact ⟨g0, g1'⟩ | exact ⟨e0, e1⟩))
      ((go_at_call 113; refine HKE.out.mono ?_; rintro e w7 ⟨rfl, hs7, u7⟩; have e0 := cell_upd u7 g0 hxb; have e1 := cell_upd u7 g1' hD1b))
    have A7 := h6d.seats HFL.out hs7 u7
    have g7 := (g5.drewN 1).keep u7 (fun i hi => (HRB.out i hi).1)
    have r7 := (r5.drewN 1).upd u7 hD1b
    have q7 := (q5.drewN 1).upd u7 hDb
    have up7 : Upd (fun i => fm b i ∨ R i) w w7 := (u5.drewN 1).trans (u7.mono fun i _ e => by rcases e with rfl | rfl; exact .inl (fm_all b).2.2.1; exact .inl (fm_all b).2.2.2.1)
    clear e0 e1 g0 g1' h5 h6d g5 r5 q5 u5 u7 hs7 HKE
    have y0 := r7.cell (i := 0) rfl
    have y1 := r7.cell (i := 1) rfl
    have y2 := r7.cell (i := 2) rfl
    have y3 := r7.cell (i := 3) rfl
    have z0 := q7.cell (i := 0) rfl
    have z1 := q7.cell (i := 1) rfl
    have z2 := q7.cell (i := 2) rfl
    have z3 := q7.cell (i := 3) rfl
    have k0 := q7.frozen 0
    have k1 := q7.frozen 1
    have k2 := q7.frozen 2
    have k3 := q7.frozen 3
    go_wp2_with fail
    have RE := did4 q7 (.int .i64 3) (.int .i64 0) (.int .i64 0) (.int .i64 0)
    have UE := upd4 w7 D (.int .i64 3) (.int .i64 0) (.int .i64 0) (.int .i64 0)
    obtain ⟨w9, hw9⟩ : ∃ w9, (((w7.setCell ⟨D, 0, none⟩ (.int .i64 3)).setCell ⟨D, 1, none⟩ (.int .i64 0)).setCell ⟨D, 2, none⟩ (.int .i64 0)).setCell ⟨D, 3, none⟩ (.int .i64 0) = w9 := ⟨_, rfl⟩
    rw [hw9] at RE UE ⊢
    have g0 := RE.cell (i := 0) rfl
    have g1' := RE.cell (i := 1) rfl
    have g2 := RE.cell (i := 2) rfl
    have g3 := RE.cell (i := 3) rfl
    refine bodyPost_ret (v := didm (3, false, false, false)) (by simp [results, Try.results108, go_sem, didm, b2i, g0, g1', g2, g3]) rfl ?_
    rw [HST2.out]
    exact ⟨rfl, A7.keep UE (fun i hi e => hDm i hi e), R', g7.keep UE (fun i hi e => (HRB.out i hi).2 e), up7.then UE (fun i hi e => by have := HD.out; omega), fun i hi => (by rw [HD.out]; exact (HS.out i hi).1)⟩
  | false =>
    have HCB := Lib.hid hcb
    clear hcb
    have t3 := h1.top.cell (i := 3) rfl
    have p3 := h1.prow.cell (col_get hp)
    rw [HX.out] at p3
    dsimp only at p3
    have p4 := h1.prow.frozen q
    have v7 := h1.top.cell (i := 7) rfl
    have vw := h1.wrow.cell (col_get hp)
    rw [HX.out] at vw
    dsimp only at vw
    have ks0 : (ks == 0) = false := by simpa using hs0
    go_enter Try.func108, Try.ntmps108
    go_upto_region 4 with (fail)
    rw [HW.out, HD.out]
    clear c0 c3 u0 v0 hlx hls hlb b1 b2 b3
    have c0 := h1.top.cell (i := 0) rfl
    have c3 := h1.top.cell (i := 3) rfl
    obtain ⟨cs, cd, htop⟩ := h1.seat.top
    have u0 := htop.cell (i := 0) rfl
    have v0 := h1.seat.st.cell (sts_get hq)
    rw [HZQ.out] at v0
    clear htop
    go_wp2_with fail
    refine (HKP.out _).mono ?_
    rintro e w' ⟨rfl, rfl⟩
    go_upto_region 14 with (fail)
    have A2 := h1.setPc q hq ⟨kc, kn, ka, kl, kw, 0⟩ (by rw [HX.out]) ⟨o1, o2, o3, o4, o5, (show (0 : Int) ≤ 0 ∧ (0 : Int) ≤ 7 by decide)⟩
    have U2 := Upd.one W b.pc q (.int .i64 0)
    have R2 := R1.upd U2 (fun e => hDm1 b.pc (fm_all b).2.2.2.2.2.1 e.symm)
    have Q2 := R0.upd U2 (fun e => hDm b.pc (fm_all b).2.2.2.2.2.1 e.symm)
    have g2 := g1.keep U2 (fun i hi e => HDD.out i hi (e ▸ (fm_all b).2.2.2.2.2.1))
    have up2 := up1.trans (U2.mono fun i _ e => .inl (e ▸ (fm_all b).2.2.2.2.2.1))
    have s2 : D + 2 ≤ (W.setCell ⟨b.pc, q, none⟩ (.int .i64 0)).heap.size := by have := U2.size; have := HWD.out; omega
    obtain ⟨w2, hw2⟩ : ∃ w', W.setCell ⟨b.pc, q, none⟩ (.int .i64 0) = w' := ⟨_, rfl⟩
    rw [hw2] at A2 R2 Q2 g2 up2 s2 ⊢
    clear hw2 h1 R1 R0 g1 up1 U2 t3 p3 p4 v7 vw c0 c3 u0 v0
    have HS2 := Lib.hid s2
    clear s2
    have KA := Ref04.casR w2.drew (g2.drewN 1) HF.out HK64.out HWS.out q (8 + kn) kw (kw - 2 * (kw / 2 % 2))
    rw [HCB.out, if_neg (by decide)] at KA
    have HKA := Lib.hid KA
    clear KA
    have h1d := A2.keep ((Upd.refl (fun _ => False) w2).drewN 1) (fun _ _ => id)
    have hp2 : q < (st.pls.set q ⟨kc, kn, ka, kl, kw, 0⟩).length := by simpa using hp
    have HX2 := Lib.hid (show (st.pls.set q ⟨kc, kn, ka, kl, kw, 0⟩).getD q p0 = ⟨kc, kn, ka, kl, kw, 0⟩ by rw [pl_set _ _ hp, if_pos rfl])
    have c1a := A2.top.cell (i := 1) rfl
    have c4a := A2.top.cell (i := 4) rfl
    have c7a := A2.top.cell (i := 7) rfl
    have n1a := A2.nrow.cell (col_get hp2)
    rw [HX2.out] at n1a
    dsimp only at n1a
    have w1a := A2.wrow.cell (col_get hp2)
    rw [HX2.out] at w1a
    dsimp only at w1a
    go_wp2_with fail
    go_region_held3 (fun w' => w'.cell? ⟨b.x, 1, none⟩ = some (.int .i64 0) ∧ w'.cell? ⟨b.x, 4, none⟩ = some (.slice (some ⟨b.nb, 0, none⟩) st.seats.length b.cn) ∧ w'.cell? ⟨b.x, 7, none⟩ = some (.slice (some ⟨b.wb, 0, none⟩) st.seats.length st.seats.length) ∧ w'.cell? ⟨b.nb, q, none⟩ = some (.int .i64 kn) ∧ w'.cell? ⟨b.wb, q, none⟩ = some (.int .u32 kw)) ((first | exact ⟨c1a, c4a, c7a, n1a, w1a⟩ | exact ⟨c1e, c4e, c7e, n1e, w1e⟩))
        ((first
          | (go_at_call 46; refine (HKW.out _).mono ?_; rintro e w' ⟨rfl, rfl⟩)
          | (go_at_call 112; refine HKA.out.mono ?_; rintro e w5 ⟨rfl, R', hR5, u5, hR5s⟩; have c1e := cell_upd u5 c1a nx; have c4e := cell_upd u5 c4a nx; have c7e := cell_upd u5 c7a nx; have n1e := cell_upd u5 n1a nn; have w1e := cell_upd u5 w1a nw)))
    have HS : Hid (∀ i, R' i → (R i ∨ D ≤ i) ∧ i ≠ D ∧ i ≠ D + 1 ∧ ¬ fm b i) := Lib.hid fun i hi => by
      rcases hR5s i hi with h | h
      · exact ⟨.inl h, by have := HLR.out i h; omega, by have := HLR.out i h; omega, HDD.out i h⟩
      · have := HS2.out
        have h : w2.heap.size ≤ i := h
        exact ⟨.inr (by omega), by omega, by omega, fun e => by have := HLM.out i e; omega⟩
    have A5 := h1d.keep u5 (fun i hi h => HDD.out i h hi)
    have R5 := (R2.drewN 1).upd u5 nD1
    have Q5 := (Q2.drewN 1).upd u5 nD
    have up5 : Upd (fun i => fm b i ∨ R i) w w5 := (up2.drewN 1).trans (u5.mono fun i _ h => .inr h)
    have g5 := hR5
    have dm : ∀ i, fm b i → i ≠ D ∧ i ≠ D + 1 := fun i hi => ⟨hDm i hi, hDm1 i hi⟩
    clear c1a c1e c4a c4e c7a c7e n1a n1e w1a w1e A2 R2 Q2 g2 up2
    have HMID := Lib.hid (show midS n 0 st q q = ((0, false, false, false), { st with pls := st.pls.set q ⟨kc, kn, ka, kl, kw, 0⟩, ts := Cache.after n st.ws.length st.ts q (8 + kn) true }) by
      unfold midS; rw [HHS.out, if_neg (by decide), if_pos rfl, Int.toNat_natCast]; unfold unlS; rw [HX.out]; dsimp only; rw [if_neg hs0, hnA, HCB.out, if_neg (by decide)])
    go_upto_region 17 with (fail)
    obtain ⟨w8, hw8⟩ : ∃ w', w5 = w' := ⟨_, rfl⟩
    have A8 := A5
    have R8 := R5
    have Q8 := Q5
    have g8 := g5
    have up8 := up5
    rw [hw8] at A8 R8 Q8 g8 up8 ⊢
    clear hw8 A5 R5 Q5 g5 up5 u5 hR5 hR5s
    obtain ⟨w6, hw6⟩ : ∃ w6, w8 = w6 := ⟨_, rfl⟩
    have h5 := A8
    have g5 := g8
    have r5 := R8
    have q5 := Q8
    have u5 := up8
    rw [hw6] at h5 g5 r5 q5 u5 ⊢
    clear A8 g8 R8 Q8 up8
    obtain ⟨fv, hfv⟩ : ∃ fv, fin st.seats (q : Int) 0 = fv := ⟨_, rfl⟩
    obtain ⟨fb, fl⟩ := fv
    have HST2 := Lib.hid (show Hier.step n 0 st q q now = ((0, false, false, false), { ({ st with pls := st.pls.set q ⟨kc, kn, ka, kl, kw, 0⟩, ts := Cache.after n st.ws.length st.ts q (8 + kn) true } : St) with seats := fl }) by rw [HST.out, HMID.out]; dsimp only; rw [hfv])
    have hfl : fl.length = st.seats.length := by have := fin_len st.seats (q : Int) 0; rw [hfv] at this; exact this
    have HFL := Lib.hid hfl
    have HRB : Hid (∀ i, R' i → ¬ (i = b.sb ∨ i = b.db) ∧ i ≠ D) := Lib.hid fun i hi => by
      obtain ⟨_, k1, _, k2⟩ := HS.out i hi
      exact ⟨fun e => k2 (by rcases e with rfl | rfl; exact (fm_all b).2.2.1; exact (fm_all b).2.2.2.1), k1⟩
    have g0 := h5.top.cell (i := 0) rfl
    have g1' := r5.cell (i := 0) rfl
    have hxb : ¬ (b.x = b.sb ∨ b.x = b.db) := fun e => by rcases e with e | e; exact Bk.ne h5.nd 0 2 (by decide) (by decide) (by decide) e; exact Bk.ne h5.nd 0 3 (by decide) (by decide) (by decide) e
    have hDb : ¬ (D = b.sb ∨ D = b.db) := fun e => by rcases e with e | e; exact hDm b.sb (fm_all b).2.2.1 e.symm; exact hDm b.db (fm_all b).2.2.2.1 e.symm
    have hD1b : ¬ (D + 1 = b.sb ∨ D + 1 = b.db) := fun e => by rcases e with e | e; exact hDm1 b.sb (fm_all b).2.2.1 e.symm; exact hDm1 b.db (fm_all b).2.2.2.1 e.symm
    have KE := rend_all _ _ _ _ _ _ _ (h5.seat.drewN 1) q (0)
    rw [hfv] at KE
    have h6d := h5.keep ((Upd.refl (fun _ => False) w6).drewN 1) (fun _ _ => id)
    have HKE := Lib.hid KE
    clear KE hfv hw6 hfl
    go_wp2_with fail
    go_region_held3 (fun w' => w'.cell? ⟨b.x, 0, none⟩ = some (.pointer (some ⟨b.sx, 0, none⟩)) ∧ w'.cell? ⟨D + 1, 0, none⟩ = some (.int .i64 0)) ((first | exact ⟨g0, g1'⟩ | exact ⟨e0, e1⟩))
      ((go_at_call 113; refine HKE.out.mono ?_; rintro e w7 ⟨rfl, hs7, u7⟩; have e0 := cell_upd u7 g0 hxb; have e1 := cell_upd u7 g1' hD1b))
    have A7 := h6d.seats HFL.out hs7 u7
    have g7 := (g5.drewN 1).keep u7 (fun i hi => (HRB.out i hi).1)
    have r7 := (r5.drewN 1).upd u7 hD1b
    have q7 := (q5.drewN 1).upd u7 hDb
    have up7 : Upd (fun i => fm b i ∨ R i) w w7 := (u5.drewN 1).trans (u7.mono fun i _ e => by rcases e with rfl | rfl; exact .inl (fm_all b).2.2.1; exact .inl (fm_all b).2.2.2.1)
    clear e0 e1 g0 g1' h5 h6d g5 r5 q5 u5 u7 hs7 HKE
    have y0 := r7.cell (i := 0) rfl
    have y1 := r7.cell (i := 1) rfl
    have y2 := r7.cell (i := 2) rfl
    have y3 := r7.cell (i := 3) rfl
    have z0 := q7.cell (i := 0) rfl
    have z1 := q7.cell (i := 1) rfl
    have z2 := q7.cell (i := 2) rfl
    have z3 := q7.cell (i := 3) rfl
    have k0 := q7.frozen 0
    have k1 := q7.frozen 1
    have k2 := q7.frozen 2
    have k3 := q7.frozen 3
    go_wp2_with fail
    have RE := did4 q7 (.int .i64 0) (.int .i64 0) (.int .i64 0) (.int .i64 0)
    have UE := upd4 w7 D (.int .i64 0) (.int .i64 0) (.int .i64 0) (.int .i64 0)
    obtain ⟨w9, hw9⟩ : ∃ w9, (((w7.setCell ⟨D, 0, none⟩ (.int .i64 0)).setCell ⟨D, 1, none⟩ (.int .i64 0)).setCell ⟨D, 2, none⟩ (.int .i64 0)).setCell ⟨D, 3, none⟩ (.int .i64 0) = w9 := ⟨_, rfl⟩
    rw [hw9] at RE UE ⊢
    have g0 := RE.cell (i := 0) rfl
    have g1' := RE.cell (i := 1) rfl
    have g2 := RE.cell (i := 2) rfl
    have g3 := RE.cell (i := 3) rfl
    refine bodyPost_ret (v := didm (0, false, false, false)) (by simp [results, Try.results108, go_sem, didm, b2i, g0, g1', g2, g3]) rfl ?_
    rw [HST2.out]
    exact ⟨rfl, A7.keep UE (fun i hi e => hDm i hi e), R', g7.keep UE (fun i hi e => (HRB.out i hi).2 e), up7.then UE (fun i hi e => by have := HD.out; omega), fun i hi => (by rw [HD.out]; exact (HS.out i hi).1)⟩
theorem stepR {w : World} {st : St} {y n : Nat} {R : Nat → Prop} (h : MAt b w st.seats st.pls) (hR : Ref04.RO w y R n st.ws st.ts) (hd : ∀ i, R i → ¬ fm b i) (hf : st.ts.length < 1000000) (n8 : n ≤ 8) (hn : st.seats.length = n) (hws : st.ws.length ≤ 100000) (hwd : Mem.Wd st.ws) (t now : Int) :
    Calls Try.prog 108 #[.pointer (some ⟨b.x, 0, none⟩), .pointer (some ⟨y, 0, none⟩), .int .i64 t, .int .i64 t, .int .i64 now] w fun e w' => e = .returned (didm (Hier.step n 0 st t t now).1) ∧ MAt b w' (Hier.step n 0 st t t now).2.seats (Hier.step n 0 st t t now).2.pls ∧
      ∃ R', Ref04.RO w' y R' n (Hier.step n 0 st t t now).2.ws (Hier.step n 0 st t t now).2.ts ∧ Upd (fun i => fm b i ∨ R i) w w' ∧ ∀ i, R' i → R i ∨ w.heap.size ≤ i := by
  cases hin : inB t st.seats.length with
  | false => exact stepOut h hR t now hin
  | true =>
    obtain ⟨q, rfl, hq⟩ := inB_nat hin
    by_cases h1 : state st.seats (q : Int) = 1
    · exact stepLock h hR hd hf n8 hn hws hwd q now hq h1
    · by_cases h3 : state st.seats (q : Int) = 3
      · by_cases h0 : (st.pls.getD q p0).s = 0
        · exact stepA h hR hd hf n8 hn hws hwd q now hq h3 h0
        · exact stepB h hR hd hf n8 hn hws hwd q now hq h3 h0
      · exact stepIdle h hR hd hf n8 hn hws hwd q now hq h1 h3
end Go.Proofs.Ytmiidiijhhjabaa.Ref15
