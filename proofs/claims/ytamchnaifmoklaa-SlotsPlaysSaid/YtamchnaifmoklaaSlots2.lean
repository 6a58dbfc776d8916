/- Package slots: Step; the lock as the laws take it. -/
import Derived.Test.YtamchnaifmoklaaSlots
namespace Go.Proofs.Ytamchnaifmoklaa.Slots
open Go Go.RowKit Go.Proofs.Ytamchnaifmoklaa.Heap Go.Proofs.Ytamchnaifmoklaa.Open Go.Proofs.Ytamchnaifmoklaa.Seat Go.Proofs.Ytamchnaifmoklaa.Mach Go.Proofs.Ytamchnaifmoklaa.Has Go.Proofs.Ytamchnaifmoklaa.StepU
variable {l s lb pb p : Nat} {SP : Nat → Prop} {k : Nat} {hs : List Int} {tl kn : Int}

theorem O.lt {w : World} {b : Nat} {st : St} (h : O l s lb pb p SP k hs tl kn w b st) : ∀ i, ft l s lb pb SP i → i < w.heap.size := by
  intro i hi
  rcases hi with hi | rfl | rfl | rfl | rfl
  · obtain ⟨_, hl⟩ := h.port; exact hl i hi
  · exact h.at_.top.lt
  · exact h.at_.seat.top.lt
  · exact h.at_.seat.row.lt
  · exact h.at_.plc.lt
theorem O.keep {w w' : World} {b : Nat} {st : St} {T : Nat → Prop} (h : O l s lb pb p SP k hs tl kn w b st) (hu : Upd T w w') (hd : ∀ i, ft l s lb pb SP i → ¬ T i) : O l s lb pb p SP k hs tl kn w' b st :=
  ⟨h.at_.keep hu (hd l (by simp [ft])) (hd s (by simp [ft])) (hd lb (by simp [ft])) (hd pb (by simp [ft])), h.port.keep hu (fun i hi => hd i (.inl hi)), h.few, h.sep⟩
theorem O.mono {w : World} {b b' : Nat} {st : St} (h : O l s lb pb p SP k hs tl kn w b st) (hb : b ≤ b') : O l s lb pb p SP k hs tl kn w b' st := ⟨h.at_, h.port, Nat.le_trans h.few hb, h.sep⟩
/-- The seats turn. -/
theorem O.seats {w w' : World} {b : Nat} {st : St} (h : O l s lb pb p SP k hs tl kn w b st) (x : List (Int × Int)) (hx : x.length = st.seats.length) (ha : Seat.At w' s lb x false false) (hu : Upd (fun i => i = lb) w w') :
    O l s lb pb p SP k hs tl kn w' b { st with seats := x } := ⟨h.at_.seats hu ha hx, h.port.keep hu (fun _ hi e => h.sep.2.2.1 (e ▸ hi)), h.few, h.sep⟩
theorem size_set (w : World) (a : Addr) (v : Value) : (w.setCell a v).heap.size = w.heap.size := by simp [World.setCell]

set_option maxHeartbeats 4000000 in
theorem stepC {w : World} {b : Nat} {st : St} (h : O l s lb pb p SP k hs tl kn w b st) (hb : b < 1000000) (t a now : Int) :
    Calls Try.prog 22 #[.pointer (some ⟨l, 0, none⟩), .int .i64 t, .int .i64 a, .int .i64 now] w fun e w' =>
      e = .returned (didv (step k tl kn st t a now).1) ∧ O l s lb pb p SP k hs tl kn w' (b + 1) (step k tl kn st t a now).2 ∧ Upd (ft l s lb pb SP) w w' := by
  have hsep := h.sep
  have HFEW := Lib.hid h.few
  have hup0 : Upd (ft l s lb pb SP) w ((w.alloc (.cells #[.int .i64 0, .bool false, .bool false, .bool false] 53)).alloc (.cells #[.int .i64 0, .bool false, .bool false, .bool false] 53)) := ((Upd.refl _ _).alloc _).alloc _
  have h1 := h.keep (((Upd.refl (fun _ => False) w).alloc (.cells #[.int .i64 0, .bool false, .bool false, .bool false] 53)).alloc (.cells #[.int .i64 0, .bool false, .bool false, .bool false] 53)) (fun _ _ => id)
  have R0 : Row ((w.alloc (.cells #[.int .i64 0, .bool false, .bool false, .bool false] 53)).alloc (.cells #[.int .i64 0, .bool false, .bool false, .bool false] 53)) w.heap.size [.int .i64 0, .bool false, .bool false, .bool false] := (Row.new' rfl).alloc _
  have R1 : Row ((w.alloc (.cells #[.int .i64 0, .bool false, .bool false, .bool false] 53)).alloc (.cells #[.int .i64 0, .bool false, .bool false, .bool false] 53)) (w.heap.size + 1) [.int .i64 0, .bool false, .bool false, .bool false] := Row.new' (by simp)
  obtain ⟨D, hD⟩ : ∃ D, w.heap.size = D := ⟨_, rfl⟩
  have hlD : ∀ i, ft l s lb pb SP i → i < D := by rw [← hD]; exact h.lt
  have HD := Lib.hid hD
  obtain ⟨W, hW⟩ : ∃ W, (w.alloc (.cells #[.int .i64 0, .bool false, .bool false, .bool false] 53)).alloc (.cells #[.int .i64 0, .bool false, .bool false, .bool false] 53) = W := ⟨_, rfl⟩
  rw [hD] at R0 R1
  rw [hW] at hup0 h1 R0 R1
  have HW := Lib.hid hW
  clear hD hW h
  have hDn : ∀ i, ft l s lb pb SP i → i ≠ D := fun i hi e => by have := hlD i hi; omega
  have hDn1 : ∀ i, ft l s lb pb SP i → i ≠ D + 1 := fun i hi e => by have := hlD i hi; omega
  obtain ⟨z, hz⟩ : ∃ z, state st.seats t = z := ⟨_, rfl⟩
  have KS := state_all _ _ _ _ _ _ h1.at_.seat t
  rw [hz] at KS
  have HKS := Lib.hid KS
  have HE := Lib.hid (show midS k tl kn st t a = if z = 1 then lockS k tl kn st t.toNat a else if z = 3 then
    ((3, false, false, false), { st with pls := st.pls.set t.toNat (0, 0), ws := wrt k st.ws a (slotA tl kn (((st.pls.getD t.toNat (0, 0)).1 + 1) % 4294967296)) 1, ts := Cache.after k st.ws.length st.ts a (slotA tl kn (((st.pls.getD t.toNat (0, 0)).1 + 1) % 4294967296)) true })
    else ((0, false, false, false), st) by unfold midS; rw [hz])
  have HIN := Lib.hid (show z ≠ 0 → inB t st.seats.length = true from fun e => state_in (by rw [hz]; exact e))
  have HST := Lib.hid (show step k tl kn st t a now = ((midS k tl kn st t a).1, { (midS k tl kn st t a).2 with seats := (fin (midS k tl kn st t a).2.seats t (midS k tl kn st t a).1.1).2 }) from rfl)
  obtain ⟨⟨d, st'⟩, hm⟩ : ∃ r, midS k tl kn st t a = r := ⟨_, rfl⟩
  rw [hm] at HE HST
  have c0 := h1.at_.top.cell (i := 0) rfl
  clear hz KS hm
  go_enter Try.func22, Try.ntmps22
  go_upto_region 2 with (fail)
  rw [HW.out, HD.out]
  go_wp2_with fail
  refine HKS.out.mono ?_
  rintro e w1 ⟨rfl, rfl⟩
  clear HKS
  go_upto_block 0 with (fail)
  go_cut [] from 15 to 53 (fun wx => O l s lb pb p SP k hs tl kn wx (b + 1) st' ∧ Row wx (D + 1) (dcells d) ∧ Row wx D [.int .i64 0, .bool false, .bool false, .bool false] ∧ Upd (ft l s lb pb SP) w wx ∧ st'.seats.length = st.seats.length)
  case first =>
    have c1 := h1.at_.top.cell (i := 1) rfl
    have c2 := h1.at_.top.cell (i := 2) rfl
    have c3 := h1.at_.top.cell (i := 3) rfl
    have c4 := h1.at_.top.cell (i := 4) rfl
    have tl0 := h1.at_.tl0
    have hWs : W.heap.size = D + 2 := by rw [← HW.out, ← HD.out]; simp
    have HWS := Lib.hid hWs
    clear hWs
    have r0 := R1.cell (i := 0) rfl
    have r1 := R1.cell (i := 1) rfl
    have r2 := R1.cell (i := 2) rfl
    have r3 := R1.cell (i := 3) rfl
    have f0 := R1.frozen 0
    have f1 := R1.frozen 1
    have f2 := R1.frozen 2
    have f3 := R1.frozen 3
    by_cases z1 : z = 1
    · have hin := HIN.out (by omega)
      obtain ⟨q, rfl, hq⟩ := inB_nat hin
      have he := HE.out
      rw [if_pos z1, Int.toNat_natCast] at he
      have KL := lockC h1 hb q hq a
      rw [← he] at KL
      have HKL := Lib.hid KL
      have hsl : st'.seats.length = st.seats.length := by
        have : st' = (lockS k tl kn st q a).2 := congrArg Prod.snd he
        rw [this]; unfold lockS; dsimp only; (repeat' split) <;> rfl
      have HSL := Lib.hid hsl
      subst z1
      have hq1 : (0 : Int) ≤ (q : Int) := by omega
      have hq2 : (q : Int) < (st.seats.length : Int) := by omega
      obtain ⟨ev, b1, b2, b3⟩ := d
      clear KL he hin hsl HE HIN
      go_wp2_with fail
      refine HKL.out.mono ?_
      rintro e w3 ⟨rfl, h3, u3⟩
      have R3 := R1.upd u3 (fun e => hDn1 _ e rfl)
      have Q3 := R0.upd u3 (fun e => hDn _ e rfl)
      have r0 := R3.cell (i := 0) rfl
      have r1 := R3.cell (i := 1) rfl
      have r2 := R3.cell (i := 2) rfl
      have r3 := R3.cell (i := 3) rfl
      have f0 := R3.frozen 0
      have f1 := R3.frozen 1
      have f2 := R3.frozen 2
      have f3 := R3.frozen 3
      have up3 := hup0.trans u3
      unfold didv
      clear h1 R1 R0 hup0 u3 HKL
      go_wp2_with fail
      have RE := did4 R3 (.int .i64 ev) (.bool b1) (.bool b2) (.bool b3)
      have UE := upd4 w3 (D + 1) (.int .i64 ev) (.bool b1) (.bool b2) (.bool b3)
      go_meet
      case rel => exact ⟨h3.keep UE (fun i hi e => hDn1 i hi e), RE, Q3.upd UE (by omega), up3.then UE (fun i hi e => by have := HD.out; omega), HSL.out⟩
    by_cases z3 : z = 3
    · have hin := HIN.out (by omega)
      obtain ⟨q, rfl, hq⟩ := inB_nat hin
      have he := HE.out
      rw [if_neg z1, if_pos z3, Int.toNat_natCast] at he
      have n0 := h1.at_.c0 hq
      obtain ⟨o1, o3⟩ := h1.at_.ok q (by rw [h1.at_.l1]; exact hq)
      obtain ⟨nd, hnd⟩ : ∃ x, (st.pls.getD q (0, 0)).1 = x := ⟨_, rfl⟩
      rw [hnd] at n0 o1 he
      obtain ⟨ad, had⟩ : ∃ ad, slotA tl kn ((nd + 1) % 4294967296) = ad := ⟨_, rfl⟩
      rw [had] at he
      have hd' : d = (3, false, false, false) := congrArg Prod.fst he
      have hs' : st' = { st with pls := st.pls.set q (0, 0), ws := wrt k st.ws a ad 1, ts := Cache.after k st.ws.length st.ts a ad true } := congrArg Prod.snd he
      have hq1 : (0 : Int) ≤ (q : Int) := by omega
      have hq2 : (q : Int) < (st.seats.length : Int) := by omega
      have HS' := Lib.hid hs'
      subst z3 hd'
      have KA := fun m => Port.storeP _ p SP k st.ws hs st.ts (h1.port.drewN m) (Nat.lt_of_le_of_lt h1.few hb) a ad 1 (by omega) (by omega)
      have HKA := Lib.hid KA
      have KF := slotC (l := l) (W.drewN 1) c2 c3 tl0 h1.at_.sz ((nd + 1) % 4294967296) (by omega)
      rw [had] at KF
      have HKF := Lib.hid KF
      have hA2 := fun m => h1.keep ((Upd.refl (fun _ => False) W).drewN m) (fun _ _ => id)
      have HA2 := Lib.hid hA2
      clear KA KF he hin hs' HE HIN hnd had hA2
      go_wp2_with fail
      go_region_held3 (fun w' => w'.cell? ⟨l, 1, none⟩ = some (.pointer (some ⟨p, 0, none⟩)) ∧ w'.cell? ⟨l, 4, none⟩ = some (.slice (some ⟨pb, 0, none⟩) st.seats.length st.seats.length) ∧ w'.cell? ⟨pb, q * 2, none⟩ = some (.int .u32 nd)) ((first | exact ⟨c1, c4, n0⟩ | exact ⟨q1, q2, q3⟩))
        ((first | (go_at_call 45; refine HKF.out.mono ?_; rintro e w4 ⟨rfl, nn, rfl⟩) | (go_at_call 44; refine (HKA.out _).mono ?_; rintro e w5 ⟨rfl, hp5, u5⟩; have uu := ((Upd.refl SP W).drewN (1 + nn)).trans u5; have q1 := cell_upd uu c1 hsep.1; have q2 := cell_upd uu c4 hsep.1; have q3 := cell_upd uu n0 hsep.2.2.2)))
      have A5 := (HA2.out _).at_.keep u5 hsep.1 hsep.2.1 hsep.2.2.1 hsep.2.2.2
      have R3 := R1.upd uu (fun e => hDn1 _ (.inl e) rfl)
      have Q3 := R0.upd uu (fun e => hDn _ (.inl e) rfl)
      have t4 := A5.top.cell (i := 4) rfl
      have up5 : Upd (ft l s lb pb SP) w w5 := hup0.trans (uu.mono fun i _ h => .inl h)
      have A6 := A5.clear q
      have m0 := A5.c0 hq
      have m1 := A5.c1 hq
      have k0 := A5.plc.frozen (q * 2)
      have k1 := A5.plc.frozen (q * 2 + 1)
      have U6 := Upd.two w5 pb (q * 2) (q * 2 + 1) (.int .u32 0) (.int .i64 0)
      have hDb : D + 1 ≠ pb := fun e => hDn1 pb (by simp [ft]) e.symm
      have hDb0 : D ≠ pb := fun e => hDn pb (by simp [ft]) e.symm
      have R6 := R3.upd U6 hDb
      have Q6 := Q3.upd U6 hDb0
      have p6 := hp5.keep U6 (fun i hi e => hsep.2.2.2 (e ▸ hi))
      have up6 := up5.trans (U6.mono fun i _ e => (by rw [e]; simp [ft] : ft l s lb pb SP i))
      have y0 := R3.cell (i := 0) rfl
      have y1 := R3.frozen 0
      clear q1 q2 q3 h1 R1 R0 hup0 HKA HKF A5 u5 up5 hp5 R3 Q3 n0 c0 c1 c2 c3 c4 r0 r1 r2 r3 f0 f1 f2 f3 HA2 uu
      go_wp2_with fail
      obtain ⟨w7, hw7⟩ : ∃ w7, ((w5.setCell ⟨pb, q * 2, none⟩ (.int .u32 0)).setCell ⟨pb, q * 2 + 1, none⟩ (.int .i64 0)) = w7 := ⟨_, rfl⟩
      rw [hw7] at A6 R6 Q6 p6 up6
      rw [hw7]
      have RE := R6.set 0 (.int .i64 3)
      have UE := Upd.one w7 (D + 1) 0 (.int .i64 3)
      go_meet
      case rel =>
        rw [HS'.out]
        refine ⟨⟨A6.keepD (SP := SP) UE (fun i hi => hDn1 i hi), p6.keep UE (fun i hi e => hDn1 i (.inl hi) e), ?_, hsep⟩, by simpa [dcells] using RE, Q6.upd UE (by omega), up6.then UE (fun i hi e => by have := HD.out; omega), rfl⟩
        exact Nat.le_trans (Cache.after_len _ _ _ _ _ _) (by have := HFEW.out; omega)
    · have he := HE.out
      rw [if_neg z1, if_neg z3] at he
      have hd' : d = (0, false, false, false) := congrArg Prod.fst he
      have hs' : st' = st := congrArg Prod.snd he
      have e1 : (z == 1) = false := by simpa using z1
      have e3 : (z == 3) = false := by simpa using z3
      subst hd' hs'
      clear he z1 z3 HE HIN
      go_wp2_with fail
      go_meet
      case rel => exact ⟨h1.mono (by omega), R1, R0, hup0, trivial⟩
  case rest =>
    obtain ⟨h5, r5, q5, u5, l5⟩ := hcut
    obtain ⟨w5, hw5⟩ : ∃ w5, wc = w5 := ⟨_, rfl⟩
    rw [hw5] at h5 r5 q5 u5 ⊢
    obtain ⟨ev, b1, b2, b3⟩ := d
    unfold dcells at r5
    have g0 := h5.at_.top.cell (i := 0) rfl
    have g1 := r5.cell (i := 0) rfl
    have KE := end_all _ _ _ _ _ _ (h5.at_.seat.drewN 1) t ev
    have HKE := Lib.hid KE
    have hfl := fin_len st'.seats t ev
    obtain ⟨fv, hfv⟩ : ∃ fv, fin st'.seats t ev = fv := ⟨_, rfl⟩
    rw [hfv] at HKE hfl
    rw [hfv] at HST
    obtain ⟨fb, fl⟩ := fv
    have HST' := Lib.hid (show step k tl kn st t a now = ((ev, b1, b2, b3), { st' with seats := fl }) from HST.out)
    have h6 := h5.keep ((Upd.refl (fun _ => False) w5).drewN 1) (fun _ _ => id)
    clear KE hfv hw5 HST HE HIN c0 h1 R0 R1 hup0
    go_wp2_with fail
    go_region_held3 (fun w' => w'.cell? ⟨l, 0, none⟩ = some (.pointer (some ⟨s, 0, none⟩)) ∧ w'.cell? ⟨D + 1, 0, none⟩ = some (.int .i64 ev)) ((first | exact ⟨g0, g1⟩ | exact ⟨q0, q1⟩))
      ((first | (go_at_call 46; refine HKE.out.mono ?_; rintro e w7 ⟨rfl, hs7, u7⟩; have h7 := h6.seats fl hfl hs7 u7; have q0 := h7.at_.top.cell (i := 0) rfl; have r7 := (r5.drewN 1).upd u7 (fun e => hDn1 lb (by simp [ft]) e.symm); have q1 := r7.cell (i := 0) rfl)))
    have s7 := (q5.drewN 1).upd u7 (fun e => hDn lb (by simp [ft]) e.symm)
    have x1 := r7.cell (i := 1) rfl
    have x2 := r7.cell (i := 2) rfl
    have x3 := r7.cell (i := 3) rfl
    have y0 := s7.cell (i := 0) rfl
    have y1 := s7.cell (i := 1) rfl
    have y2 := s7.cell (i := 2) rfl
    have y3 := s7.cell (i := 3) rfl
    have f0 := s7.frozen 0
    have f1 := s7.frozen 1
    have f2 := s7.frozen 2
    have f3 := s7.frozen 3
    have up7 : Upd (ft l s lb pb SP) w w7 := (u5.drewN 1).trans (u7.mono fun i _ e => by rw [e]; simp [ft])
    go_wp2_with fail
    have RE := did4 s7 (.int .i64 ev) (.bool b1) (.bool b2) (.bool b3)
    have UE := upd4 w7 D (.int .i64 ev) (.bool b1) (.bool b2) (.bool b3)
    obtain ⟨w8, hw8⟩ : ∃ w8, (((w7.setCell ⟨D, 0, none⟩ (.int .i64 ev)).setCell ⟨D, 1, none⟩ (.bool b1)).setCell ⟨D, 2, none⟩ (.bool b2)).setCell ⟨D, 3, none⟩ (.bool b3) = w8 := ⟨_, rfl⟩
    rw [hw8] at RE UE ⊢
    have g0 := RE.cell (i := 0) rfl
    have g1 := RE.cell (i := 1) rfl
    have g2 := RE.cell (i := 2) rfl
    have g3 := RE.cell (i := 3) rfl
    refine bodyPost_ret (v := didv (ev, b1, b2, b3)) (by simp [results, Try.results22, go_sem, didv, g0, g1, g2, g3]) rfl ?_
    rw [HST'.out]
    exact ⟨rfl, h7.keep UE (fun i hi e => hDn i hi e), up7.then UE (fun i hi e => by have := HD.out; omega)⟩
end Go.Proofs.Ytamchnaifmoklaa.Slots
