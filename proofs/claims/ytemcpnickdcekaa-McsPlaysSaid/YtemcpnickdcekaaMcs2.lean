/- Package mcs: Step; the lock as the laws take it. -/
import Derived.Test.YtemcpnickdcekaaMcsU
namespace Go.Proofs.Ytemcpnickdcekaa.Mcs
open Go Go.RowKit Go.Proofs.Ytemcpnickdcekaa.Heap Go.Proofs.Ytemcpnickdcekaa.Open Go.Proofs.Ytemcpnickdcekaa.Seat Go.Proofs.Ytemcpnickdcekaa.Mach Go.Proofs.Ytemcpnickdcekaa.Has Go.Proofs.Ytemcpnickdcekaa.StepU
variable {l s lb pb p : Nat} {SP : Nat → Prop} {k : Nat} {hs : List Int} {tl : Int}

theorem O.lt {w : World} {b : Nat} {st : St} (h : O l s lb pb p SP k hs tl w b st) : ∀ i, ft l s lb pb SP i → i < w.heap.size := by
  intro i hi
  rcases hi with hi | rfl | rfl | rfl | rfl
  · obtain ⟨_, hl⟩ := h.port; exact hl i hi
  · exact h.at_.top.lt
  · exact h.at_.seat.top.lt
  · exact h.at_.seat.row.lt
  · exact h.at_.plc.lt
theorem O.keep {w w' : World} {b : Nat} {st : St} {T : Nat → Prop} (h : O l s lb pb p SP k hs tl w b st) (hu : Upd T w w') (hd : ∀ i, ft l s lb pb SP i → ¬ T i) : O l s lb pb p SP k hs tl w' b st :=
  ⟨h.at_.keep hu (hd l (by simp [ft])) (hd s (by simp [ft])) (hd lb (by simp [ft])) (hd pb (by simp [ft])), h.port.keep hu (fun i hi => hd i (.inl hi)), h.few, h.sep⟩
theorem O.mono {w : World} {b b' : Nat} {st : St} (h : O l s lb pb p SP k hs tl w b st) (hb : b ≤ b') : O l s lb pb p SP k hs tl w b' st := ⟨h.at_, h.port, Nat.le_trans h.few hb, h.sep⟩
/-- The seats turn. -/
theorem O.seats {w w' : World} {b : Nat} {st : St} (h : O l s lb pb p SP k hs tl w b st) (x : List (Int × Int)) (hx : x.length = st.seats.length) (ha : Seat.At w' s lb x false true) (hu : Upd (fun i => i = lb) w w') :
    O l s lb pb p SP k hs tl w' b { st with seats := x } := ⟨h.at_.seats hu ha hx, h.port.keep hu (fun _ hi e => h.sep.2.2.1 (e ▸ hi)), h.few, h.sep⟩
/-- A place is cleared. -/
theorem O.clear {w : World} {b : Nat} {st : St} (h : O l s lb pb p SP k hs tl w b st) (t : Nat) (_ht : t < st.seats.length) :
    O l s lb pb p SP k hs tl ((w.setCell ⟨pb, t * 2, none⟩ (.int .i64 0)).setCell ⟨pb, t * 2 + 1, none⟩ (.int .u32 0)) b { st with pls := st.pls.set t (0, 0) } := by
  have U := Upd.two w pb (t * 2) (t * 2 + 1) (.int .i64 0) (.int .u32 0)
  exact ⟨h.at_.places U (by rw [← cells2_set2]; exact (h.at_.plc.set _ _).set _ _) (by simp) (h.at_.ok.set t _ _ (by omega) (by omega)), h.port.keep U (fun i hi e => h.sep.2.2.2 (e ▸ hi)), h.few, h.sep⟩
theorem lockS_len (st : St) (t : Nat) (a : Int) : (lockS k tl st t a).2.seats = st.seats ∧ (lockS k tl st t a).2.pls.length = st.pls.length := by
  unfold lockS; dsimp only; (repeat' split) <;> simp
theorem unlS_len (st : St) (t : Nat) (a : Int) : (unlS k tl st t a).2.seats = st.seats ∧ (unlS k tl st t a).2.pls.length = st.pls.length := by
  unfold unlS; dsimp only; (repeat' split) <;> simp

set_option maxHeartbeats 8000000 in
theorem stepC {w : World} {b : Nat} {st : St} (h : O l s lb pb p SP k hs tl w b st) (hb : b < 1000000) (h64 : st.seats.length ≤ 64) (t a now : Int) :
    Calls Try.prog 25 #[.pointer (some ⟨l, 0, none⟩), .int .i64 t, .int .i64 a, .int .i64 now] w fun e w' =>
      e = .returned (didv (step k tl st t a now).1) ∧ O l s lb pb p SP k hs tl w' (b + 1) (step k tl st t a now).2 ∧ Upd (ft l s lb pb SP) w w' := by
  have hsep := h.sep
  have HFEW := Lib.hid h.few
  have hup0 : Upd (ft l s lb pb SP) w ((w.alloc (.cells #[.int .i64 0, .bool false, .bool false, .bool false] 62)).alloc (.cells #[.int .i64 0, .bool false, .bool false, .bool false] 62)) := ((Upd.refl _ _).alloc _).alloc _
  have h1 := h.keep (((Upd.refl (fun _ => False) w).alloc (.cells #[.int .i64 0, .bool false, .bool false, .bool false] 62)).alloc (.cells #[.int .i64 0, .bool false, .bool false, .bool false] 62)) (fun _ _ => id)
  have R0 : Row ((w.alloc (.cells #[.int .i64 0, .bool false, .bool false, .bool false] 62)).alloc (.cells #[.int .i64 0, .bool false, .bool false, .bool false] 62)) w.heap.size [.int .i64 0, .bool false, .bool false, .bool false] := (Row.new' rfl).alloc _
  have R1 : Row ((w.alloc (.cells #[.int .i64 0, .bool false, .bool false, .bool false] 62)).alloc (.cells #[.int .i64 0, .bool false, .bool false, .bool false] 62)) (w.heap.size + 1) [.int .i64 0, .bool false, .bool false, .bool false] := Row.new' (by simp)
  obtain ⟨D, hD⟩ : ∃ D, w.heap.size = D := ⟨_, rfl⟩
  have hlD : ∀ i, ft l s lb pb SP i → i < D := by rw [← hD]; exact h.lt
  have HD := Lib.hid hD
  obtain ⟨W, hW⟩ : ∃ W, (w.alloc (.cells #[.int .i64 0, .bool false, .bool false, .bool false] 62)).alloc (.cells #[.int .i64 0, .bool false, .bool false, .bool false] 62) = W := ⟨_, rfl⟩
  rw [hD] at R0 R1
  rw [hW] at hup0 h1 R0 R1
  have HW := Lib.hid hW
  clear hD hW h
  have hDn : ∀ i, ft l s lb pb SP i → i ≠ D := fun i hi e => by have := hlD i hi; omega
  have hDn1 : ∀ i, ft l s lb pb SP i → i ≠ D + 1 := fun i hi e => by have := hlD i hi; omega
  obtain ⟨z, hz⟩ : ∃ z, state st.seats t = z := ⟨_, rfl⟩
  have KS := state_all _ _ _ _ _ _ h1.at_.seat t
  rw [hz] at KS
  have HKS := Lib.hid KS
  have HE := Lib.hid (show midS k tl st t a = if z = 1 then lockS k tl st t.toNat a else if z = 3 then (((unlS k tl st t.toNat a).1, false, false, false), (unlS k tl st t.toNat a).2)
    else if z = 4 then ((if rd k st.ws a (nextA tl (t + 1)) = 0 then 4 else 5, false, false, false), { st with ts := Cache.after k st.ws.length st.ts a (nextA tl (t + 1)) false })
    else ((0, false, false, false), st) by unfold midS; rw [hz])
  have HIN := Lib.hid (show z ≠ 0 → inB t st.seats.length = true from fun e => state_in (by rw [hz]; exact e))
  have HST := Lib.hid (show step k tl st t a now = ((midS k tl st t a).1, { (midS k tl st t a).2 with seats := (fin (midS k tl st t a).2.seats t (midS k tl st t a).1.1).2, pls := if (fin (midS k tl st t a).2.seats t (midS k tl st t a).1.1).1 = true then (midS k tl st t a).2.pls.set t.toNat (0, 0) else (midS k tl st t a).2.pls }) from rfl)
  obtain ⟨⟨d, st'⟩, hm⟩ : ∃ r, midS k tl st t a = r := ⟨_, rfl⟩
  rw [hm] at HE HST
  have c0 := h1.at_.top.cell (i := 0) rfl
  clear hz KS hm
  go_enter Try.func25, Try.ntmps25
  go_upto_region 2 with (fail)
  rw [HW.out, HD.out]
  go_upto_region 3 with (fail)
  obtain ⟨num, hnum⟩ : ∃ num, wrap64 (t + 1) % 4294967296 = num := ⟨_, rfl⟩
  rw [hnum]
  have HNUM := Lib.hid hnum
  clear hnum
  go_wp2_with fail
  refine HKS.out.mono ?_
  rintro e w1 ⟨rfl, rfl⟩
  clear HKS
  go_upto_block 0 with (fail)
  go_cut [10] from 20 to 58 (fun _ wx => O l s lb pb p SP k hs tl wx (b + 1) st' ∧ Row wx (D + 1) (dcells d) ∧ Row wx D [.int .i64 0, .bool false, .bool false, .bool false] ∧ Upd (ft l s lb pb SP) w wx ∧ st'.seats.length = st.seats.length)
  case first =>
    have c1 := h1.at_.top.cell (i := 1) rfl
    have c2 := h1.at_.top.cell (i := 2) rfl
    have c3 := h1.at_.top.cell (i := 3) rfl
    have tl0 := h1.at_.tl0
    have r0 := R1.cell (i := 0) rfl
    have r1 := R1.cell (i := 1) rfl
    have r2 := R1.cell (i := 2) rfl
    have r3 := R1.cell (i := 3) rfl
    have f0 := R1.frozen 0
    have f1 := R1.frozen 1
    have f2 := R1.frozen 2
    have f3 := R1.frozen 3
    by_cases z1 : z = 1
    · have hin := HIN.out (by omega)
      obtain ⟨q, rfl, hq⟩ := inB_nat hin
      have hnq : num = (q : Int) + 1 := by rw [← HNUM.out, show wrap64 ((q : Int) + 1) = (q : Int) + 1 by unfold wrap64; omega]; omega
      have he := HE.out
      rw [if_pos z1, Int.toNat_natCast] at he
      have KL := lockC h1 hb q hq (by omega) a
      rw [← he, ← hnq] at KL
      have HKL := Lib.hid KL
      have hsl : st'.seats.length = st.seats.length := by
        have : st' = (lockS k tl st q a).2 := congrArg Prod.snd he
        rw [this, (lockS_len st q a).1]
      have HSL := Lib.hid hsl
      subst z1
      have hq1 : (0 : Int) ≤ (q : Int) := by omega
      have hq2 : (q : Int) < (st.seats.length : Int) := by omega
      obtain ⟨ev, b1, b2, b3⟩ := d
      clear KL he hin hsl HE HIN hnq
      go_wp2_with fail
      refine HKL.out.mono ?_
      rintro e w3 ⟨rfl, h3, u3⟩
      have R3 := R1.upd u3 (fun e => hDn1 _ e rfl)
      have Q3 := R0.upd u3 (fun e => hDn _ e rfl)
      have r0 := R3.cell (i := 0) rfl
      have r1 := R3.cell (i := 1) rfl
      have r2 := R3.cell (i := 2) rfl
      have r3 := R3.cell (i := 3) rfl
      have f0 := R3.frozen 0
      have f1 := R3.frozen 1
      have f2 := R3.frozen 2
      have f3 := R3.frozen 3
      have up3 := hup0.trans u3
      unfold didv
      clear h1 R1 R0 hup0 u3 HKL
      go_wp2_with fail
      have RE := did4 R3 (.int .i64 ev) (.bool b1) (.bool b2) (.bool b3)
      have UE := upd4 w3 (D + 1) (.int .i64 ev) (.bool b1) (.bool b2) (.bool b3)
      go_meet
      case rel => exact ⟨h3.keep UE (fun i hi e => hDn1 i hi e), RE, Q3.upd UE (by omega), up3.then UE (fun i hi e => by have := HD.out; omega), HSL.out⟩
    by_cases z3 : z = 3
    · have hin := HIN.out (by omega)
      obtain ⟨q, rfl, hq⟩ := inB_nat hin
      have hnq : num = (q : Int) + 1 := by rw [← HNUM.out, show wrap64 ((q : Int) + 1) = (q : Int) + 1 by unfold wrap64; omega]; omega
      have he := HE.out
      rw [if_neg z1, if_pos z3, Int.toNat_natCast] at he
      have KL := unlockC h1 hb q hq (by omega) a
      obtain ⟨⟨ev, sx⟩, hr⟩ : ∃ r, unlS k tl st q a = r := ⟨_, rfl⟩
      rw [hr, ← hnq] at KL
      have hsx : sx.seats.length = st.seats.length := by
        have := (unlS_len (k := k) (tl := tl) st q a).1
        rw [hr] at this
        exact congrArg List.length this
      have HSL := Lib.hid hsx
      rw [hr] at he
      have hd' : d = (ev, false, false, false) := congrArg Prod.fst he
      have hs' : st' = sx := congrArg Prod.snd he
      have HKL := Lib.hid KL
      have hq1 : (0 : Int) ≤ (q : Int) := by omega
      have hq2 : (q : Int) < (st.seats.length : Int) := by omega
      subst z3 hd' hs'
      clear KL he hin hsx HE HIN hnq hr
      go_wp2_with fail
      refine HKL.out.mono ?_
      rintro e w3 ⟨rfl, h3, u3⟩
      have R3 := R1.upd u3 (fun e => hDn1 _ e rfl)
      have Q3 := R0.upd u3 (fun e => hDn _ e rfl)
      have r0 := R3.cell (i := 0) rfl
      have f0 := R3.frozen 0
      have up3 := hup0.trans u3
      clear h1 R1 R0 hup0 u3 HKL
      go_wp2_with fail
      have RE := R3.set 0 (.int .i64 ev)
      have UE := Upd.one w3 (D + 1) 0 (.int .i64 ev)
      go_meet
      case rel => exact ⟨h3.keep UE (fun i hi e => hDn1 i hi e), by simpa [dcells] using RE, Q3.upd UE (by omega), up3.then UE (fun i hi e => by have := HD.out; omega), HSL.out⟩
    by_cases z4 : z = 4
    · have hin := HIN.out (by omega)
      obtain ⟨q, rfl, hq⟩ := inB_nat hin
      have hnq : num = (q : Int) + 1 := by rw [← HNUM.out, show wrap64 ((q : Int) + 1) = (q : Int) + 1 by unfold wrap64; omega]; omega
      have he := HE.out
      rw [if_neg z1, if_neg z3, if_pos z4, ← hnq] at he
      have R1' := R1.set 0 (.int .i64 5)
      have UF := Upd.one W (D + 1) 0 (.int .i64 5)
      have h2 := (h1.keep UF (fun i hi e => hDn1 i hi e)).keep ((Upd.refl (fun _ => False) _).drewN 1) (fun _ _ => id)
      have e1 := cell_upd UF c1 (hDn1 l (by simp [ft]))
      have e2 := cell_upd UF c2 (hDn1 l (by simp [ft]))
      have hn : 0 ≤ num ∧ num < 4294967296 := by omega
      obtain ⟨nv, hnv⟩ : ∃ nv, nextA tl num = nv := ⟨_, rfl⟩
      have KN := nextC (l := l) ((W.setCell ⟨D + 1, 0, none⟩ (.int .i64 5)).drewN 1) e2 tl0 num hn
      rw [show tl + 2 * num - 1 = nv from hnv] at KN
      have HKF := Lib.hid KN
      have KA := Port.loadP _ p SP k st.ws hs st.ts h2.port (Nat.lt_of_le_of_lt h1.few hb) a nv
      obtain ⟨g, hg⟩ : ∃ g, rd k st.ws a nv = g := ⟨_, rfl⟩
      rw [hnv, hg] at he
      unfold rd at hg
      rw [hg] at KA
      have HKA := Lib.hid KA
      have hs' : st' = { st with ts := Cache.after k st.ws.length st.ts a nv false } := congrArg Prod.snd he
      have hd' : d = (if g = 0 then 4 else 5, false, false, false) := congrArg Prod.fst he
      have hq1 : (0 : Int) ≤ (q : Int) := by omega
      have hq2 : (q : Int) < (st.seats.length : Int) := by omega
      have HS' := Lib.hid hs'
      have HD' := Lib.hid hd'
      have Q1' := R0.upd UF (by omega)
      have up1 : Upd (ft l s lb pb SP) w (W.setCell ⟨D + 1, 0, none⟩ (.int .i64 5)) := hup0.then UF (fun i hi e => by have := HD.out; omega)
      subst z4
      clear KA KN he hin hs' hd' HE HIN hg hnq hnv
      go_wp2_with fail
      go_region_held3 (fun w' => w'.cell? ⟨l, 1, none⟩ = some (.pointer (some ⟨p, 0, none⟩))) ((first | exact e1 | exact q1))
        ((first | (go_at_call 42; refine HKF.out.mono ?_; rintro e w4 ⟨rfl, rfl⟩) | (go_at_call 41; refine HKA.out.mono ?_; rintro e w5 ⟨rfl, hp5, u5⟩; have q1 := cell_upd u5 e1 hsep.1)))
      have R3 := (R1'.drewN 1).upd u5 (fun e => hDn1 _ (.inl e) rfl)
      have Q3 := (Q1'.drewN 1).upd u5 (fun e => hDn _ (.inl e) rfl)
      have A5 := h2.at_.keep u5 hsep.1 hsep.2.1 hsep.2.2.1 hsep.2.2.2
      have up5 : Upd (ft l s lb pb SP) w w5 := (up1.drewN 1).trans (u5.mono fun i _ h => .inl h)
      have y0 := R3.cell (i := 0) rfl
      have y1 := R3.frozen 0
      clear q1 c0 c1 c2 c3 e1 e2 h1 R1 R0 hup0 h2 R1' Q1' HKA HKF r0 r1 r2 r3 f0 f1 f2 f3 u5
      by_cases hgn : g = 0
      · have hd := HD'.out
        rw [if_pos hgn] at hd
        subst hd hgn
        go_wp2_with fail
        have RE := R3.set 0 (.int .i64 4)
        have UE := Upd.one w5 (D + 1) 0 (.int .i64 4)
        go_meet
        case rel =>
          rw [HS'.out]
          refine ⟨⟨A5.keepD (SP := SP) UE (fun i hi => hDn1 i hi), hp5.keep UE (fun i hi e => hDn1 i (.inl hi) e), ?_, hsep⟩, by simpa [dcells] using RE, Q3.upd UE (by omega), up5.then UE (fun i hi e => by have := HD.out; omega), rfl⟩
          exact Nat.le_trans (Cache.after_len _ _ _ _ _ _) (by have := HFEW.out; omega)
      · have hd := HD'.out
        rw [if_neg hgn] at hd
        have hgn' : (g == 0) = false := by simpa using hgn
        subst hd
        clear hgn
        go_wp2_with fail
        go_meet
        case rel =>
          rw [HS'.out]
          refine ⟨⟨A5, hp5, ?_, hsep⟩, by simpa [dcells] using R3, Q3, up5, rfl⟩
          exact Nat.le_trans (Cache.after_len _ _ _ _ _ _) (by have := HFEW.out; omega)
    · have he := HE.out
      rw [if_neg z1, if_neg z3, if_neg z4] at he
      have hd' : d = (0, false, false, false) := congrArg Prod.fst he
      have hs' : st' = st := congrArg Prod.snd he
      have e1 : (z == 1) = false := by simpa using z1
      have e3 : (z == 3) = false := by simpa using z3
      have e4 : (z == 4) = false := by simpa using z4
      subst hd' hs'
      clear he z1 z3 z4 HE HIN
      go_wp2_with fail
      go_meet
      case rel => exact ⟨h1.mono (by omega), R1, R0, hup0, trivial⟩
  case rest =>
    obtain ⟨h5, r5, q5, u5, l5⟩ := hcut
    obtain ⟨w5, hw5⟩ : ∃ w5, wc = w5 := ⟨_, rfl⟩
    rw [hw5] at h5 r5 q5 u5 ⊢
    obtain ⟨ev, b1, b2, b3⟩ := d
    unfold dcells at r5
    have g0 := h5.at_.top.cell (i := 0) rfl
    have g1 := r5.cell (i := 0) rfl
    have KE := end_all _ _ _ _ _ _ (h5.at_.seat.drewN 1) t ev
    have HKE := Lib.hid KE
    have hfl := fin_len st'.seats t ev
    have hfi : (fin st'.seats t ev).1 = true → inB t st'.seats.length = true := fun e => by
      refine state_in (fun z => ?_)
      unfold fin at e
      rw [z, if_pos (by unfold next; (repeat' split) <;> omega)] at e
      cases e
    obtain ⟨fv, hfv⟩ : ∃ fv, fin st'.seats t ev = fv := ⟨_, rfl⟩
    rw [hfv] at HKE hfl hfi
    rw [hfv] at HST
    obtain ⟨fb, fl⟩ := fv
    have HST' := Lib.hid (show step k tl st t a now = ((ev, b1, b2, b3), { st' with seats := fl, pls := if fb = true then st'.pls.set t.toNat (0, 0) else st'.pls }) from HST.out)
    have HFI := Lib.hid hfi
    have h6 := h5.keep ((Upd.refl (fun _ => False) w5).drewN 1) (fun _ _ => id)
    clear KE hfv hw5 HST HE HIN c0 h1 R0 R1 hup0 hfi
    dsimp only at hfl
    go_wp2_with fail
    go_region_held3 (fun w' => w'.cell? ⟨l, 0, none⟩ = some (.pointer (some ⟨s, 0, none⟩)) ∧ w'.cell? ⟨D + 1, 0, none⟩ = some (.int .i64 ev)) ((first | exact ⟨g0, g1⟩ | exact ⟨q0, q1⟩))
      ((first | (go_at_call 43; refine HKE.out.mono ?_; rintro e w7 ⟨rfl, hs7, u7⟩; have h7 := h6.seats fl hfl hs7 u7; have q0 := h7.at_.top.cell (i := 0) rfl; have r7 := (r5.drewN 1).upd u7 (fun e => hDn1 lb (by simp [ft]) e.symm); have q1 := r7.cell (i := 0) rfl)))
    have s7 := (q5.drewN 1).upd u7 (fun e => hDn lb (by simp [ft]) e.symm)
    have up7 : Upd (ft l s lb pb SP) w w7 := (u5.drewN 1).trans (u7.mono fun i _ e => by rw [e]; simp [ft])
    clear q0 q1 g0 g1 h5 r5 q5 u5 u7 h6 HKE
    cases fb with
    | false =>
      have x0 := r7.cell (i := 0) rfl
      have x1 := r7.cell (i := 1) rfl
      have x2 := r7.cell (i := 2) rfl
      have x3 := r7.cell (i := 3) rfl
      have y0 := s7.cell (i := 0) rfl
      have y1 := s7.cell (i := 1) rfl
      have y2 := s7.cell (i := 2) rfl
      have y3 := s7.cell (i := 3) rfl
      have f0 := s7.frozen 0
      have f1 := s7.frozen 1
      have f2 := s7.frozen 2
      have f3 := s7.frozen 3
      go_wp2_with fail
      have RE := did4 s7 (.int .i64 ev) (.bool b1) (.bool b2) (.bool b3)
      have UE := upd4 w7 D (.int .i64 ev) (.bool b1) (.bool b2) (.bool b3)
      obtain ⟨w8, hw8⟩ : ∃ w8, (((w7.setCell ⟨D, 0, none⟩ (.int .i64 ev)).setCell ⟨D, 1, none⟩ (.bool b1)).setCell ⟨D, 2, none⟩ (.bool b2)).setCell ⟨D, 3, none⟩ (.bool b3) = w8 := ⟨_, rfl⟩
      rw [hw8] at RE UE ⊢
      have g0 := RE.cell (i := 0) rfl
      have g1 := RE.cell (i := 1) rfl
      have g2 := RE.cell (i := 2) rfl
      have g3 := RE.cell (i := 3) rfl
      refine bodyPost_ret (v := didv (ev, b1, b2, b3)) (by simp [results, Try.results25, go_sem, didv, g0, g1, g2, g3]) rfl ?_
      rw [HST'.out]
      exact ⟨rfl, h7.keep UE (fun i hi e => hDn i hi e), up7.then UE (fun i hi e => by have := HD.out; omega)⟩
    | true =>
      obtain ⟨q, rfl, hq⟩ := inB_nat (HFI.out rfl)
      have hqf : q < fl.length := by rw [hfl]; exact hq
      have hq1 : (0 : Int) ≤ (q : Int) := by omega
      have hq2 : (q : Int) < (fl.length : Int) := by omega
      have i3 := h7.at_.top.cell (i := 3) rfl
      have i0 := h7.at_.c0 hqf
      have i1 := h7.at_.c1 hqf
      have j0 := h7.at_.plc.frozen (q * 2)
      have j1 := h7.at_.plc.frozen (q * 2 + 1)
      have h8 := h7.clear q hqf
      have U8 := Upd.two w7 pb (q * 2) (q * 2 + 1) (.int .i64 0) (.int .u32 0)
      have hDb : D ≠ pb := fun e => hDn pb (by simp [ft]) e.symm
      have hDb1 : D + 1 ≠ pb := fun e => hDn1 pb (by simp [ft]) e.symm
      have r8 := r7.upd U8 hDb1
      have s8 := s7.upd U8 hDb
      have up8 := up7.trans (U8.mono fun i _ e => (by rw [e]; simp [ft] : ft l s lb pb SP i))
      clear h7 r7 s7 up7 U8
      go_upto_region 14 with (fail)
      obtain ⟨w8, hw8⟩ : ∃ w8, (w7.setCell ⟨pb, q * 2, none⟩ (.int .i64 0)).setCell ⟨pb, q * 2 + 1, none⟩ (.int .u32 0) = w8 := ⟨_, rfl⟩
      rw [hw8] at h8 r8 s8 up8 ⊢
      clear hw8 i3 i0 i1 j0 j1
      have x0 := r8.cell (i := 0) rfl
      have x1 := r8.cell (i := 1) rfl
      have x2 := r8.cell (i := 2) rfl
      have x3 := r8.cell (i := 3) rfl
      have y0 := s8.cell (i := 0) rfl
      have y1 := s8.cell (i := 1) rfl
      have y2 := s8.cell (i := 2) rfl
      have y3 := s8.cell (i := 3) rfl
      have f0 := s8.frozen 0
      have f1 := s8.frozen 1
      have f2 := s8.frozen 2
      have f3 := s8.frozen 3
      go_wp2_with fail
      have RE := did4 s8 (.int .i64 ev) (.bool b1) (.bool b2) (.bool b3)
      have UE := upd4 w8 D (.int .i64 ev) (.bool b1) (.bool b2) (.bool b3)
      obtain ⟨w9, hw9⟩ : ∃ w9, (((w8.setCell ⟨D, 0, none⟩ (.int .i64 ev)).setCell ⟨D, 1, none⟩ (.bool b1)).setCell ⟨D, 2, none⟩ (.bool b2)).setCell ⟨D, 3, none⟩ (.bool b3) = w9 := ⟨_, rfl⟩
      rw [hw9] at RE UE ⊢
      have g0 := RE.cell (i := 0) rfl
      have g1 := RE.cell (i := 1) rfl
      have g2 := RE.cell (i := 2) rfl
      have g3 := RE.cell (i := 3) rfl
      refine bodyPost_ret (v := didv (ev, b1, b2, b3)) (by simp [results, Try.results25, go_sem, didv, g0, g1, g2, g3]) rfl ?_
      rw [HST'.out]
      simp only [if_pos, Int.toNat_natCast]
      exact ⟨by first | rfl | trivial, h8.keep UE (fun i hi e => hDn i hi e), up8.then UE (fun i hi e => by have := HD.out; omega)⟩
end Go.Proofs.Ytemcpnickdcekaa.Mcs
