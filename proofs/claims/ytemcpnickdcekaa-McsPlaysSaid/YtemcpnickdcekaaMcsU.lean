/- Package mcs: unlock. -/
import Derived.Test.YtemcpnickdcekaaMcsL
namespace Go.Proofs.Ytemcpnickdcekaa.Mcs
open Go Go.RowKit Go.Proofs.Ytemcpnickdcekaa.Heap Go.Proofs.Ytemcpnickdcekaa.Open Go.Proofs.Ytemcpnickdcekaa.Seat Go.Proofs.Ytemcpnickdcekaa.Mach Go.Proofs.Ytemcpnickdcekaa.Has Go.Proofs.Ytemcpnickdcekaa.StepU
variable {l s lb pb p : Nat} {SP : Nat → Prop} {k : Nat} {hs : List Int} {tl : Int}
set_option maxHeartbeats 4000000 in
theorem unl0 {w : World} {b : Nat} {st : St} (h : O l s lb pb p SP k hs tl w b st) (hb : b < 1000000) (t : Nat) (ht : t < st.seats.length) (h64 : t < 1000) (a : Int) (h0 : (st.pls.getD t (0, 0)).1 = 0) :
    Calls Try.prog 40 #[.pointer (some ⟨l, 0, none⟩), .pointer (some ⟨pb, t * 2, none⟩), .int .u32 ((t : Int) + 1), .int .i64 a] w fun e w' =>
      e = .returned (.int .i64 (unlS k tl st t a).1) ∧ O l s lb pb p SP k hs tl w' (b + 1) (unlS k tl st t a).2 ∧ Upd (ft l s lb pb SP) w w' := by
  obtain ⟨ha, hp, hf, hsep⟩ := h
  have n0 := ha.c0 ht
  have m0 := ha.plc.frozen (t * 2)
  have tl0 := ha.tl0
  obtain ⟨x2, hx2⟩ : ∃ y, (st.pls.getD t (0, 0)).2 = y := ⟨_, rfl⟩
  have hx2r := (ha.ok t (by rw [ha.l1]; exact ht)).2
  have n1 := ha.c1 ht
  rw [hx2] at hx2r n1
  have HPW := Lib.hid hp.wd
  have hpl : t < st.pls.length := by rw [ha.l1]; exact ht
  have HPL := Lib.hid hpl
  have HFEW := Lib.hid hf
  have HX0 := Lib.hid h0
  rw [h0] at n0
  have c1 := ha.top.cell (i := 1) rfl
  have c2 := ha.top.cell (i := 2) rfl
  have HA := Lib.hid (ha.keep ((Upd.refl (fun _ => False) w).drewN 1) id id id id)
  obtain ⟨g, hg⟩ : ∃ g, rd k st.ws a (nextA tl (t + 1)) = g := ⟨_, rfl⟩
  have hgw := rd_wd HPW.out k a (nextA tl (t + 1))
  rw [hg] at hgw
  have E := Lib.hid (show unlS k tl st t a = (0, { st with pls := st.pls.set t (if g = 0 then 1 else 3, g), ts := Cache.after k st.ws.length st.ts a (nextA tl (t + 1)) false }) by unfold unlS; dsimp only; rw [if_pos (by omega), hg, if_pos h0])
  obtain ⟨num, hnum⟩ : ∃ num : Int, (t : Int) + 1 = num := ⟨_, rfl⟩
  rw [hnum] at E hg ⊢
  have hn : 0 ≤ num ∧ num < 4294967296 := by omega
  obtain ⟨nv, hnv⟩ : ∃ nv, nextA tl num = nv := ⟨_, rfl⟩
  have hnvr : -1 ≤ nv ∧ nv ≤ 10000000000 := by rw [← hnv]; unfold nextA; omega
  have hnw : IntKind.i64.wrap (nv + 1) = nv + 1 := IntWalk.i64_in _ (by omega)
  have KN := nextC (l := l) (w.drewN 1) c2 tl0 num hn
  rw [show tl + 2 * num - 1 = nv from hnv] at KN
  have HKF := Lib.hid KN
  rw [hnv] at E
  rw [hnv] at hg
  have KA := Port.loadP _ p SP k st.ws hs st.ts (hp.drewN 1) (by omega) a nv
  unfold rd at hg
  rw [hg] at KA
  have HKA := Lib.hid KA
  clear hnvr KA KN hf h0 hg ha hp
  go_enter Try.func40, Try.ntmps40
  go_wp2_with fail
  go_region_held3 (fun w' => w'.cell? ⟨l, 1, none⟩ = some (.pointer (some ⟨p, 0, none⟩))) ((first | exact c1 | exact q1 | exact r1))
    ((first | (go_at_call 42; refine HKF.out.mono ?_; rintro e w4 ⟨rfl, rfl⟩) | (go_at_call 41; refine HKA.out.mono ?_; rintro e w5 ⟨rfl, hp5, u5⟩; have q1 := cell_upd u5 c1 hsep.1; have A5 := HA.out.keep u5 hsep.1 hsep.2.1 hsep.2.2.1 hsep.2.2.2; have q4 := A5.c1 ht; have m5 := A5.plc.frozen (t * 2 + 1); have A6 := A5.setOther t ht g hgw; have r1 := A6.top.cell (i := 1) rfl)))
  have U6 := Upd.one w5 pb (t * 2 + 1) (.int .u32 g)
  have p6 := hp5.keep U6 (fun i hi e => hsep.2.2.2 (e ▸ hi))
  have up6 : Upd (ft l s lb pb SP) w (w5.setCell ⟨pb, t * 2 + 1, none⟩ (.int .u32 g)) := (((Upd.refl _ w).drewN 1).trans (u5.mono fun i _ h => .inl h)).trans (U6.mono fun i _ e => (by rw [e]; simp [ft] : ft l s lb pb SP i))
  rw [HX0.out] at A6
  obtain ⟨w6, hw6⟩ : ∃ w6, w5.setCell ⟨pb, t * 2 + 1, none⟩ (.int .u32 g) = w6 := ⟨_, rfl⟩
  rw [hw6] at A6 p6 up6 ⊢
  have z1 := A6.c1 ht
  have z0 := A6.c0 ht
  rw [ss _ _ HPL.out] at z1 z0
  have m6 := A6.plc.frozen (t * 2)
  clear q1 q4 m5 r1 c1 c2 HKA HKF U6 hw6 A5 u5 hp5 n0 n1 m0
  by_cases hgn : g = 0
  · have E := E.out
    rw [if_pos hgn] at E
    have E := Lib.hid E
    subst hgn
    have A7 := A6.setStep t ht 1 (by omega)
    rw [ss _ _ HPL.out, List.set_set] at A7
    have U7 := Upd.one w6 pb (t * 2) (.int .i64 1)
    have p7 := p6.keep U7 (fun i hi e => hsep.2.2.2 (e ▸ hi))
    have up7 := up6.trans (U7.mono fun i _ e => (by rw [e]; simp [ft] : ft l s lb pb SP i))
    go_wp2_with fail
    go_ret
    (try rw [E.out])
    refine ⟨rfl, ⟨A7, p7, ?_, hsep⟩, up7⟩
    exact Nat.le_trans (Cache.after_len _ _ _ _ _ _) (by have := HFEW.out; omega)
  · have hgn' : (g == 0) = false := by simpa using hgn
    rw [if_neg hgn] at E
    have A7 := A6.setStep t ht 3 (by omega)
    rw [ss _ _ HPL.out, List.set_set] at A7
    have U7 := Upd.one w6 pb (t * 2) (.int .i64 3)
    have p7 := p6.keep U7 (fun i hi e => hsep.2.2.2 (e ▸ hi))
    have up7 := up6.trans (U7.mono fun i _ e => (by rw [e]; simp [ft] : ft l s lb pb SP i))
    clear hgn
    go_wp2_with fail
    go_ret
    (try rw [E.out])
    refine ⟨rfl, ⟨A7, p7, ?_, hsep⟩, up7⟩
    exact Nat.le_trans (Cache.after_len _ _ _ _ _ _) (by have := HFEW.out; omega)
set_option maxHeartbeats 4000000 in
theorem unl2 {w : World} {b : Nat} {st : St} (h : O l s lb pb p SP k hs tl w b st) (hb : b < 1000000) (t : Nat) (ht : t < st.seats.length) (h64 : t < 1000) (a : Int) (h0 : (st.pls.getD t (0, 0)).1 = 2) :
    Calls Try.prog 40 #[.pointer (some ⟨l, 0, none⟩), .pointer (some ⟨pb, t * 2, none⟩), .int .u32 ((t : Int) + 1), .int .i64 a] w fun e w' =>
      e = .returned (.int .i64 (unlS k tl st t a).1) ∧ O l s lb pb p SP k hs tl w' (b + 1) (unlS k tl st t a).2 ∧ Upd (ft l s lb pb SP) w w' := by
  obtain ⟨ha, hp, hf, hsep⟩ := h
  have n0 := ha.c0 ht
  have m0 := ha.plc.frozen (t * 2)
  have tl0 := ha.tl0
  obtain ⟨x2, hx2⟩ : ∃ y, (st.pls.getD t (0, 0)).2 = y := ⟨_, rfl⟩
  have hx2r := (ha.ok t (by rw [ha.l1]; exact ht)).2
  have n1 := ha.c1 ht
  rw [hx2] at hx2r n1
  have HPW := Lib.hid hp.wd
  have hpl : t < st.pls.length := by rw [ha.l1]; exact ht
  have HPL := Lib.hid hpl
  have HFEW := Lib.hid hf
  have HX0 := Lib.hid h0
  rw [h0] at n0
  have c1 := ha.top.cell (i := 1) rfl
  have c2 := ha.top.cell (i := 2) rfl
  have HA := Lib.hid (ha.keep ((Upd.refl (fun _ => False) w).drewN 1) id id id id)
  obtain ⟨g, hg⟩ : ∃ g, rd k st.ws a (nextA tl (t + 1)) = g := ⟨_, rfl⟩
  have hgw := rd_wd HPW.out k a (nextA tl (t + 1))
  rw [hg] at hgw
  have E := Lib.hid (show unlS k tl st t a = (0, { st with pls := st.pls.set t (if g = 0 then 2 else 3, g), ts := Cache.after k st.ws.length st.ts a (nextA tl (t + 1)) false }) by unfold unlS; dsimp only; rw [if_pos (by omega), hg, if_neg (show ¬ (st.pls.getD t (0, 0)).1 = 0 by omega)])
  obtain ⟨num, hnum⟩ : ∃ num : Int, (t : Int) + 1 = num := ⟨_, rfl⟩
  rw [hnum] at E hg ⊢
  have hn : 0 ≤ num ∧ num < 4294967296 := by omega
  obtain ⟨nv, hnv⟩ : ∃ nv, nextA tl num = nv := ⟨_, rfl⟩
  have hnvr : -1 ≤ nv ∧ nv ≤ 10000000000 := by rw [← hnv]; unfold nextA; omega
  have hnw : IntKind.i64.wrap (nv + 1) = nv + 1 := IntWalk.i64_in _ (by omega)
  have KN := nextC (l := l) (w.drewN 1) c2 tl0 num hn
  rw [show tl + 2 * num - 1 = nv from hnv] at KN
  have HKF := Lib.hid KN
  rw [hnv] at E
  rw [hnv] at hg
  have KA := Port.loadP _ p SP k st.ws hs st.ts (hp.drewN 1) (by omega) a nv
  unfold rd at hg
  rw [hg] at KA
  have HKA := Lib.hid KA
  clear hnvr KA KN hf h0 hg ha hp
  go_enter Try.func40, Try.ntmps40
  go_wp2_with fail
  go_region_held3 (fun w' => w'.cell? ⟨l, 1, none⟩ = some (.pointer (some ⟨p, 0, none⟩))) ((first | exact c1 | exact q1 | exact r1))
    ((first | (go_at_call 42; refine HKF.out.mono ?_; rintro e w4 ⟨rfl, rfl⟩) | (go_at_call 41; refine HKA.out.mono ?_; rintro e w5 ⟨rfl, hp5, u5⟩; have q1 := cell_upd u5 c1 hsep.1; have A5 := HA.out.keep u5 hsep.1 hsep.2.1 hsep.2.2.1 hsep.2.2.2; have q4 := A5.c1 ht; have m5 := A5.plc.frozen (t * 2 + 1); have A6 := A5.setOther t ht g hgw; have r1 := A6.top.cell (i := 1) rfl)))
  have U6 := Upd.one w5 pb (t * 2 + 1) (.int .u32 g)
  have p6 := hp5.keep U6 (fun i hi e => hsep.2.2.2 (e ▸ hi))
  have up6 : Upd (ft l s lb pb SP) w (w5.setCell ⟨pb, t * 2 + 1, none⟩ (.int .u32 g)) := (((Upd.refl _ w).drewN 1).trans (u5.mono fun i _ h => .inl h)).trans (U6.mono fun i _ e => (by rw [e]; simp [ft] : ft l s lb pb SP i))
  rw [HX0.out] at A6
  obtain ⟨w6, hw6⟩ : ∃ w6, w5.setCell ⟨pb, t * 2 + 1, none⟩ (.int .u32 g) = w6 := ⟨_, rfl⟩
  rw [hw6] at A6 p6 up6 ⊢
  have z1 := A6.c1 ht
  have z0 := A6.c0 ht
  rw [ss _ _ HPL.out] at z1 z0
  have m6 := A6.plc.frozen (t * 2)
  clear q1 q4 m5 r1 c1 c2 HKA HKF U6 hw6 A5 u5 hp5 n0 n1 m0
  by_cases hgn : g = 0
  · have E := E.out
    rw [if_pos hgn] at E
    have E := Lib.hid E
    subst hgn
    go_wp2_with fail
    go_ret
    (try rw [E.out])
    refine ⟨rfl, ⟨A6, p6, ?_, hsep⟩, up6⟩
    exact Nat.le_trans (Cache.after_len _ _ _ _ _ _) (by have := HFEW.out; omega)
  · have hgn' : (g == 0) = false := by simpa using hgn
    rw [if_neg hgn] at E
    have A7 := A6.setStep t ht 3 (by omega)
    rw [ss _ _ HPL.out, List.set_set] at A7
    have U7 := Upd.one w6 pb (t * 2) (.int .i64 3)
    have p7 := p6.keep U7 (fun i hi e => hsep.2.2.2 (e ▸ hi))
    have up7 := up6.trans (U7.mono fun i _ e => (by rw [e]; simp [ft] : ft l s lb pb SP i))
    clear hgn
    go_wp2_with fail
    go_ret
    (try rw [E.out])
    refine ⟨rfl, ⟨A7, p7, ?_, hsep⟩, up7⟩
    exact Nat.le_trans (Cache.after_len _ _ _ _ _ _) (by have := HFEW.out; omega)
set_option maxHeartbeats 4000000 in
theorem unl1 {w : World} {b : Nat} {st : St} (h : O l s lb pb p SP k hs tl w b st) (hb : b < 1000000) (t : Nat) (ht : t < st.seats.length) (h64 : t < 1000) (a : Int) (h0 : (st.pls.getD t (0, 0)).1 = 1) :
    Calls Try.prog 40 #[.pointer (some ⟨l, 0, none⟩), .pointer (some ⟨pb, t * 2, none⟩), .int .u32 ((t : Int) + 1), .int .i64 a] w fun e w' =>
      e = .returned (.int .i64 (unlS k tl st t a).1) ∧ O l s lb pb p SP k hs tl w' (b + 1) (unlS k tl st t a).2 ∧ Upd (ft l s lb pb SP) w w' := by
  obtain ⟨ha, hp, hf, hsep⟩ := h
  have n0 := ha.c0 ht
  have m0 := ha.plc.frozen (t * 2)
  have tl0 := ha.tl0
  obtain ⟨x2, hx2⟩ : ∃ y, (st.pls.getD t (0, 0)).2 = y := ⟨_, rfl⟩
  have hx2r := (ha.ok t (by rw [ha.l1]; exact ht)).2
  have n1 := ha.c1 ht
  rw [hx2] at hx2r n1
  have HPW := Lib.hid hp.wd
  have hpl : t < st.pls.length := by rw [ha.l1]; exact ht
  have HPL := Lib.hid hpl
  have HFEW := Lib.hid hf
  have HX0 := Lib.hid h0
  rw [h0] at n0
  have c1 := ha.top.cell (i := 1) rfl
  have c2 := ha.top.cell (i := 2) rfl
  have HA := Lib.hid (ha.keep ((Upd.refl (fun _ => False) w).drewN 1) id id id id)
  obtain ⟨g, hg⟩ : ∃ g, (Mem.inB a k && Mem.casB st.ws tl (t + 1)) = g := ⟨_, rfl⟩
  have E := Lib.hid (show unlS k tl st t a = if g = true then (3, { st with ws := Mem.put st.ws tl 0, ts := Cache.after k st.ws.length st.ts a tl true }) else (0, { st with pls := st.pls.set t (2, x2), ts := Cache.after k st.ws.length st.ts a tl true }) by unfold unlS; dsimp only; rw [if_neg (by omega), if_pos h0, hg, hx2])
  obtain ⟨num, hnum⟩ : ∃ num : Int, (t : Int) + 1 = num := ⟨_, rfl⟩
  rw [hnum] at hg ⊢
  have hn : 0 ≤ num ∧ num < 4294967296 := by omega
  have KA := Port.casP _ p SP k st.ws hs st.ts (hp.drewN 1) (by omega) a tl num 0 (by omega) (by omega)
  rw [hg] at KA
  have HKA := Lib.hid KA
  clear KA hf h0 hg ha hp
  go_enter Try.func40, Try.ntmps40
  go_wp2_with fail
  go_region_held3 (fun w' => w'.cell? ⟨l, 1, none⟩ = some (.pointer (some ⟨p, 0, none⟩)) ∧ w'.cell? ⟨l, 2, none⟩ = some (.int .i64 tl)) ((first | exact ⟨c1, c2⟩ | exact ⟨q1, q2⟩))
    ((go_at_call 60; refine HKA.out.mono ?_; rintro e w5 ⟨rfl, hp5, u5⟩; have q1 := cell_upd u5 c1 hsep.1; have q2 := cell_upd u5 c2 hsep.1))
  have A5 := HA.out.keep u5 hsep.1 hsep.2.1 hsep.2.2.1 hsep.2.2.2
  have up5 : Upd (ft l s lb pb SP) w w5 := ((Upd.refl _ w).drewN 1).trans (u5.mono fun i _ h => .inl h)
  have z0 := A5.c0 ht
  have m5 := A5.plc.frozen (t * 2)
  clear q1 q2 c1 c2 HKA u5 n0 n1 m0
  cases g with
  | true =>
    rw [if_pos rfl] at E hp5
    go_wp2_with fail
    go_ret
    (try rw [E.out])
    refine ⟨rfl, ⟨A5, hp5, ?_, hsep⟩, up5⟩
    exact Nat.le_trans (Cache.after_len _ _ _ _ _ _) (by have := HFEW.out; omega)
  | false =>
    rw [if_neg (by decide)] at E hp5
    have A7 := A5.setStep t ht 2 (by omega)
    rw [hx2] at A7
    have U7 := Upd.one w5 pb (t * 2) (.int .i64 2)
    have p7 := hp5.keep U7 (fun i hi e => hsep.2.2.2 (e ▸ hi))
    have up7 := up5.trans (U7.mono fun i _ e => (by rw [e]; simp [ft] : ft l s lb pb SP i))
    clear hx2
    go_wp2_with fail
    go_ret
    (try rw [E.out])
    refine ⟨rfl, ⟨A7, p7, ?_, hsep⟩, up7⟩
    exact Nat.le_trans (Cache.after_len _ _ _ _ _ _) (by have := HFEW.out; omega)
set_option maxHeartbeats 4000000 in
theorem unl3 {w : World} {b : Nat} {st : St} (h : O l s lb pb p SP k hs tl w b st) (hb : b < 1000000) (t : Nat) (ht : t < st.seats.length) (_h64 : t < 1000) (a : Int) (h3 : 3 ≤ (st.pls.getD t (0, 0)).1) :
    Calls Try.prog 40 #[.pointer (some ⟨l, 0, none⟩), .pointer (some ⟨pb, t * 2, none⟩), .int .u32 ((t : Int) + 1), .int .i64 a] w fun e w' =>
      e = .returned (.int .i64 (unlS k tl st t a).1) ∧ O l s lb pb p SP k hs tl w' (b + 1) (unlS k tl st t a).2 ∧ Upd (ft l s lb pb SP) w w' := by
  obtain ⟨ha, hp, hf, hsep⟩ := h
  have n0 := ha.c0 ht
  have m0 := ha.plc.frozen (t * 2)
  have tl0 := ha.tl0
  obtain ⟨x2, hx2⟩ : ∃ y, (st.pls.getD t (0, 0)).2 = y := ⟨_, rfl⟩
  have hx2r := (ha.ok t (by rw [ha.l1]; exact ht)).2
  have n1 := ha.c1 ht
  rw [hx2] at hx2r n1
  have HPW := Lib.hid hp.wd
  have hpl : t < st.pls.length := by rw [ha.l1]; exact ht
  have HPL := Lib.hid hpl
  have HFEW := Lib.hid hf
  obtain ⟨x1, hx1⟩ : ∃ y, (st.pls.getD t (0, 0)).1 = y := ⟨_, rfl⟩
  rw [hx1] at n0
  have c1 := ha.top.cell (i := 1) rfl
  have c2 := ha.top.cell (i := 2) rfl
  have HA := Lib.hid (ha.keep ((Upd.refl (fun _ => False) w).drewN 1) id id id id)
  have E := Lib.hid (show unlS k tl st t a = (3, { st with ws := wrt k st.ws a (nextA tl x2 + 1) 0, ts := Cache.after k st.ws.length st.ts a (nextA tl x2 + 1) true }) by unfold unlS; dsimp only; rw [if_neg (by omega), if_neg (by omega), hx2])
  obtain ⟨nv, hnv⟩ : ∃ nv, nextA tl x2 = nv := ⟨_, rfl⟩
  have hnvr : -1 ≤ nv ∧ nv ≤ 10000000000 := by rw [← hnv]; unfold nextA; omega
  have hnw : IntKind.i64.wrap (nv + 1) = nv + 1 := IntWalk.i64_in _ (by omega)
  have KN := nextC (l := l) (w.drewN 1) c2 tl0 x2 hx2r
  rw [show tl + 2 * x2 - 1 = nv from hnv] at KN
  have HKF := Lib.hid KN
  rw [hnv] at E
  have KA := Port.storeP _ p SP k st.ws hs st.ts (hp.drewN 1) (by omega) a (nv + 1) 0 (by omega) (by omega)
  have HKA := Lib.hid KA
  rw [hx1] at h3
  have e0 : (x1 == 0) = false := by simp; omega
  have e1 : (x1 == 1) = false := by simp; omega
  have e2 : (x1 == 2) = false := by simp; omega
  clear hnvr KA KN hf ha hp hx1
  go_enter Try.func40, Try.ntmps40
  go_wp2_with fail
  go_region_held3 (fun w' => w'.cell? ⟨l, 1, none⟩ = some (.pointer (some ⟨p, 0, none⟩)) ∧ w'.cell? ⟨pb, t * 2 + 1, none⟩ = some (.int .u32 x2)) ((first | exact ⟨c1, n1⟩ | exact ⟨q1, q3⟩))
    ((first | (go_at_call 42; refine HKF.out.mono ?_; rintro e w4 ⟨rfl, rfl⟩) | (go_at_call 58; refine HKA.out.mono ?_; rintro e w5 ⟨rfl, hp5, u5⟩; have q1 := cell_upd u5 c1 hsep.1; have q3 := cell_upd u5 n1 hsep.2.2.2)))
  have A5 := HA.out.keep u5 hsep.1 hsep.2.1 hsep.2.2.1 hsep.2.2.2
  have up5 : Upd (ft l s lb pb SP) w w5 := ((Upd.refl _ w).drewN 1).trans (u5.mono fun i _ h => .inl h)
  clear q1 q3 c1 c2 HKA HKF u5 n0 n1 m0
  go_wp2_with fail
  go_ret
  (try rw [E.out])
  refine ⟨rfl, ⟨A5, hp5, ?_, hsep⟩, up5⟩
  exact Nat.le_trans (Cache.after_len _ _ _ _ _ _) (by have := HFEW.out; omega)
theorem unlockC {w : World} {b : Nat} {st : St} (h : O l s lb pb p SP k hs tl w b st) (hb : b < 1000000) (t : Nat) (ht : t < st.seats.length) (h64 : t < 1000) (a : Int) :
    Calls Try.prog 40 #[.pointer (some ⟨l, 0, none⟩), .pointer (some ⟨pb, t * 2, none⟩), .int .u32 ((t : Int) + 1), .int .i64 a] w fun e w' =>
      e = .returned (.int .i64 (unlS k tl st t a).1) ∧ O l s lb pb p SP k hs tl w' (b + 1) (unlS k tl st t a).2 ∧ Upd (ft l s lb pb SP) w w' := by
  have := (h.at_.ok t (by rw [h.at_.l1]; exact ht)).1
  by_cases e0 : (st.pls.getD t (0, 0)).1 = 0
  · exact unl0 h hb t ht h64 a e0
  by_cases e1 : (st.pls.getD t (0, 0)).1 = 1
  · exact unl1 h hb t ht h64 a e1
  by_cases e2 : (st.pls.getD t (0, 0)).1 = 2
  · exact unl2 h hb t ht h64 a e2
  exact unl3 h hb t ht h64 a (by omega)
end Go.Proofs.Ytemcpnickdcekaa.Mcs
