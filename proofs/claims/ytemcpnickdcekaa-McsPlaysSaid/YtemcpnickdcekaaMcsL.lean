/- Package mcs: lock. -/
import Derived.Test.YtemcpnickdcekaaMcs
namespace Go.Proofs.Ytemcpnickdcekaa.Mcs
open Go Go.RowKit Go.Proofs.Ytemcpnickdcekaa.Heap Go.Proofs.Ytemcpnickdcekaa.Open Go.Proofs.Ytemcpnickdcekaa.Seat Go.Proofs.Ytemcpnickdcekaa.Mach Go.Proofs.Ytemcpnickdcekaa.Has Go.Proofs.Ytemcpnickdcekaa.StepU
variable {l s lb pb p : Nat} {SP : Nat → Prop} {k : Nat} {hs : List Int} {tl : Int}
theorem ss (pl : List P2) (t : Nat) (h : t < pl.length) (x : P2) : (pl.set t x).getD t (0, 0) = x := by simp [List.getD, List.getElem?_set_self h]
set_option maxHeartbeats 4000000 in
theorem lock0 {w : World} {b : Nat} {st : St} (h : O l s lb pb p SP k hs tl w b st) (hb : b < 1000000) (t : Nat) (ht : t < st.seats.length) (h64 : t < 1000) (a : Int) (h0 : (st.pls.getD t (0, 0)).1 = 0) :
    Calls Try.prog 39 #[.pointer (some ⟨l, 0, none⟩), .pointer (some ⟨pb, t * 2, none⟩), .int .u32 ((t : Int) + 1), .int .i64 a] w fun e w' =>
      e = .returned (didv (lockS k tl st t a).1) ∧ O l s lb pb p SP k hs tl w' (b + 1) (lockS k tl st t a).2 ∧ Upd (ft l s lb pb SP) w w' := by
  obtain ⟨ha, hp, hf, hsep⟩ := h
  have hup0 : Upd (ft l s lb pb SP) w (w.alloc (.cells #[.int .i64 0, .bool false, .bool false, .bool false] 62)) := (Upd.refl _ _).alloc _
  have ha1 := ha.keep ((Upd.refl (fun _ => False) w).alloc (.cells #[.int .i64 0, .bool false, .bool false, .bool false] 62)) id id id id
  have hp1 := hp.alloc (.cells #[.int .i64 0, .bool false, .bool false, .bool false] 62)
  have R1 : Row (w.alloc (.cells #[.int .i64 0, .bool false, .bool false, .bool false] 62)) w.heap.size [.int .i64 0, .bool false, .bool false, .bool false] := Row.new' rfl
  obtain ⟨D, hD⟩ : ∃ D, w.heap.size = D := ⟨_, rfl⟩
  have hlD : ∀ i, ft l s lb pb SP i → i < D := by
    intro i hi
    rw [← hD]
    rcases hi with hi | rfl | rfl | rfl | rfl
    · obtain ⟨_, hl⟩ := hp; exact hl i hi
    · exact ha.top.lt
    · exact ha.seat.top.lt
    · exact ha.seat.row.lt
    · exact ha.plc.lt
  have HD := Lib.hid hD
  obtain ⟨W, hW⟩ : ∃ W, w.alloc (.cells #[.int .i64 0, .bool false, .bool false, .bool false] 62) = W := ⟨_, rfl⟩
  rw [hD] at R1
  rw [hW] at hup0 ha1 hp1 R1
  have HW := Lib.hid hW
  clear hD hW ha hp
  have n0 := ha1.c0 ht
  have m0 := ha1.plc.frozen (t * 2)
  have tl0 := ha1.tl0
  have hDn : ∀ i, ft l s lb pb SP i → i ≠ D := fun i hi e => by have := hlD i hi; omega
  obtain ⟨x2, hx2⟩ : ∃ y, (st.pls.getD t (0, 0)).2 = y := ⟨_, rfl⟩
  have hx2r := (ha1.ok t (by rw [ha1.l1]; exact ht)).2
  rw [hx2] at hx2r
  have HFEW := Lib.hid hf
  have HPW := Lib.hid hp1.wd
  have hpl : t < st.pls.length := by rw [ha1.l1]; exact ht
  have HPL := Lib.hid hpl
  rw [h0] at n0
  have A2 := ha1.setStep t ht 1 (by omega)
  rw [hx2] at A2
  have U2 := Upd.one W pb (t * 2) (.int .i64 1)
  have p2 := hp1.keep U2 (fun i hi e => hsep.2.2.2 (e ▸ hi))
  have R2 := R1.set_ne (fun e => hDn pb (by simp [ft]) e.symm) (t * 2) (.int .i64 1)
  have up2 := hup0.trans (U2.mono fun i _ e => (by rw [e]; simp [ft] : ft l s lb pb SP i))
  have E := Lib.hid (show lockS k tl st t a = ((0, false, false, false), { st with pls := st.pls.set t (1, x2), ws := wrt k st.ws a (nextA tl (t + 1)) 0, ts := Cache.after k st.ws.length st.ts a (nextA tl (t + 1)) true }) by unfold lockS; dsimp only; rw [if_pos h0, hx2])
  obtain ⟨num, hnum⟩ : ∃ num : Int, (t : Int) + 1 = num := ⟨_, rfl⟩
  rw [hnum] at E ⊢
  have hn : 0 ≤ num ∧ num < 4294967296 := by omega
  go_enter Try.func39, Try.ntmps39
  go_upto_region 1 with (fail)
  rw [HW.out, HD.out]
  go_upto_block 0 with (fail)
  obtain ⟨W2, hW2⟩ : ∃ W2, W.setCell ⟨pb, t * 2, none⟩ (.int .i64 1) = W2 := ⟨_, rfl⟩
  rw [hW2] at A2 p2 R2 up2 ⊢
  have c1 := A2.top.cell (i := 1) rfl
  have c2 := A2.top.cell (i := 2) rfl
  obtain ⟨nv, hnv⟩ : ∃ nv, nextA tl num = nv := ⟨_, rfl⟩
  have hnvr : -1 ≤ nv ∧ nv ≤ 10000000000 := by rw [← hnv]; unfold nextA; omega
  have hnw : IntKind.i64.wrap (nv + 1) = nv + 1 := IntWalk.i64_in _ (by omega)
  have KN := nextC (l := l) (W2.drewN 1) c2 tl0 num hn
  rw [show tl + 2 * num - 1 = nv from hnv] at KN
  have HKF := Lib.hid KN
  rw [hnv] at E
  have KA := Port.storeP _ p SP k st.ws hs st.ts (p2.drewN 1) (by omega) a nv 0 (by omega) (by omega)
  have HKA := Lib.hid KA
  clear hnvr KA KN hf hW2 ha1 hp1 hup0 R1 U2 h0 n0 m0
  go_wp2_with fail
  go_region_held3 (fun w' => w'.cell? ⟨l, 1, none⟩ = some (.pointer (some ⟨p, 0, none⟩))) ((first | exact c1 | exact q1))
    ((first | (go_at_call 42; refine HKF.out.mono ?_; rintro e w4 ⟨rfl, rfl⟩) | (go_at_call 58; refine HKA.out.mono ?_; rintro e w5 ⟨rfl, hp5, u5⟩; have q1 := cell_upd u5 c1 hsep.1)))
  have A5 := (A2.keep ((Upd.refl (fun _ => False) W2).drewN 1) id id id id).keep u5 hsep.1 hsep.2.1 hsep.2.2.1 hsep.2.2.2
  have RD := (R2.drewN 1).upd u5 (fun e => hDn D (.inl e) rfl)
  have up5 : Upd (ft l s lb pb SP) w w5 := (up2.drewN 1).trans (u5.mono fun i _ h => .inl h)
  have y0 := RD.cell (i := 0) rfl
  have y1 := RD.cell (i := 1) rfl
  have y2 := RD.cell (i := 2) rfl
  have y3 := RD.cell (i := 3) rfl
  have f0 := RD.frozen 0
  have f1 := RD.frozen 1
  have f2 := RD.frozen 2
  have f3 := RD.frozen 3
  clear q1 c1 c2 HKA HKF A2 p2 R2 up2 u5
  go_wp2_with fail
  obtain ⟨w8, hw8, RE, UE⟩ := did_end RD 0 false
  rw [hw8]
  have g0 := RE.cell (i := 0) rfl
  have g1 := RE.cell (i := 1) rfl
  have g2 := RE.cell (i := 2) rfl
  have g3 := RE.cell (i := 3) rfl
  refine bodyPost_ret (v := didv (0, false, false, false)) (by simp [results, Try.results39, go_sem, didv, g0, g1, g2, g3]) rfl ?_
  (try rw [E.out])
  refine ⟨rfl, ⟨A5.keepD UE hDn, hp5.keep UE (fun i hi e => hDn i (.inl hi) e), ?_, hsep⟩, up5.then UE (fun i hi e => by have := HD.out; omega)⟩
  exact Nat.le_trans (Cache.after_len _ _ _ _ _ _) (by have := HFEW.out; omega)
set_option maxHeartbeats 4000000 in
theorem lock2 {w : World} {b : Nat} {st : St} (h : O l s lb pb p SP k hs tl w b st) (hb : b < 1000000) (t : Nat) (ht : t < st.seats.length) (h64 : t < 1000) (a : Int) (h0 : (st.pls.getD t (0, 0)).1 = 2) :
    Calls Try.prog 39 #[.pointer (some ⟨l, 0, none⟩), .pointer (some ⟨pb, t * 2, none⟩), .int .u32 ((t : Int) + 1), .int .i64 a] w fun e w' =>
      e = .returned (didv (lockS k tl st t a).1) ∧ O l s lb pb p SP k hs tl w' (b + 1) (lockS k tl st t a).2 ∧ Upd (ft l s lb pb SP) w w' := by
  obtain ⟨ha, hp, hf, hsep⟩ := h
  have hup0 : Upd (ft l s lb pb SP) w (w.alloc (.cells #[.int .i64 0, .bool false, .bool false, .bool false] 62)) := (Upd.refl _ _).alloc _
  have ha1 := ha.keep ((Upd.refl (fun _ => False) w).alloc (.cells #[.int .i64 0, .bool false, .bool false, .bool false] 62)) id id id id
  have hp1 := hp.alloc (.cells #[.int .i64 0, .bool false, .bool false, .bool false] 62)
  have R1 : Row (w.alloc (.cells #[.int .i64 0, .bool false, .bool false, .bool false] 62)) w.heap.size [.int .i64 0, .bool false, .bool false, .bool false] := Row.new' rfl
  obtain ⟨D, hD⟩ : ∃ D, w.heap.size = D := ⟨_, rfl⟩
  have hlD : ∀ i, ft l s lb pb SP i → i < D := by
    intro i hi
    rw [← hD]
    rcases hi with hi | rfl | rfl | rfl | rfl
    · obtain ⟨_, hl⟩ := hp; exact hl i hi
    · exact ha.top.lt
    · exact ha.seat.top.lt
    · exact ha.seat.row.lt
    · exact ha.plc.lt
  have HD := Lib.hid hD
  obtain ⟨W, hW⟩ : ∃ W, w.alloc (.cells #[.int .i64 0, .bool false, .bool false, .bool false] 62) = W := ⟨_, rfl⟩
  rw [hD] at R1
  rw [hW] at hup0 ha1 hp1 R1
  have HW := Lib.hid hW
  clear hD hW ha hp
  have n0 := ha1.c0 ht
  have m0 := ha1.plc.frozen (t * 2)
  have tl0 := ha1.tl0
  have hDn : ∀ i, ft l s lb pb SP i → i ≠ D := fun i hi e => by have := hlD i hi; omega
  obtain ⟨x2, hx2⟩ : ∃ y, (st.pls.getD t (0, 0)).2 = y := ⟨_, rfl⟩
  have hx2r := (ha1.ok t (by rw [ha1.l1]; exact ht)).2
  rw [hx2] at hx2r
  have HFEW := Lib.hid hf
  have HPW := Lib.hid hp1.wd
  have hpl : t < st.pls.length := by rw [ha1.l1]; exact ht
  have HPL := Lib.hid hpl
  rw [h0] at n0
  have A2 := ha1.setStep t ht 3 (by omega)
  rw [hx2] at A2
  have U2 := Upd.one W pb (t * 2) (.int .i64 3)
  have p2 := hp1.keep U2 (fun i hi e => hsep.2.2.2 (e ▸ hi))
  have R2 := R1.set_ne (fun e => hDn pb (by simp [ft]) e.symm) (t * 2) (.int .i64 3)
  have up2 := hup0.trans (U2.mono fun i _ e => (by rw [e]; simp [ft] : ft l s lb pb SP i))
  have E := Lib.hid (show lockS k tl st t a = ((0, false, false, false), { st with pls := st.pls.set t (3, x2), ws := wrt k st.ws a (nextA tl (t + 1) + 1) 1, ts := Cache.after k st.ws.length st.ts a (nextA tl (t + 1) + 1) true }) by unfold lockS; dsimp only; rw [if_neg (by omega), if_neg (by omega), if_pos h0, hx2])
  obtain ⟨num, hnum⟩ : ∃ num : Int, (t : Int) + 1 = num := ⟨_, rfl⟩
  rw [hnum] at E ⊢
  have hn : 0 ≤ num ∧ num < 4294967296 := by omega
  go_enter Try.func39, Try.ntmps39
  go_upto_region 1 with (fail)
  rw [HW.out, HD.out]
  go_upto_block 0 with (fail)
  obtain ⟨W2, hW2⟩ : ∃ W2, W.setCell ⟨pb, t * 2, none⟩ (.int .i64 3) = W2 := ⟨_, rfl⟩
  rw [hW2] at A2 p2 R2 up2 ⊢
  have c1 := A2.top.cell (i := 1) rfl
  have c2 := A2.top.cell (i := 2) rfl
  obtain ⟨nv, hnv⟩ : ∃ nv, nextA tl num = nv := ⟨_, rfl⟩
  have hnvr : -1 ≤ nv ∧ nv ≤ 10000000000 := by rw [← hnv]; unfold nextA; omega
  have hnw : IntKind.i64.wrap (nv + 1) = nv + 1 := IntWalk.i64_in _ (by omega)
  have KN := nextC (l := l) (W2.drewN 1) c2 tl0 num hn
  rw [show tl + 2 * num - 1 = nv from hnv] at KN
  have HKF := Lib.hid KN
  rw [hnv] at E
  have KA := Port.storeP _ p SP k st.ws hs st.ts (p2.drewN 1) (by omega) a (nv + 1) 1 (by omega) (by omega)
  have HKA := Lib.hid KA
  clear hnvr KA KN hf hW2 ha1 hp1 hup0 R1 U2 h0 n0 m0
  go_wp2_with fail
  go_region_held3 (fun w' => w'.cell? ⟨l, 1, none⟩ = some (.pointer (some ⟨p, 0, none⟩))) ((first | exact c1 | exact q1))
    ((first | (go_at_call 42; refine HKF.out.mono ?_; rintro e w4 ⟨rfl, rfl⟩) | (go_at_call 58; refine HKA.out.mono ?_; rintro e w5 ⟨rfl, hp5, u5⟩; have q1 := cell_upd u5 c1 hsep.1)))
  have A5 := (A2.keep ((Upd.refl (fun _ => False) W2).drewN 1) id id id id).keep u5 hsep.1 hsep.2.1 hsep.2.2.1 hsep.2.2.2
  have RD := (R2.drewN 1).upd u5 (fun e => hDn D (.inl e) rfl)
  have up5 : Upd (ft l s lb pb SP) w w5 := (up2.drewN 1).trans (u5.mono fun i _ h => .inl h)
  have y0 := RD.cell (i := 0) rfl
  have y1 := RD.cell (i := 1) rfl
  have y2 := RD.cell (i := 2) rfl
  have y3 := RD.cell (i := 3) rfl
  have f0 := RD.frozen 0
  have f1 := RD.frozen 1
  have f2 := RD.frozen 2
  have f3 := RD.frozen 3
  clear q1 c1 c2 HKA HKF A2 p2 R2 up2 u5
  go_wp2_with fail
  obtain ⟨w8, hw8, RE, UE⟩ := did_end RD 0 false
  rw [hw8]
  have g0 := RE.cell (i := 0) rfl
  have g1 := RE.cell (i := 1) rfl
  have g2 := RE.cell (i := 2) rfl
  have g3 := RE.cell (i := 3) rfl
  refine bodyPost_ret (v := didv (0, false, false, false)) (by simp [results, Try.results39, go_sem, didv, g0, g1, g2, g3]) rfl ?_
  (try rw [E.out])
  refine ⟨rfl, ⟨A5.keepD UE hDn, hp5.keep UE (fun i hi e => hDn i (.inl hi) e), ?_, hsep⟩, up5.then UE (fun i hi e => by have := HD.out; omega)⟩
  exact Nat.le_trans (Cache.after_len _ _ _ _ _ _) (by have := HFEW.out; omega)
set_option maxHeartbeats 4000000 in
theorem lock3 {w : World} {b : Nat} {st : St} (h : O l s lb pb p SP k hs tl w b st) (hb : b < 1000000) (t : Nat) (ht : t < st.seats.length) (h64 : t < 1000) (a : Int) (h0 : (st.pls.getD t (0, 0)).1 = 3) :
    Calls Try.prog 39 #[.pointer (some ⟨l, 0, none⟩), .pointer (some ⟨pb, t * 2, none⟩), .int .u32 ((t : Int) + 1), .int .i64 a] w fun e w' =>
      e = .returned (didv (lockS k tl st t a).1) ∧ O l s lb pb p SP k hs tl w' (b + 1) (lockS k tl st t a).2 ∧ Upd (ft l s lb pb SP) w w' := by
  obtain ⟨ha, hp, hf, hsep⟩ := h
  have hup0 : Upd (ft l s lb pb SP) w (w.alloc (.cells #[.int .i64 0, .bool false, .bool false, .bool false] 62)) := (Upd.refl _ _).alloc _
  have ha1 := ha.keep ((Upd.refl (fun _ => False) w).alloc (.cells #[.int .i64 0, .bool false, .bool false, .bool false] 62)) id id id id
  have hp1 := hp.alloc (.cells #[.int .i64 0, .bool false, .bool false, .bool false] 62)
  have R1 : Row (w.alloc (.cells #[.int .i64 0, .bool false, .bool false, .bool false] 62)) w.heap.size [.int .i64 0, .bool false, .bool false, .bool false] := Row.new' rfl
  obtain ⟨D, hD⟩ : ∃ D, w.heap.size = D := ⟨_, rfl⟩
  have hlD : ∀ i, ft l s lb pb SP i → i < D := by
    intro i hi
    rw [← hD]
    rcases hi with hi | rfl | rfl | rfl | rfl
    · obtain ⟨_, hl⟩ := hp; exact hl i hi
    · exact ha.top.lt
    · exact ha.seat.top.lt
    · exact ha.seat.row.lt
    · exact ha.plc.lt
  have HD := Lib.hid hD
  obtain ⟨W, hW⟩ : ∃ W, w.alloc (.cells #[.int .i64 0, .bool false, .bool false, .bool false] 62) = W := ⟨_, rfl⟩
  rw [hD] at R1
  rw [hW] at hup0 ha1 hp1 R1
  have HW := Lib.hid hW
  clear hD hW ha hp
  have n0 := ha1.c0 ht
  have m0 := ha1.plc.frozen (t * 2)
  have tl0 := ha1.tl0
  have hDn : ∀ i, ft l s lb pb SP i → i ≠ D := fun i hi e => by have := hlD i hi; omega
  obtain ⟨x2, hx2⟩ : ∃ y, (st.pls.getD t (0, 0)).2 = y := ⟨_, rfl⟩
  have hx2r := (ha1.ok t (by rw [ha1.l1]; exact ht)).2
  rw [hx2] at hx2r
  have HFEW := Lib.hid hf
  have HPW := Lib.hid hp1.wd
  have hpl : t < st.pls.length := by rw [ha1.l1]; exact ht
  have HPL := Lib.hid hpl
  rw [h0] at n0
  have A2 := ha1.setStep t ht 4 (by omega)
  rw [hx2] at A2
  have U2 := Upd.one W pb (t * 2) (.int .i64 4)
  have p2 := hp1.keep U2 (fun i hi e => hsep.2.2.2 (e ▸ hi))
  have R2 := R1.set_ne (fun e => hDn pb (by simp [ft]) e.symm) (t * 2) (.int .i64 4)
  have up2 := hup0.trans (U2.mono fun i _ e => (by rw [e]; simp [ft] : ft l s lb pb SP i))
  have E := Lib.hid (show lockS k tl st t a = ((0, false, false, false), { st with pls := st.pls.set t (4, x2), ws := wrt k st.ws a (nextA tl x2) (t + 1), ts := Cache.after k st.ws.length st.ts a (nextA tl x2) true }) by unfold lockS; dsimp only; rw [if_neg (by omega), if_neg (by omega), if_neg (by omega), if_pos h0, hx2])
  obtain ⟨num, hnum⟩ : ∃ num : Int, (t : Int) + 1 = num := ⟨_, rfl⟩
  rw [hnum] at E ⊢
  have hn : 0 ≤ num ∧ num < 4294967296 := by omega
  go_enter Try.func39, Try.ntmps39
  go_upto_region 1 with (fail)
  rw [HW.out, HD.out]
  go_upto_block 0 with (fail)
  obtain ⟨W2, hW2⟩ : ∃ W2, W.setCell ⟨pb, t * 2, none⟩ (.int .i64 4) = W2 := ⟨_, rfl⟩
  rw [hW2] at A2 p2 R2 up2 ⊢
  have c1 := A2.top.cell (i := 1) rfl
  have c2 := A2.top.cell (i := 2) rfl
  obtain ⟨nv, hnv⟩ : ∃ nv, nextA tl x2 = nv := ⟨_, rfl⟩
  have hnvr : -1 ≤ nv ∧ nv ≤ 10000000000 := by rw [← hnv]; unfold nextA; omega
  have KN := nextC (l := l) (W2.drewN 1) c2 tl0 x2 hx2r
  rw [show tl + 2 * x2 - 1 = nv from hnv] at KN
  have HKF := Lib.hid KN
  rw [hnv] at E
  have KA := Port.storeP _ p SP k st.ws hs st.ts (p2.drewN 1) (by omega) a nv num hn.1 hn.2
  have HKA := Lib.hid KA
  have c3 := A2.c1 ht
  rw [ss _ _ HPL.out] at c3
  clear hnvr KA KN hf hW2 ha1 hp1 hup0 R1 U2 h0 n0 m0
  go_wp2_with fail
  go_region_held3 (fun w' => w'.cell? ⟨l, 1, none⟩ = some (.pointer (some ⟨p, 0, none⟩)) ∧ w'.cell? ⟨pb, t * 2 + 1, none⟩ = some (.int .u32 x2)) ((first | exact ⟨c1, c3⟩ | exact ⟨q1, q3⟩))
    ((first | (go_at_call 42; refine HKF.out.mono ?_; rintro e w4 ⟨rfl, rfl⟩) | (go_at_call 58; refine HKA.out.mono ?_; rintro e w5 ⟨rfl, hp5, u5⟩; have q1 := cell_upd u5 c1 hsep.1; have q3 := cell_upd u5 c3 hsep.2.2.2)))
  have A5 := (A2.keep ((Upd.refl (fun _ => False) W2).drewN 1) id id id id).keep u5 hsep.1 hsep.2.1 hsep.2.2.1 hsep.2.2.2
  have RD := (R2.drewN 1).upd u5 (fun e => hDn D (.inl e) rfl)
  have up5 : Upd (ft l s lb pb SP) w w5 := (up2.drewN 1).trans (u5.mono fun i _ h => .inl h)
  have y0 := RD.cell (i := 0) rfl
  have y1 := RD.cell (i := 1) rfl
  have y2 := RD.cell (i := 2) rfl
  have y3 := RD.cell (i := 3) rfl
  have f0 := RD.frozen 0
  have f1 := RD.frozen 1
  have f2 := RD.frozen 2
  have f3 := RD.frozen 3
  clear q1 q3 c3 c1 c2 HKA HKF A2 p2 R2 up2 u5
  go_wp2_with fail
  obtain ⟨w8, hw8, RE, UE⟩ := did_end RD 0 false
  rw [hw8]
  have g0 := RE.cell (i := 0) rfl
  have g1 := RE.cell (i := 1) rfl
  have g2 := RE.cell (i := 2) rfl
  have g3 := RE.cell (i := 3) rfl
  refine bodyPost_ret (v := didv (0, false, false, false)) (by simp [results, Try.results39, go_sem, didv, g0, g1, g2, g3]) rfl ?_
  (try rw [E.out])
  refine ⟨rfl, ⟨A5.keepD UE hDn, hp5.keep UE (fun i hi e => hDn i (.inl hi) e), ?_, hsep⟩, up5.then UE (fun i hi e => by have := HD.out; omega)⟩
  exact Nat.le_trans (Cache.after_len _ _ _ _ _ _) (by have := HFEW.out; omega)
set_option maxHeartbeats 4000000 in
theorem lock4 {w : World} {b : Nat} {st : St} (h : O l s lb pb p SP k hs tl w b st) (hb : b < 1000000) (t : Nat) (ht : t < st.seats.length) (h64 : t < 1000) (a : Int) (h0 : (st.pls.getD t (0, 0)).1 = 4) :
    Calls Try.prog 39 #[.pointer (some ⟨l, 0, none⟩), .pointer (some ⟨pb, t * 2, none⟩), .int .u32 ((t : Int) + 1), .int .i64 a] w fun e w' =>
      e = .returned (didv (lockS k tl st t a).1) ∧ O l s lb pb p SP k hs tl w' (b + 1) (lockS k tl st t a).2 ∧ Upd (ft l s lb pb SP) w w' := by
  obtain ⟨ha, hp, hf, hsep⟩ := h
  have hup0 : Upd (ft l s lb pb SP) w (w.alloc (.cells #[.int .i64 0, .bool false, .bool false, .bool false] 62)) := (Upd.refl _ _).alloc _
  have ha1 := ha.keep ((Upd.refl (fun _ => False) w).alloc (.cells #[.int .i64 0, .bool false, .bool false, .bool false] 62)) id id id id
  have hp1 := hp.alloc (.cells #[.int .i64 0, .bool false, .bool false, .bool false] 62)
  have R1 : Row (w.alloc (.cells #[.int .i64 0, .bool false, .bool false, .bool false] 62)) w.heap.size [.int .i64 0, .bool false, .bool false, .bool false] := Row.new' rfl
  obtain ⟨D, hD⟩ : ∃ D, w.heap.size = D := ⟨_, rfl⟩
  have hlD : ∀ i, ft l s lb pb SP i → i < D := by
    intro i hi
    rw [← hD]
    rcases hi with hi | rfl | rfl | rfl | rfl
    · obtain ⟨_, hl⟩ := hp; exact hl i hi
    · exact ha.top.lt
    · exact ha.seat.top.lt
    · exact ha.seat.row.lt
    · exact ha.plc.lt
  have HD := Lib.hid hD
  obtain ⟨W, hW⟩ : ∃ W, w.alloc (.cells #[.int .i64 0, .bool false, .bool false, .bool false] 62) = W := ⟨_, rfl⟩
  rw [hD] at R1
  rw [hW] at hup0 ha1 hp1 R1
  have HW := Lib.hid hW
  clear hD hW ha hp
  have n0 := ha1.c0 ht
  have m0 := ha1.plc.frozen (t * 2)
  have tl0 := ha1.tl0
  have hDn : ∀ i, ft l s lb pb SP i → i ≠ D := fun i hi e => by have := hlD i hi; omega
  obtain ⟨x2, hx2⟩ : ∃ y, (st.pls.getD t (0, 0)).2 = y := ⟨_, rfl⟩
  have hx2r := (ha1.ok t (by rw [ha1.l1]; exact ht)).2
  rw [hx2] at hx2r
  have HFEW := Lib.hid hf
  have HPW := Lib.hid hp1.wd
  have hpl : t < st.pls.length := by rw [ha1.l1]; exact ht
  have HPL := Lib.hid hpl
  rw [h0] at n0
  have A2 := ha1.setStep t ht 4 (by omega)
  rw [hx2] at A2
  have U2 := Upd.one W pb (t * 2) (.int .i64 4)
  have p2 := hp1.keep U2 (fun i hi e => hsep.2.2.2 (e ▸ hi))
  have R2 := R1.set_ne (fun e => hDn pb (by simp [ft]) e.symm) (t * 2) (.int .i64 4)
  have up2 := hup0.trans (U2.mono fun i _ e => (by rw [e]; simp [ft] : ft l s lb pb SP i))
  have hsame : st.pls.set t (4, x2) = st.pls := by
    have e : st.pls[t]'hpl = (4, x2) := by
      have h1 := h0; have h2 := hx2
      rw [getD_lt _ _ _ hpl] at h1 h2
      exact Prod.ext h1 h2
    rw [← e]; exact List.set_getElem_self hpl
  rw [hsame] at A2
  obtain ⟨g, hg⟩ : ∃ g, rd k st.ws a (nextA tl (t + 1) + 1) = g := ⟨_, rfl⟩
  have E := Lib.hid (show lockS k tl st t a = ((if g = 0 then 1 else 0, false, false, false), { st with ts := Cache.after k st.ws.length st.ts a (nextA tl (t + 1) + 1) false }) by unfold lockS; dsimp only; rw [if_neg (by omega), if_neg (by omega), if_neg (by omega), if_neg (by omega), hg])
  obtain ⟨num, hnum⟩ : ∃ num : Int, (t : Int) + 1 = num := ⟨_, rfl⟩
  rw [hnum] at E hg ⊢
  have hn : 0 ≤ num ∧ num < 4294967296 := by omega
  go_enter Try.func39, Try.ntmps39
  go_upto_region 1 with (fail)
  rw [HW.out, HD.out]
  go_upto_block 0 with (fail)
  obtain ⟨W2, hW2⟩ : ∃ W2, W.setCell ⟨pb, t * 2, none⟩ (.int .i64 4) = W2 := ⟨_, rfl⟩
  rw [hW2] at A2 p2 R2 up2 ⊢
  have c1 := A2.top.cell (i := 1) rfl
  have c2 := A2.top.cell (i := 2) rfl
  obtain ⟨nv, hnv⟩ : ∃ nv, nextA tl num = nv := ⟨_, rfl⟩
  have hnvr : -1 ≤ nv ∧ nv ≤ 10000000000 := by rw [← hnv]; unfold nextA; omega
  have hnw : IntKind.i64.wrap (nv + 1) = nv + 1 := IntWalk.i64_in _ (by omega)
  have KN := nextC (l := l) (W2.drewN 1) c2 tl0 num hn
  rw [show tl + 2 * num - 1 = nv from hnv] at KN
  have HKF := Lib.hid KN
  rw [hnv] at E
  rw [hnv] at hg
  have KA := Port.loadP _ p SP k st.ws hs st.ts (p2.drewN 1) (by omega) a (nv + 1)
  unfold rd at hg
  rw [hg] at KA
  have HKA := Lib.hid KA
  clear hnvr KA KN hf hW2 ha1 hp1 hup0 R1 U2 h0 n0 m0 hg hsame
  go_wp2_with fail
  go_region_held3 (fun w' => w'.cell? ⟨l, 1, none⟩ = some (.pointer (some ⟨p, 0, none⟩))) ((first | exact c1 | exact q1))
    ((first | (go_at_call 42; refine HKF.out.mono ?_; rintro e w4 ⟨rfl, rfl⟩) | (go_at_call 41; refine HKA.out.mono ?_; rintro e w5 ⟨rfl, hp5, u5⟩; have q1 := cell_upd u5 c1 hsep.1)))
  have A5 := (A2.keep ((Upd.refl (fun _ => False) W2).drewN 1) id id id id).keep u5 hsep.1 hsep.2.1 hsep.2.2.1 hsep.2.2.2
  have RD := (R2.drewN 1).upd u5 (fun e => hDn D (.inl e) rfl)
  have up5 : Upd (ft l s lb pb SP) w w5 := (up2.drewN 1).trans (u5.mono fun i _ h => .inl h)
  have y0 := RD.cell (i := 0) rfl
  have y1 := RD.cell (i := 1) rfl
  have y2 := RD.cell (i := 2) rfl
  have y3 := RD.cell (i := 3) rfl
  have f0 := RD.frozen 0
  have f1 := RD.frozen 1
  have f2 := RD.frozen 2
  have f3 := RD.frozen 3
  clear q1 c1 c2 HKA HKF A2 p2 R2 up2 u5
  by_cases hgn : g = 0
  · have E := E.out
    rw [if_pos hgn] at E
    have E := Lib.hid E
    subst hgn
    go_wp2_with fail
    obtain ⟨w8, hw8, RE, UE⟩ := did_end RD 1 false
    rw [hw8]
    have g0 := RE.cell (i := 0) rfl
    have g1 := RE.cell (i := 1) rfl
    have g2 := RE.cell (i := 2) rfl
    have g3 := RE.cell (i := 3) rfl
    refine bodyPost_ret (v := didv (1, false, false, false)) (by simp [results, Try.results39, go_sem, didv, g0, g1, g2, g3]) rfl ?_
    (try rw [E.out])
    refine ⟨rfl, ⟨A5.keepD UE hDn, hp5.keep UE (fun i hi e => hDn i (.inl hi) e), ?_, hsep⟩, up5.then UE (fun i hi e => by have := HD.out; omega)⟩
    exact Nat.le_trans (Cache.after_len _ _ _ _ _ _) (by have := HFEW.out; omega)
  · have hgn' : (g == 0) = false := by simpa using hgn
    rw [if_neg hgn] at E
    clear hgn
    go_wp2_with fail
    obtain ⟨w8, hw8, RE, UE⟩ := did_end RD 0 false
    rw [hw8]
    have g0 := RE.cell (i := 0) rfl
    have g1 := RE.cell (i := 1) rfl
    have g2 := RE.cell (i := 2) rfl
    have g3 := RE.cell (i := 3) rfl
    refine bodyPost_ret (v := didv (0, false, false, false)) (by simp [results, Try.results39, go_sem, didv, g0, g1, g2, g3]) rfl ?_
    (try rw [E.out])
    refine ⟨rfl, ⟨A5.keepD UE hDn, hp5.keep UE (fun i hi e => hDn i (.inl hi) e), ?_, hsep⟩, up5.then UE (fun i hi e => by have := HD.out; omega)⟩
    exact Nat.le_trans (Cache.after_len _ _ _ _ _ _) (by have := HFEW.out; omega)
set_option maxHeartbeats 4000000 in
theorem lock1 {w : World} {b : Nat} {st : St} (h : O l s lb pb p SP k hs tl w b st) (hb : b < 1000000) (t : Nat) (ht : t < st.seats.length) (h64 : t < 1000) (a : Int) (h0 : (st.pls.getD t (0, 0)).1 = 1) :
    Calls Try.prog 39 #[.pointer (some ⟨l, 0, none⟩), .pointer (some ⟨pb, t * 2, none⟩), .int .u32 ((t : Int) + 1), .int .i64 a] w fun e w' =>
      e = .returned (didv (lockS k tl st t a).1) ∧ O l s lb pb p SP k hs tl w' (b + 1) (lockS k tl st t a).2 ∧ Upd (ft l s lb pb SP) w w' := by
  obtain ⟨ha, hp, hf, hsep⟩ := h
  have hup0 : Upd (ft l s lb pb SP) w (w.alloc (.cells #[.int .i64 0, .bool false, .bool false, .bool false] 62)) := (Upd.refl _ _).alloc _
  have ha1 := ha.keep ((Upd.refl (fun _ => False) w).alloc (.cells #[.int .i64 0, .bool false, .bool false, .bool false] 62)) id id id id
  have hp1 := hp.alloc (.cells #[.int .i64 0, .bool false, .bool false, .bool false] 62)
  have R1 : Row (w.alloc (.cells #[.int .i64 0, .bool false, .bool false, .bool false] 62)) w.heap.size [.int .i64 0, .bool false, .bool false, .bool false] := Row.new' rfl
  obtain ⟨D, hD⟩ : ∃ D, w.heap.size = D := ⟨_, rfl⟩
  have hlD : ∀ i, ft l s lb pb SP i → i < D := by
    intro i hi
    rw [← hD]
    rcases hi with hi | rfl | rfl | rfl | rfl
    · obtain ⟨_, hl⟩ := hp; exact hl i hi
    · exact ha.top.lt
    · exact ha.seat.top.lt
    · exact ha.seat.row.lt
    · exact ha.plc.lt
  have HD := Lib.hid hD
  obtain ⟨W, hW⟩ : ∃ W, w.alloc (.cells #[.int .i64 0, .bool false, .bool false, .bool false] 62) = W := ⟨_, rfl⟩
  rw [hD] at R1
  rw [hW] at hup0 ha1 hp1 R1
  have HW := Lib.hid hW
  clear hD hW ha hp
  have n0 := ha1.c0 ht
  have m0 := ha1.plc.frozen (t * 2)
  have tl0 := ha1.tl0
  have hDn : ∀ i, ft l s lb pb SP i → i ≠ D := fun i hi e => by have := hlD i hi; omega
  obtain ⟨x2, hx2⟩ : ∃ y, (st.pls.getD t (0, 0)).2 = y := ⟨_, rfl⟩
  have hx2r := (ha1.ok t (by rw [ha1.l1]; exact ht)).2
  rw [hx2] at hx2r
  have HFEW := Lib.hid hf
  have HPW := Lib.hid hp1.wd
  have hpl : t < st.pls.length := by rw [ha1.l1]; exact ht
  have HPL := Lib.hid hpl
  rw [h0] at n0
  have A2 := ha1.setStep t ht 2 (by omega)
  rw [hx2] at A2
  have U2 := Upd.one W pb (t * 2) (.int .i64 2)
  have p2 := hp1.keep U2 (fun i hi e => hsep.2.2.2 (e ▸ hi))
  have R2 := R1.set_ne (fun e => hDn pb (by simp [ft]) e.symm) (t * 2) (.int .i64 2)
  have up2 := hup0.trans (U2.mono fun i _ e => (by rw [e]; simp [ft] : ft l s lb pb SP i))
  obtain ⟨g, hg⟩ : ∃ g, rd k st.ws a tl = g := ⟨_, rfl⟩
  have hgw := rd_wd HPW.out k a tl
  rw [hg] at hgw
  have E := Lib.hid (show lockS k tl st t a = ((if g = 0 then 1 else 0, true, false, false), { st with pls := st.pls.set t (2, g), ws := wrt k st.ws a tl (t + 1), ts := Cache.after k st.ws.length st.ts a tl true }) by unfold lockS; dsimp only; rw [if_neg (by omega), if_pos h0, hg])
  obtain ⟨num, hnum⟩ : ∃ num : Int, (t : Int) + 1 = num := ⟨_, rfl⟩
  rw [hnum] at E ⊢
  have hn : 0 ≤ num ∧ num < 4294967296 := by omega
  go_enter Try.func39, Try.ntmps39
  go_upto_region 1 with (fail)
  rw [HW.out, HD.out]
  go_upto_block 0 with (fail)
  obtain ⟨W2, hW2⟩ : ∃ W2, W.setCell ⟨pb, t * 2, none⟩ (.int .i64 2) = W2 := ⟨_, rfl⟩
  rw [hW2] at A2 p2 R2 up2 ⊢
  have c1 := A2.top.cell (i := 1) rfl
  have c2 := A2.top.cell (i := 2) rfl
  have KA := Port.swapP _ p SP k st.ws hs st.ts (p2.drewN 1) (by omega) a tl num hn.1 hn.2
  unfold rd at hg
  rw [hg] at KA
  have HKA := Lib.hid KA
  clear KA hf hW2 ha1 hp1 hup0 R1 U2 h0 n0 m0 hg
  go_wp2_with fail
  go_region_held3 (fun w' => w'.cell? ⟨l, 1, none⟩ = some (.pointer (some ⟨p, 0, none⟩)) ∧ w'.cell? ⟨l, 2, none⟩ = some (.int .i64 tl)) ((first | exact ⟨c1, c2⟩ | exact ⟨q1, q2⟩ | exact ⟨r1, r2⟩))
    ((go_at_call 59; refine HKA.out.mono ?_; rintro e w5 ⟨rfl, hp5, u5⟩; have q1 := cell_upd u5 c1 hsep.1; have q2 := cell_upd u5 c2 hsep.1; have A5 := (A2.keep ((Upd.refl (fun _ => False) W2).drewN 1) id id id id).keep u5 hsep.1 hsep.2.1 hsep.2.2.1 hsep.2.2.2; have q4 := A5.c1 ht; have m5 := A5.plc.frozen (t * 2 + 1); have A6 := A5.setOther t ht g hgw; have r1 := A6.top.cell (i := 1) rfl; have r2 := A6.top.cell (i := 2) rfl))
  have U6 := Upd.one w5 pb (t * 2 + 1) (.int .u32 g)
  have RD := ((R2.drewN 1).upd u5 (fun e => hDn D (.inl e) rfl)).set_ne (fun e => hDn pb (by simp [ft]) e.symm) (t * 2 + 1) (.int .u32 g)
  have p6 := hp5.keep U6 (fun i hi e => hsep.2.2.2 (e ▸ hi))
  have up5 : Upd (ft l s lb pb SP) w (w5.setCell ⟨pb, t * 2 + 1, none⟩ (.int .u32 g)) := ((up2.drewN 1).trans (u5.mono fun i _ h => .inl h)).trans (U6.mono fun i _ e => (by rw [e]; simp [ft] : ft l s lb pb SP i))
  rw [ss _ _ HPL.out, List.set_set] at A6
  obtain ⟨w6, hw6⟩ : ∃ w6, w5.setCell ⟨pb, t * 2 + 1, none⟩ (.int .u32 g) = w6 := ⟨_, rfl⟩
  rw [hw6] at A6 RD p6 up5 ⊢
  have z1 := A6.c1 ht
  rw [ss _ _ HPL.out] at z1
  have y0 := RD.cell (i := 0) rfl
  have y1 := RD.cell (i := 1) rfl
  have y2 := RD.cell (i := 2) rfl
  have y3 := RD.cell (i := 3) rfl
  have f0 := RD.frozen 0
  have f1 := RD.frozen 1
  have f2 := RD.frozen 2
  have f3 := RD.frozen 3
  clear q1 q2 q4 m5 r1 r2 c1 c2 HKA A2 p2 R2 up2 u5 U6 hw6 A5
  by_cases hgn : g = 0
  · have E := E.out
    rw [if_pos hgn] at E
    have E := Lib.hid E
    subst hgn
    go_wp2_with fail
    obtain ⟨w8, hw8, RE, UE⟩ := did_end RD 1 true
    rw [hw8]
    have g0 := RE.cell (i := 0) rfl
    have g1 := RE.cell (i := 1) rfl
    have g2 := RE.cell (i := 2) rfl
    have g3 := RE.cell (i := 3) rfl
    refine bodyPost_ret (v := didv (1, true, false, false)) (by simp [results, Try.results39, go_sem, didv, g0, g1, g2, g3]) rfl ?_
    (try rw [E.out])
    refine ⟨rfl, ⟨A6.keepD UE hDn, p6.keep UE (fun i hi e => hDn i (.inl hi) e), ?_, hsep⟩, up5.then UE (fun i hi e => by have := HD.out; omega)⟩
    exact Nat.le_trans (Cache.after_len _ _ _ _ _ _) (by have := HFEW.out; omega)
  · have hgn' : (g == 0) = false := by simpa using hgn
    rw [if_neg hgn] at E
    clear hgn
    go_wp2_with fail
    obtain ⟨w8, hw8, RE, UE⟩ := did_end RD 0 true
    rw [hw8]
    have g0 := RE.cell (i := 0) rfl
    have g1 := RE.cell (i := 1) rfl
    have g2 := RE.cell (i := 2) rfl
    have g3 := RE.cell (i := 3) rfl
    refine bodyPost_ret (v := didv (0, true, false, false)) (by simp [results, Try.results39, go_sem, didv, g0, g1, g2, g3]) rfl ?_
    (try rw [E.out])
    refine ⟨rfl, ⟨A6.keepD UE hDn, p6.keep UE (fun i hi e => hDn i (.inl hi) e), ?_, hsep⟩, up5.then UE (fun i hi e => by have := HD.out; omega)⟩
    exact Nat.le_trans (Cache.after_len _ _ _ _ _ _) (by have := HFEW.out; omega)
theorem lockC {w : World} {b : Nat} {st : St} (h : O l s lb pb p SP k hs tl w b st) (hb : b < 1000000) (t : Nat) (ht : t < st.seats.length) (h64 : t < 1000) (a : Int) :
    Calls Try.prog 39 #[.pointer (some ⟨l, 0, none⟩), .pointer (some ⟨pb, t * 2, none⟩), .int .u32 ((t : Int) + 1), .int .i64 a] w fun e w' =>
      e = .returned (didv (lockS k tl st t a).1) ∧ O l s lb pb p SP k hs tl w' (b + 1) (lockS k tl st t a).2 ∧ Upd (ft l s lb pb SP) w w' := by
  have := (h.at_.ok t (by rw [h.at_.l1]; exact ht)).1
  by_cases e0 : (st.pls.getD t (0, 0)).1 = 0
  · exact lock0 h hb t ht h64 a e0
  by_cases e1 : (st.pls.getD t (0, 0)).1 = 1
  · exact lock1 h hb t ht h64 a e1
  by_cases e2 : (st.pls.getD t (0, 0)).1 = 2
  · exact lock2 h hb t ht h64 a e2
  by_cases e3 : (st.pls.getD t (0, 0)).1 = 3
  · exact lock3 h hb t ht h64 a e3
  exact lock4 h hb t ht h64 a (by omega)
end Go.Proofs.Ytemcpnickdcekaa.Mcs
