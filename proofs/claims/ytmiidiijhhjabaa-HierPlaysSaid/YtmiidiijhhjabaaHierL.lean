/- Package hier: lock and unlock, a step a theorem. -/
import Derived.Test.YtmiidiijhhjabaaHierN
import Derived.Test.YtmiidiijhhjabaaMPk
import Derived.Deep.RegionHeld3
namespace Go.Proofs.Ytmiidiijhhjabaa.Hier
open Go Go.RowKit Go.Proofs.Ytmiidiijhhjabaa.Heap Go.Proofs.Ytmiidiijhhjabaa.Open Go.Proofs.Ytmiidiijhhjabaa.Seat Go.Proofs.Ytmiidiijhhjabaa.Mach Go.Proofs.Ytmiidiijhhjabaa.Has Go.Proofs.Ytmiidiijhhjabaa.StepU Go.Proofs.Ytmiidiijhhjabaa.Cells
variable {l s lb pb cap p : Nat} {SP : Nat → Prop} {k : Nat} {hs : List Int} {tl : Int}
theorem did_end {w : World} {D : Nat} {a0 a1 a2 a3 : Value} (RD : Row w D [a0, a1, a2, a3]) (v0 v1 v2 v3 : Value) : ∃ w8, (((w.setCell ⟨D, 0, none⟩ v0).setCell ⟨D, 1, none⟩ v1).setCell ⟨D, 2, none⟩ v2).setCell ⟨D, 3, none⟩ v3 = w8 ∧ Row w8 D [v0, v1, v2, v3] ∧ Upd (fun i => i = D) w w8 :=
  ⟨_, rfl, did4 RD _ _ _ _, upd4 w D _ _ _ _⟩
set_option maxHeartbeats 2000000 in
theorem grantedC {w : World} {pv : Value} {sl : List (Int × Int)} {pl : List P} (h : At w l s lb pb cap pv tl sl pl) (t : Nat) (ht : t < sl.length) (lead : Bool) :
    Calls Try.prog 56 #[.pointer (some ⟨pb, t * 6, none⟩), .bool lead] w fun e w' => e = .returned (didv (1, false, false, lead)) ∧ At w' l s lb pb cap pv tl sl (pl.set t { (pl.getD t p0) with s := 0 }) ∧ Upd (fun i => i = pb) w w' := by
  have ha1 := h.keep ((Upd.refl (fun _ => False) w).alloc (.cells #[.int .i64 0, .bool false, .bool false, .bool false] 50)) id id id id
  have R1 : Row (w.alloc (.cells #[.int .i64 0, .bool false, .bool false, .bool false] 50)) w.heap.size [.int .i64 0, .bool false, .bool false, .bool false] := Row.new' rfl
  have hup : Upd (fun i => i = pb) w (w.alloc (.cells #[.int .i64 0, .bool false, .bool false, .bool false] 50)) := (Upd.refl _ _).alloc _
  have x5 := ha1.cell ht 5 (by decide) _ rfl
  have m5 := ha1.plc.frozen (t * 6 + 5)
  have hpl := h.plc.lt
  have hl := h.top.lt
  have hs1 := h.seat.top.lt
  have hs2 := h.seat.row.lt
  have hok := h.ok t (by rw [h.l1]; exact ht)
  have A6 := h.setP ht 5 (by decide) (.int .i64 0) { (pl.getD t p0) with s := 0 } rfl ⟨hok.1, hok.2.1, hok.2.2.1, hok.2.2.2.1, hok.2.2.2.2.1, (by decide : (0 : Int) ≤ 0), (by decide : (0 : Int) ≤ 7)⟩
  have U6 := Upd.one w pb (t * 6 + 5) (.int .i64 0)
  have hz : (w.setCell ⟨pb, t * 6 + 5, none⟩ (.int .i64 0)).heap.size = w.heap.size := by simp [World.setCell]
  have y0 := R1.cell (i := 0) rfl
  have y1 := R1.cell (i := 1) rfl
  have y2 := R1.cell (i := 2) rfl
  have y3 := R1.cell (i := 3) rfl
  have f0 := R1.frozen 0
  have f1 := R1.frozen 1
  have f2 := R1.frozen 2
  have f3 := R1.frozen 3
  have hne : pb ≠ w.heap.size := by omega
  clear ha1 R1 hup hok
  go_enter Try.func56, Try.ntmps56
  go_wp2_with fail
  have RE : Row ((w.setCell ⟨pb, t * 6 + 5, none⟩ (.int .i64 0)).alloc (.cells #[.int .i64 1, .bool false, .bool false, .bool lead] 50)) w.heap.size [.int .i64 1, .bool false, .bool false, .bool lead] := Row.new' hz.symm
  have g0 := RE.cell (i := 0) rfl
  have g1 := RE.cell (i := 1) rfl
  have g2 := RE.cell (i := 2) rfl
  have g3 := RE.cell (i := 3) rfl
  refine bodyPost_ret (v := didv (1, false, false, lead)) (by simp [results, Try.results56, go_sem, didv, g0, g1, g2, g3]) rfl ?_
  refine ⟨rfl, ?_, U6.alloc _⟩
  have A8 := A6.keep ((Upd.refl (fun _ => False) _).alloc (.cells #[.int .i64 1, .bool false, .bool false, .bool lead] 50)) id id id id
  simpa using A8
set_option maxHeartbeats 8000000 in
set_option maxRecDepth 20000 in
theorem lock0 {w : World} {b : Nat} {st : St} (h : O l s lb pb cap p SP k hs tl w b st) (hb : b < 1000000) (t : Nat) (ht : t < st.seats.length) (a : Int) (h0 : (st.pls.getD t p0).s = 0) :
    Calls Try.prog 38 #[.pointer (some ⟨l, 0, none⟩), .pointer (some ⟨pb, t * 6, none⟩), .int .i64 a] w fun e w' =>
      e = .returned (didv (lockS k tl st t a).1) ∧ O l s lb pb cap p SP k hs tl w' (b + 1) (lockS k tl st t a).2 ∧ Upd (ft l s lb pb SP) w w' := by
  obtain ⟨ha, hp, hf, hsep⟩ := h
  have hup0 : Upd (ft l s lb pb SP) w (w.alloc (.cells #[.int .i64 0, .bool false, .bool false, .bool false] 50)) := (Upd.refl _ _).alloc _
  have ha1 := ha.keep ((Upd.refl (fun _ => False) w).alloc (.cells #[.int .i64 0, .bool false, .bool false, .bool false] 50)) id id id id
  have hp1 := hp.alloc (.cells #[.int .i64 0, .bool false, .bool false, .bool false] 50)
  have R1 : Row (w.alloc (.cells #[.int .i64 0, .bool false, .bool false, .bool false] 50)) w.heap.size [.int .i64 0, .bool false, .bool false, .bool false] := Row.new' rfl
  obtain ⟨D, hD⟩ : ∃ D, w.heap.size = D := ⟨_, rfl⟩
  have hlD : ∀ i, ft l s lb pb SP i → i < D := by
    intro i hi
    rw [← hD]
    rcases hi with hi | rfl | rfl | rfl | rfl
    · obtain ⟨_, hl⟩ := hp; exact hl i hi
    · exact ha.top.lt
    · exact ha.seat.top.lt
    · exact ha.seat.row.lt
    · exact ha.plc.lt
  have HD := Lib.hid hD
  obtain ⟨W, hW⟩ : ∃ W, w.alloc (.cells #[.int .i64 0, .bool false, .bool false, .bool false] 50) = W := ⟨_, rfl⟩
  rw [hD] at R1
  rw [hW] at hup0 ha1 hp1 R1
  have HW := Lib.hid hW
  clear hD hW ha hp
  have hDn : ∀ i, ft l s lb pb SP i → i ≠ D := fun i hi e => by have := hlD i hi; omega
  have tl0 := ha1.tl0
  obtain ⟨x, hx⟩ : ∃ y, st.pls.getD t p0 = y := ⟨_, rfl⟩
  have hok := ha1.ok t (by rw [ha1.l1]; exact ht)
  have HFEW := Lib.hid hf
  have k2 := ha1.top.cell (i := 2) rfl
  have k0 := ha1.cell ht 0 (by decide) _ rfl
  have k5 := ha1.cell ht 5 (by decide) _ rfl
  rw [hx] at hok h0 k0 k5
  rw [Nat.add_zero] at k0
  obtain ⟨⟨o1, o2⟩, ⟨o3, o4⟩, ⟨o5, o6⟩, ⟨o7, o8⟩, ⟨o9, o10⟩, o11, o12⟩ := hok
  have hw1 : IntKind.i64.wrap (tl + 1) = tl + 1 := IntWalk.i64_in _ (by omega)
  have hw2 : IntKind.i64.wrap (tl + 1 + x.c) = tl + 1 + x.c := IntWalk.i64_in _ (by omega)
  rw [h0] at k5
  go_enter Try.func38, Try.ntmps38
  go_upto_region 1 with (fail)
  rw [HW.out, HD.out]
  go_quiet (fail)
  have ha2 := ha1.keep ((Upd.refl (fun _ => False) W).drewN nq) id id id id
  have hp2 := hp1.drewN nq
  have R2 := R1.drewN nq
  have up2 := hup0.drewN nq
  obtain ⟨W', hW'⟩ : ∃ W', W.drewN nq = W' := ⟨_, rfl⟩
  rw [hW'] at ha2 hp2 R2 up2 ⊢
  clear hW' k2 k0 k5 ha1 hp1 R1 hup0 hw1 hw2
  have c1 := ha2.top.cell (i := 1) rfl
  have c2 := ha2.top.cell (i := 2) rfl
  have x0 := ha2.cell ht 0 (by decide) _ rfl
  have x1 := ha2.cell ht 1 (by decide) _ rfl
  have x2 := ha2.cell ht 2 (by decide) _ rfl
  have x3 := ha2.cell ht 3 (by decide) _ rfl
  have x4 := ha2.cell ht 4 (by decide) _ rfl
  have x5 := ha2.cell ht 5 (by decide) _ rfl
  rw [hx] at x0 x1 x2 x3 x4 x5
  rw [Nat.add_zero] at x0
  rw [h0] at x5
  have htp : t < st.pls.length := by rw [ha2.l1]; exact ht
  have HTP := Lib.hid htp
  have HX := Lib.hid hx
  have hd2 := ha2.keep ((Upd.refl (fun _ => False) W').drewN 1) id id id id
  clear htp
  have E := Lib.hid (show lockS k tl st t a = ((0, false, false, false), { st with pls := st.pls.set t { x with s := 1 }, ws := wrt k st.ws a (nodeA tl x.n) (x.c * 4 + 2), ts := Cache.after k st.ws.length st.ts a (nodeA tl x.n) true }) by unfold lockS ownA; rw [hx]; dsimp only; rw [if_pos h0])
  have KN := atC (W'.drewN 1) c2 tl0 x.n ⟨o3, o4⟩
  obtain ⟨nv, hnv⟩ : ∃ nv, nodeA tl x.n = nv := ⟨_, rfl⟩
  have hna : -1 ≤ nv ∧ nv ≤ 10000000000 := by rw [← hnv]; unfold nodeA; omega
  have KP := fun w => Pack.pack_to x.c true false w (x.c * 4 + 2) (by unfold Pack.clamp Pack.b2; rw [if_neg (by omega), if_neg (by omega)]; simp)
  have HKP := Lib.hid KP
  rw [hnv] at KN E
  have KA := Port.storeP _ p SP k st.ws hs st.ts (hp2.drewN 1) (by omega) a nv (x.c * 4 + 2) (by omega) (by omega)
  have HKN := Lib.hid KN
  have HKA := Lib.hid KA
  clear KN KP KA hnv hx
  go_upto_block 0 with (fail)
  go_wp2_with fail
  go_region_held3 (fun w' => w'.cell? ⟨l, 1, none⟩ = some (.pointer (some ⟨p, 0, none⟩)) ∧ w'.cell? ⟨pb, t * 6, none⟩ = some (.int .i64 x.c) ∧ w'.cell? ⟨pb, t * 6 + 1, none⟩ = some (.int .i64 x.n)) ((first | exact ⟨c1, x0, x1⟩ | exact ⟨qc1, qx0, qx1⟩))
    ((first | (go_at_call 50; refine HKN.out.mono ?_; rintro e w4 ⟨rfl, rfl⟩) | (go_at_call 33; refine (HKP.out _).mono ?_; rintro e w4 ⟨rfl, rfl⟩) | (go_at_call 49; refine HKA.out.mono ?_; rintro e w5 ⟨rfl, hp5, u5⟩; have qc1 := cell_upd u5 c1 hsep.1; have qx0 := cell_upd u5 x0 hsep.2.2.2; have qx1 := cell_upd u5 x1 hsep.2.2.2)))
  have A5 := hd2.keep u5 hsep.1 hsep.2.1 hsep.2.2.1 hsep.2.2.2
  have R5 := (R2.drewN 1).upd u5 (fun e => hDn D (.inl e) rfl)
  have up5 : Upd (ft l s lb pb SP) w w5 := (up2.drewN 1).trans (u5.mono fun i _ h => .inl h)
  have p5 := hp5
  clear qc1 qx0 qx1 HKA HKN HKP R2 c1 c2 x0 x1 x2 x3 x4 x5 ha2 hd2 hp2 up2 u5 hp5
  have v5 := A5.cell ht 5 (by decide) _ rfl
  have fv5 := A5.plc.frozen (t * 6 + 5)
  rw [HX.out] at v5
  have A6 := A5.setP ht 5 (by decide) (.int .i64 1) { x with s := 1 } (by rw [HX.out]; rfl) ⟨⟨o1, o2⟩, ⟨o3, o4⟩, ⟨o5, o6⟩, ⟨o7, o8⟩, ⟨o9, o10⟩, ⟨(by decide : (0 : Int) ≤ 1), (by decide : (1 : Int) ≤ 7)⟩⟩
  have U6 := Upd.one w5 pb (t * 6 + 5) (.int .i64 1)
  have R6 := R5.set_ne (fun e => hDn pb (by simp [ft]) e.symm) (t * 6 + 5) (.int .i64 1)
  have p6 := p5.keep U6 (fun i hi e => hsep.2.2.2 (e ▸ hi))
  have up6 := up5.trans (U6.mono fun i _ e => (by rw [e]; simp [ft] : ft l s lb pb SP i))
  go_upto_region 35 with (fail)
  obtain ⟨w6, hw6⟩ : ∃ w', w5.setCell ⟨pb, t * 6 + 5, none⟩ (.int .i64 1) = w' := ⟨_, rfl⟩
  rw [hw6] at A6 R6 p6 up6 ⊢
  clear hw6 A5 R5 p5 up5 U6 v5 fv5
  have y0 := R6.cell (i := 0) rfl
  have y1 := R6.cell (i := 1) rfl
  have y2 := R6.cell (i := 2) rfl
  have y3 := R6.cell (i := 3) rfl
  have f0 := R6.frozen 0
  have f1 := R6.frozen 1
  have f2 := R6.frozen 2
  have f3 := R6.frozen 3
  go_wp2_with fail
  obtain ⟨w8, hw8, RE, UE⟩ := did_end R6 (.int .i64 0) (.bool false) (.bool false) (.bool false)
  rw [hw8]
  have g0 := RE.cell (i := 0) rfl
  have g1 := RE.cell (i := 1) rfl
  have g2 := RE.cell (i := 2) rfl
  have g3 := RE.cell (i := 3) rfl
  refine bodyPost_ret (v := didv (0, false, false, false)) (by simp [results, Try.results38, go_sem, didv, g0, g1, g2, g3]) rfl ?_
  rw [E.out]
  refine ⟨rfl, ⟨A6.keepD UE hDn, p6.keep UE (fun i hi e => hDn i (.inl hi) e), ?_, hsep⟩, up6.then UE (fun i hi e => by have := HD.out; omega)⟩
  exact Nat.le_trans (Cache.after_len _ _ _ _ _ _) (by have := HFEW.out; omega)
set_option maxHeartbeats 8000000 in
set_option maxRecDepth 20000 in
theorem lock1z {w : World} {b : Nat} {st : St} (h : O l s lb pb cap p SP k hs tl w b st) (hb : b < 1000000) (t : Nat) (ht : t < st.seats.length) (a : Int) (h0 : (st.pls.getD t p0).s = 1) (hg0 : rd k st.ws a (ownA tl (st.pls.getD t p0).c) = 0) :
    Calls Try.prog 38 #[.pointer (some ⟨l, 0, none⟩), .pointer (some ⟨pb, t * 6, none⟩), .int .i64 a] w fun e w' =>
      e = .returned (didv (lockS k tl st t a).1) ∧ O l s lb pb cap p SP k hs tl w' (b + 1) (lockS k tl st t a).2 ∧ Upd (ft l s lb pb SP) w w' := by
  obtain ⟨ha, hp, hf, hsep⟩ := h
  have hup0 : Upd (ft l s lb pb SP) w (w.alloc (.cells #[.int .i64 0, .bool false, .bool false, .bool false] 50)) := (Upd.refl _ _).alloc _
  have ha1 := ha.keep ((Upd.refl (fun _ => False) w).alloc (.cells #[.int .i64 0, .bool false, .bool false, .bool false] 50)) id id id id
  have hp1 := hp.alloc (.cells #[.int .i64 0, .bool false, .bool false, .bool false] 50)
  have R1 : Row (w.alloc (.cells #[.int .i64 0, .bool false, .bool false, .bool false] 50)) w.heap.size [.int .i64 0, .bool false, .bool false, .bool false] := Row.new' rfl
  obtain ⟨D, hD⟩ : ∃ D, w.heap.size = D := ⟨_, rfl⟩
  have hlD : ∀ i, ft l s lb pb SP i → i < D := by
    intro i hi
    rw [← hD]
    rcases hi with hi | rfl | rfl | rfl | rfl
    · obtain ⟨_, hl⟩ := hp; exact hl i hi
    · exact ha.top.lt
    · exact ha.seat.top.lt
    · exact ha.seat.row.lt
    · exact ha.plc.lt
  have HD := Lib.hid hD
  obtain ⟨W, hW⟩ : ∃ W, w.alloc (.cells #[.int .i64 0, .bool false, .bool false, .bool false] 50) = W := ⟨_, rfl⟩
  rw [hD] at R1
  rw [hW] at hup0 ha1 hp1 R1
  have HW := Lib.hid hW
  clear hD hW ha hp
  have hDn : ∀ i, ft l s lb pb SP i → i ≠ D := fun i hi e => by have := hlD i hi; omega
  have tl0 := ha1.tl0
  obtain ⟨x, hx⟩ : ∃ y, st.pls.getD t p0 = y := ⟨_, rfl⟩
  have hok := ha1.ok t (by rw [ha1.l1]; exact ht)
  have HFEW := Lib.hid hf
  have k2 := ha1.top.cell (i := 2) rfl
  have k0 := ha1.cell ht 0 (by decide) _ rfl
  have k5 := ha1.cell ht 5 (by decide) _ rfl
  rw [hx] at hok h0 hg0 k0 k5
  rw [Nat.add_zero] at k0
  obtain ⟨⟨o1, o2⟩, ⟨o3, o4⟩, ⟨o5, o6⟩, ⟨o7, o8⟩, ⟨o9, o10⟩, o11, o12⟩ := hok
  have hw1 : IntKind.i64.wrap (tl + 1) = tl + 1 := IntWalk.i64_in _ (by omega)
  have hw2 : IntKind.i64.wrap (tl + 1 + x.c) = tl + 1 + x.c := IntWalk.i64_in _ (by omega)
  rw [h0] at k5
  go_enter Try.func38, Try.ntmps38
  go_upto_region 1 with (fail)
  rw [HW.out, HD.out]
  go_quiet (fail)
  have ha2 := ha1.keep ((Upd.refl (fun _ => False) W).drewN nq) id id id id
  have hp2 := hp1.drewN nq
  have R2 := R1.drewN nq
  have up2 := hup0.drewN nq
  obtain ⟨W', hW'⟩ : ∃ W', W.drewN nq = W' := ⟨_, rfl⟩
  rw [hW'] at ha2 hp2 R2 up2 ⊢
  clear hW' k2 k0 k5 ha1 hp1 R1 hup0 hw1 hw2
  have c1 := ha2.top.cell (i := 1) rfl
  have c2 := ha2.top.cell (i := 2) rfl
  have x0 := ha2.cell ht 0 (by decide) _ rfl
  have x1 := ha2.cell ht 1 (by decide) _ rfl
  have x2 := ha2.cell ht 2 (by decide) _ rfl
  have x3 := ha2.cell ht 3 (by decide) _ rfl
  have x4 := ha2.cell ht 4 (by decide) _ rfl
  have x5 := ha2.cell ht 5 (by decide) _ rfl
  rw [hx] at x0 x1 x2 x3 x4 x5
  rw [Nat.add_zero] at x0
  rw [h0] at x5
  have htp : t < st.pls.length := by rw [ha2.l1]; exact ht
  have HTP := Lib.hid htp
  have HX := Lib.hid hx
  have hd2 := ha2.keep ((Upd.refl (fun _ => False) W').drewN 1) id id id id
  clear htp
  have hga : ownA tl x.c = tl + 1 + x.c := rfl
  rw [hga] at hg0
  have E := Lib.hid (show lockS k tl st t a = ((0, true, false, false), { st with pls := st.pls.set t { x with a := rd k st.ws a (tl + 1 + x.c), s := 3 }, ws := wrt k st.ws a (tl + 1 + x.c) x.n, ts := Cache.after k st.ws.length st.ts a (tl + 1 + x.c) true }) by unfold lockS ownA; rw [hx]; dsimp only; rw [if_neg (by omega), if_pos h0, if_pos hg0])
  obtain ⟨g, hg⟩ : ∃ g, rd k st.ws a (tl + 1 + x.c) = g := ⟨_, rfl⟩
  have hgr : 0 ≤ g ∧ g < 4294967296 := by rw [← hg]; exact rd_wd hp2.wd _ _ _
  rw [hg] at E
  rw [hg] at hg0
  have KA := Port.swapP _ p SP k st.ws hs st.ts (hp2.drewN 1) (by omega) a (tl + 1 + x.c) x.n (by omega) (by omega)
  rw [show (if Mem.inB a k = true then Mem.get st.ws (tl + 1 + x.c) else 0) = g from hg] at KA
  have HKA := Lib.hid KA
  have hgw : IntKind.i64.wrap g = g := IntWalk.i64_in _ (by omega)
  have hnw : IntKind.u32.wrap x.n = x.n := by rw [show IntKind.u32.wrap x.n = x.n % 4294967296 from rfl]; omega
  have HG0 := Lib.hid hg0
  clear KA hg hx hga hg0
  go_upto_block 0 with (fail)
  go_wp2_with fail
  go_region_held3 (fun w' => w'.cell? ⟨l, 1, none⟩ = some (.pointer (some ⟨p, 0, none⟩)) ∧ w'.cell? ⟨pb, t * 6 + 1, none⟩ = some (.int .i64 x.n)) ((first | exact ⟨c1, x1⟩ | exact ⟨qc1, qx1⟩ | exact ⟨rc1, rx1⟩))
    ((first | (go_at_call 51; refine HKA.out.mono ?_; rintro e w5 ⟨rfl, hp5, u5⟩; have qc1 := cell_upd u5 c1 hsep.1; have qx1 := cell_upd u5 x1 hsep.2.2.2; have qx2 := cell_upd u5 x2 hsep.2.2.2; have B5 := hd2.keep u5 hsep.1 hsep.2.1 hsep.2.2.1 hsep.2.2.2; have m2 := B5.plc.frozen (t * 6 + 2); have B6 := B5.setP ht 2 (by decide) (.int .i64 g) { x with a := g } (by rw [HX.out]; rfl) ⟨⟨o1, o2⟩, ⟨o3, o4⟩, hgr, ⟨o7, o8⟩, ⟨o9, o10⟩, ⟨o11, o12⟩⟩; have rc1 := B6.top.cell (i := 1) rfl; have rx1 : (w5.setCell ⟨pb, t * 6 + 2, none⟩ (.int .i64 g)).cell? ⟨pb, t * 6 + 1, none⟩ = some (.int .i64 x.n) := by have r0 := B6.cell ht 1 (by decide) _ rfl; rw [pl_set _ _ HTP.out, if_pos rfl] at r0; exact r0)))
  have A5 := hd2.keep u5 hsep.1 hsep.2.1 hsep.2.2.1 hsep.2.2.2
  have R5 := (R2.drewN 1).upd u5 (fun e => hDn D (.inl e) rfl)
  have up5 : Upd (ft l s lb pb SP) w w5 := (up2.drewN 1).trans (u5.mono fun i _ h => .inl h)
  have p5 := hp5
  clear qc1 qx1 qx2 rc1 rx1 m2 B5 B6 HKA hnw R2 c1 c2 x0 x1 x2 x3 x4 x5 ha2 hd2 hp2 up2 u5 hp5
  have A6 := A5.setP ht 2 (by decide) (.int .i64 g) { x with a := g } (by rw [HX.out]; rfl) ⟨⟨o1, o2⟩, ⟨o3, o4⟩, hgr, ⟨o7, o8⟩, ⟨o9, o10⟩, ⟨o11, o12⟩⟩
  have U6 := Upd.one w5 pb (t * 6 + 2) (.int .i64 g)
  have R6 := R5.set_ne (fun e => hDn pb (by simp [ft]) e.symm) (t * 6 + 2) (.int .i64 g)
  have p6 := p5.keep U6 (fun i hi e => hsep.2.2.2 (e ▸ hi))
  have up6 := up5.trans (U6.mono fun i _ e => (by rw [e]; simp [ft] : ft l s lb pb SP i))
  obtain ⟨w6, hw6⟩ : ∃ w', w5.setCell ⟨pb, t * 6 + 2, none⟩ (.int .i64 g) = w' := ⟨_, rfl⟩
  rw [hw6] at A6 R6 p6 up6 ⊢
  clear hw6 A5 R5 p5 up5 U6
  have v5 := A6.cell ht 5 (by decide) _ rfl
  have fv5 := A6.plc.frozen (t * 6 + 5)
  rw [pl_set _ _ HTP.out, if_pos rfl] at v5
  have v2 := A6.cell ht 2 (by decide) _ rfl
  rw [pl_set _ _ HTP.out, if_pos rfl] at v2
  have A7 := A6.setP ht 5 (by decide) (.int .i64 2) { x with a := g, s := 2 } (by rw [pl_set _ _ HTP.out, if_pos rfl]; rfl) ⟨⟨o1, o2⟩, ⟨o3, o4⟩, hgr, ⟨o7, o8⟩, ⟨o9, o10⟩, ⟨(by decide : (0 : Int) ≤ 2), (by decide : (2 : Int) ≤ 7)⟩⟩
  rw [List.set_set] at A7
  have U7 := Upd.one w6 pb (t * 6 + 5) (.int .i64 2)
  have R7 := R6.set_ne (fun e => hDn pb (by simp [ft]) e.symm) (t * 6 + 5) (.int .i64 2)
  have p7 := p6.keep U7 (fun i hi e => hsep.2.2.2 (e ▸ hi))
  have up7 := up6.trans (U7.mono fun i _ e => (by rw [e]; simp [ft] : ft l s lb pb SP i))
  go_upto_region 9 with (fail)
  obtain ⟨w7, hw7⟩ : ∃ w', w6.setCell ⟨pb, t * 6 + 5, none⟩ (.int .i64 2) = w' := ⟨_, rfl⟩
  rw [hw7] at A7 R7 p7 up7 ⊢
  clear hw7 A6 R6 p6 up6 U7 v5 fv5 v2
  have v2 := A7.cell ht 2 (by decide) _ rfl
  rw [pl_set _ _ HTP.out, if_pos rfl] at v2
  have hg0 := HG0.out
  subst hg0
  have v5 := A7.cell ht 5 (by decide) _ rfl
  have fv5 := A7.plc.frozen (t * 6 + 5)
  rw [pl_set _ _ HTP.out, if_pos rfl] at v5
  have A9 := A7.setP ht 5 (by decide) (.int .i64 3) { x with a := 0, s := 3 } (by rw [pl_set _ _ HTP.out, if_pos rfl]; rfl) ⟨⟨o1, o2⟩, ⟨o3, o4⟩, ⟨(by decide : (0 : Int) ≤ 0), (by decide : (0 : Int) < 4294967296)⟩, ⟨o7, o8⟩, ⟨o9, o10⟩, ⟨(by decide : (0 : Int) ≤ 3), (by decide : (3 : Int) ≤ 7)⟩⟩
  rw [List.set_set] at A9
  have U9 := Upd.one w7 pb (t * 6 + 5) (.int .i64 3)
  have R9 := R7.set_ne (fun e => hDn pb (by simp [ft]) e.symm) (t * 6 + 5) (.int .i64 3)
  have p9 := p7.keep U9 (fun i hi e => hsep.2.2.2 (e ▸ hi))
  have up9 := up7.trans (U9.mono fun i _ e => (by rw [e]; simp [ft] : ft l s lb pb SP i))
  go_upto_region 11 with (fail)
  obtain ⟨w9, hw9⟩ : ∃ w', w7.setCell ⟨pb, t * 6 + 5, none⟩ (.int .i64 3) = w' := ⟨_, rfl⟩
  rw [hw9] at A9 R9 p9 up9 ⊢
  clear hw9 A7 R7 p7 up7 U9 v5 fv5 v2
  have y0 := R9.cell (i := 0) rfl
  have y1 := R9.cell (i := 1) rfl
  have y2 := R9.cell (i := 2) rfl
  have y3 := R9.cell (i := 3) rfl
  have f0 := R9.frozen 0
  have f1 := R9.frozen 1
  have f2 := R9.frozen 2
  have f3 := R9.frozen 3
  go_wp2_with fail
  obtain ⟨w8, hw8, RE, UE⟩ := did_end R9 (.int .i64 0) (.bool true) (.bool false) (.bool false)
  rw [hw8]
  have g0 := RE.cell (i := 0) rfl
  have g1 := RE.cell (i := 1) rfl
  have g2 := RE.cell (i := 2) rfl
  have g3 := RE.cell (i := 3) rfl
  refine bodyPost_ret (v := didv (0, true, false, false)) (by simp [results, Try.results38, go_sem, didv, g0, g1, g2, g3]) rfl ?_
  rw [E.out]
  refine ⟨rfl, ⟨A9.keepD UE hDn, p9.keep UE (fun i hi e => hDn i (.inl hi) e), ?_, hsep⟩, up9.then UE (fun i hi e => by have := HD.out; omega)⟩
  exact Nat.le_trans (Cache.after_len _ _ _ _ _ _) (by have := HFEW.out; omega)
set_option maxHeartbeats 8000000 in
set_option maxRecDepth 20000 in
theorem lock1n {w : World} {b : Nat} {st : St} (h : O l s lb pb cap p SP k hs tl w b st) (hb : b < 1000000) (t : Nat) (ht : t < st.seats.length) (a : Int) (h0 : (st.pls.getD t p0).s = 1) (hg0 : ¬ rd k st.ws a (ownA tl (st.pls.getD t p0).c) = 0) :
    Calls Try.prog 38 #[.pointer (some ⟨l, 0, none⟩), .pointer (some ⟨pb, t * 6, none⟩), .int .i64 a] w fun e w' =>
      e = .returned (didv (lockS k tl st t a).1) ∧ O l s lb pb cap p SP k hs tl w' (b + 1) (lockS k tl st t a).2 ∧ Upd (ft l s lb pb SP) w w' := by
  obtain ⟨ha, hp, hf, hsep⟩ := h
  have hup0 : Upd (ft l s lb pb SP) w (w.alloc (.cells #[.int .i64 0, .bool false, .bool false, .bool false] 50)) := (Upd.refl _ _).alloc _
  have ha1 := ha.keep ((Upd.refl (fun _ => False) w).alloc (.cells #[.int .i64 0, .bool false, .bool false, .bool false] 50)) id id id id
  have hp1 := hp.alloc (.cells #[.int .i64 0, .bool false, .bool false, .bool false] 50)
  have R1 : Row (w.alloc (.cells #[.int .i64 0, .bool false, .bool false, .bool false] 50)) w.heap.size [.int .i64 0, .bool false, .bool false, .bool false] := Row.new' rfl
  obtain ⟨D, hD⟩ : ∃ D, w.heap.size = D := ⟨_, rfl⟩
  have hlD : ∀ i, ft l s lb pb SP i → i < D := by
    intro i hi
    rw [← hD]
    rcases hi with hi | rfl | rfl | rfl | rfl
    · obtain ⟨_, hl⟩ := hp; exact hl i hi
    · exact ha.top.lt
    · exact ha.seat.top.lt
    · exact ha.seat.row.lt
    · exact ha.plc.lt
  have HD := Lib.hid hD
  obtain ⟨W, hW⟩ : ∃ W, w.alloc (.cells #[.int .i64 0, .bool false, .bool false, .bool false] 50) = W := ⟨_, rfl⟩
  rw [hD] at R1
  rw [hW] at hup0 ha1 hp1 R1
  have HW := Lib.hid hW
  clear hD hW ha hp
  have hDn : ∀ i, ft l s lb pb SP i → i ≠ D := fun i hi e => by have := hlD i hi; omega
  have tl0 := ha1.tl0
  obtain ⟨x, hx⟩ : ∃ y, st.pls.getD t p0 = y := ⟨_, rfl⟩
  have hok := ha1.ok t (by rw [ha1.l1]; exact ht)
  have HFEW := Lib.hid hf
  have k2 := ha1.top.cell (i := 2) rfl
  have k0 := ha1.cell ht 0 (by decide) _ rfl
  have k5 := ha1.cell ht 5 (by decide) _ rfl
  rw [hx] at hok h0 hg0 k0 k5
  rw [Nat.add_zero] at k0
  obtain ⟨⟨o1, o2⟩, ⟨o3, o4⟩, ⟨o5, o6⟩, ⟨o7, o8⟩, ⟨o9, o10⟩, o11, o12⟩ := hok
  have hw1 : IntKind.i64.wrap (tl + 1) = tl + 1 := IntWalk.i64_in _ (by omega)
  have hw2 : IntKind.i64.wrap (tl + 1 + x.c) = tl + 1 + x.c := IntWalk.i64_in _ (by omega)
  rw [h0] at k5
  go_enter Try.func38, Try.ntmps38
  go_upto_region 1 with (fail)
  rw [HW.out, HD.out]
  go_quiet (fail)
  have ha2 := ha1.keep ((Upd.refl (fun _ => False) W).drewN nq) id id id id
  have hp2 := hp1.drewN nq
  have R2 := R1.drewN nq
  have up2 := hup0.drewN nq
  obtain ⟨W', hW'⟩ : ∃ W', W.drewN nq = W' := ⟨_, rfl⟩
  rw [hW'] at ha2 hp2 R2 up2 ⊢
  clear hW' k2 k0 k5 ha1 hp1 R1 hup0 hw1 hw2
  have c1 := ha2.top.cell (i := 1) rfl
  have c2 := ha2.top.cell (i := 2) rfl
  have x0 := ha2.cell ht 0 (by decide) _ rfl
  have x1 := ha2.cell ht 1 (by decide) _ rfl
  have x2 := ha2.cell ht 2 (by decide) _ rfl
  have x3 := ha2.cell ht 3 (by decide) _ rfl
  have x4 := ha2.cell ht 4 (by decide) _ rfl
  have x5 := ha2.cell ht 5 (by decide) _ rfl
  rw [hx] at x0 x1 x2 x3 x4 x5
  rw [Nat.add_zero] at x0
  rw [h0] at x5
  have htp : t < st.pls.length := by rw [ha2.l1]; exact ht
  have HTP := Lib.hid htp
  have HX := Lib.hid hx
  have hd2 := ha2.keep ((Upd.refl (fun _ => False) W').drewN 1) id id id id
  clear htp
  have hga : ownA tl x.c = tl + 1 + x.c := rfl
  rw [hga] at hg0
  have E := Lib.hid (show lockS k tl st t a = ((0, true, false, false), { st with pls := st.pls.set t { x with a := rd k st.ws a (tl + 1 + x.c), s := 2 }, ws := wrt k st.ws a (tl + 1 + x.c) x.n, ts := Cache.after k st.ws.length st.ts a (tl + 1 + x.c) true }) by unfold lockS ownA; rw [hx]; dsimp only; rw [if_neg (by omega), if_pos h0, if_neg hg0])
  obtain ⟨g, hg⟩ : ∃ g, rd k st.ws a (tl + 1 + x.c) = g := ⟨_, rfl⟩
  have hgr : 0 ≤ g ∧ g < 4294967296 := by rw [← hg]; exact rd_wd hp2.wd _ _ _
  rw [hg] at E
  rw [hg] at hg0
  have KA := Port.swapP _ p SP k st.ws hs st.ts (hp2.drewN 1) (by omega) a (tl + 1 + x.c) x.n (by omega) (by omega)
  rw [show (if Mem.inB a k = true then Mem.get st.ws (tl + 1 + x.c) else 0) = g from hg] at KA
  have HKA := Lib.hid KA
  have hgw : IntKind.i64.wrap g = g := IntWalk.i64_in _ (by omega)
  have hnw : IntKind.u32.wrap x.n = x.n := by rw [show IntKind.u32.wrap x.n = x.n % 4294967296 from rfl]; omega
  have HG0 := Lib.hid hg0
  clear KA hg hx hga hg0
  go_upto_block 0 with (fail)
  go_wp2_with fail
  go_region_held3 (fun w' => w'.cell? ⟨l, 1, none⟩ = some (.pointer (some ⟨p, 0, none⟩)) ∧ w'.cell? ⟨pb, t * 6 + 1, none⟩ = some (.int .i64 x.n)) ((first | exact ⟨c1, x1⟩ | exact ⟨qc1, qx1⟩ | exact ⟨rc1, rx1⟩))
    ((first | (go_at_call 51; refine HKA.out.mono ?_; rintro e w5 ⟨rfl, hp5, u5⟩; have qc1 := cell_upd u5 c1 hsep.1; have qx1 := cell_upd u5 x1 hsep.2.2.2; have qx2 := cell_upd u5 x2 hsep.2.2.2; have B5 := hd2.keep u5 hsep.1 hsep.2.1 hsep.2.2.1 hsep.2.2.2; have m2 := B5.plc.frozen (t * 6 + 2); have B6 := B5.setP ht 2 (by decide) (.int .i64 g) { x with a := g } (by rw [HX.out]; rfl) ⟨⟨o1, o2⟩, ⟨o3, o4⟩, hgr, ⟨o7, o8⟩, ⟨o9, o10⟩, ⟨o11, o12⟩⟩; have rc1 := B6.top.cell (i := 1) rfl; have rx1 : (w5.setCell ⟨pb, t * 6 + 2, none⟩ (.int .i64 g)).cell? ⟨pb, t * 6 + 1, none⟩ = some (.int .i64 x.n) := by have r0 := B6.cell ht 1 (by decide) _ rfl; rw [pl_set _ _ HTP.out, if_pos rfl] at r0; exact r0)))
  have A5 := hd2.keep u5 hsep.1 hsep.2.1 hsep.2.2.1 hsep.2.2.2
  have R5 := (R2.drewN 1).upd u5 (fun e => hDn D (.inl e) rfl)
  have up5 : Upd (ft l s lb pb SP) w w5 := (up2.drewN 1).trans (u5.mono fun i _ h => .inl h)
  have p5 := hp5
  clear qc1 qx1 qx2 rc1 rx1 m2 B5 B6 HKA hnw R2 c1 c2 x0 x1 x2 x3 x4 x5 ha2 hd2 hp2 up2 u5 hp5
  have A6 := A5.setP ht 2 (by decide) (.int .i64 g) { x with a := g } (by rw [HX.out]; rfl) ⟨⟨o1, o2⟩, ⟨o3, o4⟩, hgr, ⟨o7, o8⟩, ⟨o9, o10⟩, ⟨o11, o12⟩⟩
  have U6 := Upd.one w5 pb (t * 6 + 2) (.int .i64 g)
  have R6 := R5.set_ne (fun e => hDn pb (by simp [ft]) e.symm) (t * 6 + 2) (.int .i64 g)
  have p6 := p5.keep U6 (fun i hi e => hsep.2.2.2 (e ▸ hi))
  have up6 := up5.trans (U6.mono fun i _ e => (by rw [e]; simp [ft] : ft l s lb pb SP i))
  obtain ⟨w6, hw6⟩ : ∃ w', w5.setCell ⟨pb, t * 6 + 2, none⟩ (.int .i64 g) = w' := ⟨_, rfl⟩
  rw [hw6] at A6 R6 p6 up6 ⊢
  clear hw6 A5 R5 p5 up5 U6
  have v5 := A6.cell ht 5 (by decide) _ rfl
  have fv5 := A6.plc.frozen (t * 6 + 5)
  rw [pl_set _ _ HTP.out, if_pos rfl] at v5
  have v2 := A6.cell ht 2 (by decide) _ rfl
  rw [pl_set _ _ HTP.out, if_pos rfl] at v2
  have A7 := A6.setP ht 5 (by decide) (.int .i64 2) { x with a := g, s := 2 } (by rw [pl_set _ _ HTP.out, if_pos rfl]; rfl) ⟨⟨o1, o2⟩, ⟨o3, o4⟩, hgr, ⟨o7, o8⟩, ⟨o9, o10⟩, ⟨(by decide : (0 : Int) ≤ 2), (by decide : (2 : Int) ≤ 7)⟩⟩
  rw [List.set_set] at A7
  have U7 := Upd.one w6 pb (t * 6 + 5) (.int .i64 2)
  have R7 := R6.set_ne (fun e => hDn pb (by simp [ft]) e.symm) (t * 6 + 5) (.int .i64 2)
  have p7 := p6.keep U7 (fun i hi e => hsep.2.2.2 (e ▸ hi))
  have up7 := up6.trans (U7.mono fun i _ e => (by rw [e]; simp [ft] : ft l s lb pb SP i))
  go_upto_region 9 with (fail)
  obtain ⟨w7, hw7⟩ : ∃ w', w6.setCell ⟨pb, t * 6 + 5, none⟩ (.int .i64 2) = w' := ⟨_, rfl⟩
  rw [hw7] at A7 R7 p7 up7 ⊢
  clear hw7 A6 R6 p6 up6 U7 v5 fv5 v2
  have v2 := A7.cell ht 2 (by decide) _ rfl
  rw [pl_set _ _ HTP.out, if_pos rfl] at v2
  have hgn : (g == 0) = false := by simpa using HG0.out
  go_upto_region 11 with (fail)
  clear v2 hgn
  have y0 := R7.cell (i := 0) rfl
  have y1 := R7.cell (i := 1) rfl
  have y2 := R7.cell (i := 2) rfl
  have y3 := R7.cell (i := 3) rfl
  have f0 := R7.frozen 0
  have f1 := R7.frozen 1
  have f2 := R7.frozen 2
  have f3 := R7.frozen 3
  go_wp2_with fail
  obtain ⟨w8, hw8, RE, UE⟩ := did_end R7 (.int .i64 0) (.bool true) (.bool false) (.bool false)
  rw [hw8]
  have g0 := RE.cell (i := 0) rfl
  have g1 := RE.cell (i := 1) rfl
  have g2 := RE.cell (i := 2) rfl
  have g3 := RE.cell (i := 3) rfl
  refine bodyPost_ret (v := didv (0, true, false, false)) (by simp [results, Try.results38, go_sem, didv, g0, g1, g2, g3]) rfl ?_
  rw [E.out]
  refine ⟨rfl, ⟨A7.keepD UE hDn, p7.keep UE (fun i hi e => hDn i (.inl hi) e), ?_, hsep⟩, up7.then UE (fun i hi e => by have := HD.out; omega)⟩
  exact Nat.le_trans (Cache.after_len _ _ _ _ _ _) (by have := HFEW.out; omega)
set_option maxHeartbeats 8000000 in
set_option maxRecDepth 20000 in
theorem lock2a {w : World} {b : Nat} {st : St} (h : O l s lb pb cap p SP k hs tl w b st) (hb : b < 1000000) (t : Nat) (ht : t < st.seats.length) (a : Int) (h0 : (st.pls.getD t p0).s = 2) (hv : rd k st.ws a (nodeA tl (st.pls.getD t p0).a) / 4 ≠ (st.pls.getD t p0).c) :
    Calls Try.prog 38 #[.pointer (some ⟨l, 0, none⟩), .pointer (some ⟨pb, t * 6, none⟩), .int .i64 a] w fun e w' =>
      e = .returned (didv (lockS k tl st t a).1) ∧ O l s lb pb cap p SP k hs tl w' (b + 1) (lockS k tl st t a).2 ∧ Upd (ft l s lb pb SP) w w' := by
  obtain ⟨ha, hp, hf, hsep⟩ := h
  have hup0 : Upd (ft l s lb pb SP) w (w.alloc (.cells #[.int .i64 0, .bool false, .bool false, .bool false] 50)) := (Upd.refl _ _).alloc _
  have ha1 := ha.keep ((Upd.refl (fun _ => False) w).alloc (.cells #[.int .i64 0, .bool false, .bool false, .bool false] 50)) id id id id
  have hp1 := hp.alloc (.cells #[.int .i64 0, .bool false, .bool false, .bool false] 50)
  have R1 : Row (w.alloc (.cells #[.int .i64 0, .bool false, .bool false, .bool false] 50)) w.heap.size [.int .i64 0, .bool false, .bool false, .bool false] := Row.new' rfl
  obtain ⟨D, hD⟩ : ∃ D, w.heap.size = D := ⟨_, rfl⟩
  have hlD : ∀ i, ft l s lb pb SP i → i < D := by
    intro i hi
    rw [← hD]
    rcases hi with hi | rfl | rfl | rfl | rfl
    · obtain ⟨_, hl⟩ := hp; exact hl i hi
    · exact ha.top.lt
    · exact ha.seat.top.lt
    · exact ha.seat.row.lt
    · exact ha.plc.lt
  have HD := Lib.hid hD
  obtain ⟨W, hW⟩ : ∃ W, w.alloc (.cells #[.int .i64 0, .bool false, .bool false, .bool false] 50) = W := ⟨_, rfl⟩
  rw [hD] at R1
  rw [hW] at hup0 ha1 hp1 R1
  have HW := Lib.hid hW
  clear hD hW ha hp
  have hDn : ∀ i, ft l s lb pb SP i → i ≠ D := fun i hi e => by have := hlD i hi; omega
  have tl0 := ha1.tl0
  obtain ⟨x, hx⟩ : ∃ y, st.pls.getD t p0 = y := ⟨_, rfl⟩
  have hok := ha1.ok t (by rw [ha1.l1]; exact ht)
  have HFEW := Lib.hid hf
  have k2 := ha1.top.cell (i := 2) rfl
  have k0 := ha1.cell ht 0 (by decide) _ rfl
  have k5 := ha1.cell ht 5 (by decide) _ rfl
  rw [hx] at hok h0 hv k0 k5
  rw [Nat.add_zero] at k0
  obtain ⟨⟨o1, o2⟩, ⟨o3, o4⟩, ⟨o5, o6⟩, ⟨o7, o8⟩, ⟨o9, o10⟩, o11, o12⟩ := hok
  have hw1 : IntKind.i64.wrap (tl + 1) = tl + 1 := IntWalk.i64_in _ (by omega)
  have hw2 : IntKind.i64.wrap (tl + 1 + x.c) = tl + 1 + x.c := IntWalk.i64_in _ (by omega)
  rw [h0] at k5
  go_enter Try.func38, Try.ntmps38
  go_upto_region 1 with (fail)
  rw [HW.out, HD.out]
  go_quiet (fail)
  have ha2 := ha1.keep ((Upd.refl (fun _ => False) W).drewN nq) id id id id
  have hp2 := hp1.drewN nq
  have R2 := R1.drewN nq
  have up2 := hup0.drewN nq
  obtain ⟨W', hW'⟩ : ∃ W', W.drewN nq = W' := ⟨_, rfl⟩
  rw [hW'] at ha2 hp2 R2 up2 ⊢
  clear hW' k2 k0 k5 ha1 hp1 R1 hup0 hw1 hw2
  have c1 := ha2.top.cell (i := 1) rfl
  have c2 := ha2.top.cell (i := 2) rfl
  have x0 := ha2.cell ht 0 (by decide) _ rfl
  have x1 := ha2.cell ht 1 (by decide) _ rfl
  have x2 := ha2.cell ht 2 (by decide) _ rfl
  have x3 := ha2.cell ht 3 (by decide) _ rfl
  have x4 := ha2.cell ht 4 (by decide) _ rfl
  have x5 := ha2.cell ht 5 (by decide) _ rfl
  rw [hx] at x0 x1 x2 x3 x4 x5
  rw [Nat.add_zero] at x0
  rw [h0] at x5
  have htp : t < st.pls.length := by rw [ha2.l1]; exact ht
  have HTP := Lib.hid htp
  have HX := Lib.hid hx
  have hd2 := ha2.keep ((Upd.refl (fun _ => False) W').drewN 1) id id id id
  clear htp
  have E := Lib.hid (show lockS k tl st t a = ((0, false, false, false), { st with pls := st.pls.set t { x with s := 3 }, ts := Cache.after k st.ws.length st.ts a (nodeA tl x.a) false }) by unfold lockS ownA; rw [hx]; dsimp only; rw [if_neg (by omega), if_neg (by omega), if_pos h0]; rw [if_pos (.inl hv)])
  have KN := atC (W'.drewN 1) c2 tl0 x.a ⟨o5, o6⟩
  obtain ⟨nv, hnv⟩ : ∃ nv, nodeA tl x.a = nv := ⟨_, rfl⟩
  have hna : -1 ≤ nv ∧ nv ≤ 10000000000 := by rw [← hnv]; unfold nodeA; omega
  rw [hnv] at KN E hv
  obtain ⟨g, hg⟩ : ∃ g, rd k st.ws a nv = g := ⟨_, rfl⟩
  have hgr : 0 ≤ g ∧ g < 4294967296 := by rw [← hg]; exact rd_wd hp2.wd _ _ _
  rw [hg] at hv
  have KA := Port.loadP _ p SP k st.ws hs st.ts (hp2.drewN 1) (by omega) a (nv)
  rw [show (if Mem.inB a k = true then Mem.get st.ws (nv) else 0) = g from hg] at KA
  have HKN := Lib.hid KN
  have HKA := Lib.hid KA
  clear KN KA hnv hx hg
  go_upto_block 0 with (fail)
  go_wp2_with fail
  go_region_held3 (fun w' => w'.cell? ⟨l, 1, none⟩ = some (.pointer (some ⟨p, 0, none⟩)) ∧ w'.cell? ⟨pb, t * 6 + 2, none⟩ = some (.int .i64 x.a)) ((first | exact ⟨c1, x2⟩ | exact ⟨qc1, qx2⟩))
    ((first | (go_at_call 50; refine HKN.out.mono ?_; rintro e w4 ⟨rfl, rfl⟩) | (go_at_call 52; refine HKA.out.mono ?_; rintro e w5 ⟨rfl, hp5, u5⟩; have qc1 := cell_upd u5 c1 hsep.1; have qx2 := cell_upd u5 x2 hsep.2.2.2)))
  have A5 := hd2.keep u5 hsep.1 hsep.2.1 hsep.2.2.1 hsep.2.2.2
  have R5 := (R2.drewN 1).upd u5 (fun e => hDn D (.inl e) rfl)
  have up5 : Upd (ft l s lb pb SP) w w5 := (up2.drewN 1).trans (u5.mono fun i _ h => .inl h)
  have p5 := hp5
  clear qc1 qx2 HKA HKN R2 c1 c2 x0 x1 x2 x3 x4 x5 ha2 hd2 hp2 up2 u5 hp5
  obtain ⟨cg, hcg⟩ : ∃ c, g / 4 = c := ⟨_, rfl⟩
  have HKC := Lib.hid (fun w => Pack.cluster_to g w cg hgr.1 hgr.2 hcg.symm)
  have y0' := A5.cell ht 0 (by decide) _ rfl
  rw [HX.out, Nat.add_zero] at y0'
  rw [hcg] at hv
  have hvn : (cg != x.c) = true := by simpa using hv
  clear hcg hv
  go_wp2_with fail
  go_quiet ((first | (go_at_call 53; exact Calls.quiet_of_same ((HKC.out _).mono fun e w' ⟨he, hw⟩ => ⟨he, hw.symm⟩))))
  have A6 := A5.keep ((Upd.refl (fun _ => False) w5).drewN nq) id id id id
  have R6 := R5.drewN nq
  have p6 := p5.drewN nq
  have up6 := up5.drewN nq
  obtain ⟨w6, hw6⟩ : ∃ w', w5.drewN nq = w' := ⟨_, rfl⟩
  rw [hw6] at A6 R6 p6 up6 ⊢
  clear hw6 A5 R5 p5 up5 y0' HKC hvn
  have v5 := A6.cell ht 5 (by decide) _ rfl
  have fv5 := A6.plc.frozen (t * 6 + 5)
  rw [HX.out] at v5
  have A7 := A6.setP ht 5 (by decide) (.int .i64 3) { x with s := 3 } (by rw [HX.out]; rfl) ⟨⟨o1, o2⟩, ⟨o3, o4⟩, ⟨o5, o6⟩, ⟨o7, o8⟩, ⟨o9, o10⟩, ⟨(by decide : (0 : Int) ≤ 3), (by decide : (3 : Int) ≤ 7)⟩⟩
  have U7 := Upd.one w6 pb (t * 6 + 5) (.int .i64 3)
  have R7 := R6.set_ne (fun e => hDn pb (by simp [ft]) e.symm) (t * 6 + 5) (.int .i64 3)
  have p7 := p6.keep U7 (fun i hi e => hsep.2.2.2 (e ▸ hi))
  have up7 := up6.trans (U7.mono fun i _ e => (by rw [e]; simp [ft] : ft l s lb pb SP i))
  go_upto_region 35 with (fail)
  obtain ⟨w7, hw7⟩ : ∃ w', w6.setCell ⟨pb, t * 6 + 5, none⟩ (.int .i64 3) = w' := ⟨_, rfl⟩
  rw [hw7] at A7 R7 p7 up7 ⊢
  clear hw7 A6 R6 p6 up6 U7 v5 fv5
  have y0 := R7.cell (i := 0) rfl
  have y1 := R7.cell (i := 1) rfl
  have y2 := R7.cell (i := 2) rfl
  have y3 := R7.cell (i := 3) rfl
  have f0 := R7.frozen 0
  have f1 := R7.frozen 1
  have f2 := R7.frozen 2
  have f3 := R7.frozen 3
  go_wp2_with fail
  obtain ⟨w8, hw8, RE, UE⟩ := did_end R7 (.int .i64 0) (.bool false) (.bool false) (.bool false)
  rw [hw8]
  have g0 := RE.cell (i := 0) rfl
  have g1 := RE.cell (i := 1) rfl
  have g2 := RE.cell (i := 2) rfl
  have g3 := RE.cell (i := 3) rfl
  refine bodyPost_ret (v := didv (0, false, false, false)) (by simp [results, Try.results38, go_sem, didv, g0, g1, g2, g3]) rfl ?_
  rw [E.out]
  refine ⟨rfl, ⟨A7.keepD UE hDn, p7.keep UE (fun i hi e => hDn i (.inl hi) e), ?_, hsep⟩, up7.then UE (fun i hi e => by have := HD.out; omega)⟩
  exact Nat.le_trans (Cache.after_len _ _ _ _ _ _) (by have := HFEW.out; omega)
set_option maxHeartbeats 8000000 in
set_option maxRecDepth 20000 in
theorem lock2b {w : World} {b : Nat} {st : St} (h : O l s lb pb cap p SP k hs tl w b st) (hb : b < 1000000) (t : Nat) (ht : t < st.seats.length) (a : Int) (h0 : (st.pls.getD t p0).s = 2) (hv : rd k st.ws a (nodeA tl (st.pls.getD t p0).a) / 4 = (st.pls.getD t p0).c) (hs1 : rd k st.ws a (nodeA tl (st.pls.getD t p0).a) % 2 = 1) :
    Calls Try.prog 38 #[.pointer (some ⟨l, 0, none⟩), .pointer (some ⟨pb, t * 6, none⟩), .int .i64 a] w fun e w' =>
      e = .returned (didv (lockS k tl st t a).1) ∧ O l s lb pb cap p SP k hs tl w' (b + 1) (lockS k tl st t a).2 ∧ Upd (ft l s lb pb SP) w w' := by
  obtain ⟨ha, hp, hf, hsep⟩ := h
  have hup0 : Upd (ft l s lb pb SP) w (w.alloc (.cells #[.int .i64 0, .bool false, .bool false, .bool false] 50)) := (Upd.refl _ _).alloc _
  have ha1 := ha.keep ((Upd.refl (fun _ => False) w).alloc (.cells #[.int .i64 0, .bool false, .bool false, .bool false] 50)) id id id id
  have hp1 := hp.alloc (.cells #[.int .i64 0, .bool false, .bool false, .bool false] 50)
  have R1 : Row (w.alloc (.cells #[.int .i64 0, .bool false, .bool false, .bool false] 50)) w.heap.size [.int .i64 0, .bool false, .bool false, .bool false] := Row.new' rfl
  obtain ⟨D, hD⟩ : ∃ D, w.heap.size = D := ⟨_, rfl⟩
  have hlD : ∀ i, ft l s lb pb SP i → i < D := by
    intro i hi
    rw [← hD]
    rcases hi with hi | rfl | rfl | rfl | rfl
    · obtain ⟨_, hl⟩ := hp; exact hl i hi
    · exact ha.top.lt
    · exact ha.seat.top.lt
    · exact ha.seat.row.lt
    · exact ha.plc.lt
  have HD := Lib.hid hD
  obtain ⟨W, hW⟩ : ∃ W, w.alloc (.cells #[.int .i64 0, .bool false, .bool false, .bool false] 50) = W := ⟨_, rfl⟩
  rw [hD] at R1
  rw [hW] at hup0 ha1 hp1 R1
  have HW := Lib.hid hW
  clear hD hW ha hp
  have hDn : ∀ i, ft l s lb pb SP i → i ≠ D := fun i hi e => by have := hlD i hi; omega
  have tl0 := ha1.tl0
  obtain ⟨x, hx⟩ : ∃ y, st.pls.getD t p0 = y := ⟨_, rfl⟩
  have hok := ha1.ok t (by rw [ha1.l1]; exact ht)
  have HFEW := Lib.hid hf
  have k2 := ha1.top.cell (i := 2) rfl
  have k0 := ha1.cell ht 0 (by decide) _ rfl
  have k5 := ha1.cell ht 5 (by decide) _ rfl
  rw [hx] at hok h0 hv hs1 k0 k5
  rw [Nat.add_zero] at k0
  obtain ⟨⟨o1, o2⟩, ⟨o3, o4⟩, ⟨o5, o6⟩, ⟨o7, o8⟩, ⟨o9, o10⟩, o11, o12⟩ := hok
  have hw1 : IntKind.i64.wrap (tl + 1) = tl + 1 := IntWalk.i64_in _ (by omega)
  have hw2 : IntKind.i64.wrap (tl + 1 + x.c) = tl + 1 + x.c := IntWalk.i64_in _ (by omega)
  rw [h0] at k5
  go_enter Try.func38, Try.ntmps38
  go_upto_region 1 with (fail)
  rw [HW.out, HD.out]
  go_quiet (fail)
  have ha2 := ha1.keep ((Upd.refl (fun _ => False) W).drewN nq) id id id id
  have hp2 := hp1.drewN nq
  have R2 := R1.drewN nq
  have up2 := hup0.drewN nq
  obtain ⟨W', hW'⟩ : ∃ W', W.drewN nq = W' := ⟨_, rfl⟩
  rw [hW'] at ha2 hp2 R2 up2 ⊢
  clear hW' k2 k0 k5 ha1 hp1 R1 hup0 hw1 hw2
  have c1 := ha2.top.cell (i := 1) rfl
  have c2 := ha2.top.cell (i := 2) rfl
  have x0 := ha2.cell ht 0 (by decide) _ rfl
  have x1 := ha2.cell ht 1 (by decide) _ rfl
  have x2 := ha2.cell ht 2 (by decide) _ rfl
  have x3 := ha2.cell ht 3 (by decide) _ rfl
  have x4 := ha2.cell ht 4 (by decide) _ rfl
  have x5 := ha2.cell ht 5 (by decide) _ rfl
  rw [hx] at x0 x1 x2 x3 x4 x5
  rw [Nat.add_zero] at x0
  rw [h0] at x5
  have htp : t < st.pls.length := by rw [ha2.l1]; exact ht
  have HTP := Lib.hid htp
  have HX := Lib.hid hx
  have hd2 := ha2.keep ((Upd.refl (fun _ => False) W').drewN 1) id id id id
  clear htp
  have E := Lib.hid (show lockS k tl st t a = ((0, false, false, false), { st with pls := st.pls.set t { x with s := 3 }, ts := Cache.after k st.ws.length st.ts a (nodeA tl x.a) false }) by unfold lockS ownA; rw [hx]; dsimp only; rw [if_neg (by omega), if_neg (by omega), if_pos h0]; rw [if_pos (.inr hs1)])
  have KN := atC (W'.drewN 1) c2 tl0 x.a ⟨o5, o6⟩
  obtain ⟨nv, hnv⟩ : ∃ nv, nodeA tl x.a = nv := ⟨_, rfl⟩
  have hna : -1 ≤ nv ∧ nv ≤ 10000000000 := by rw [← hnv]; unfold nodeA; omega
  rw [hnv] at KN E hv hs1
  obtain ⟨g, hg⟩ : ∃ g, rd k st.ws a nv = g := ⟨_, rfl⟩
  have hgr : 0 ≤ g ∧ g < 4294967296 := by rw [← hg]; exact rd_wd hp2.wd _ _ _
  rw [hg] at hv hs1
  have KA := Port.loadP _ p SP k st.ws hs st.ts (hp2.drewN 1) (by omega) a (nv)
  rw [show (if Mem.inB a k = true then Mem.get st.ws (nv) else 0) = g from hg] at KA
  have HKN := Lib.hid KN
  have HKA := Lib.hid KA
  clear KN KA hnv hx hg
  go_upto_block 0 with (fail)
  go_wp2_with fail
  go_region_held3 (fun w' => w'.cell? ⟨l, 1, none⟩ = some (.pointer (some ⟨p, 0, none⟩)) ∧ w'.cell? ⟨pb, t * 6 + 2, none⟩ = some (.int .i64 x.a)) ((first | exact ⟨c1, x2⟩ | exact ⟨qc1, qx2⟩))
    ((first | (go_at_call 50; refine HKN.out.mono ?_; rintro e w4 ⟨rfl, rfl⟩) | (go_at_call 52; refine HKA.out.mono ?_; rintro e w5 ⟨rfl, hp5, u5⟩; have qc1 := cell_upd u5 c1 hsep.1; have qx2 := cell_upd u5 x2 hsep.2.2.2)))
  have A5 := hd2.keep u5 hsep.1 hsep.2.1 hsep.2.2.1 hsep.2.2.2
  have R5 := (R2.drewN 1).upd u5 (fun e => hDn D (.inl e) rfl)
  have up5 : Upd (ft l s lb pb SP) w w5 := (up2.drewN 1).trans (u5.mono fun i _ h => .inl h)
  have p5 := hp5
  clear qc1 qx2 HKA HKN R2 c1 c2 x0 x1 x2 x3 x4 x5 ha2 hd2 hp2 up2 u5 hp5
  obtain ⟨cg, hcg⟩ : ∃ c, g / 4 = c := ⟨_, rfl⟩
  have HKC := Lib.hid (fun w => Pack.cluster_to g w cg hgr.1 hgr.2 hcg.symm)
  have HKS := Lib.hid (fun w => Pack.spliced_to g w true hgr.1 hgr.2 (by unfold Pack.b2; simp [hs1]))
  have y0' := A5.cell ht 0 (by decide) _ rfl
  rw [HX.out, Nat.add_zero] at y0'
  rw [hcg] at hv
  have hvn : (cg != x.c) = false := by simpa using hv
  clear hcg hv
  go_wp2_with fail
  go_quiet ((first | (go_at_call 53; exact Calls.quiet_of_same ((HKC.out _).mono fun e w' ⟨he, hw⟩ => ⟨he, hw.symm⟩)) | (go_at_call 54; exact Calls.quiet_of_same ((HKS.out _).mono fun e w' ⟨he, hw⟩ => ⟨he, hw.symm⟩))))
  have A6 := A5.keep ((Upd.refl (fun _ => False) w5).drewN nq) id id id id
  have R6 := R5.drewN nq
  have p6 := p5.drewN nq
  have up6 := up5.drewN nq
  obtain ⟨w6, hw6⟩ : ∃ w', w5.drewN nq = w' := ⟨_, rfl⟩
  rw [hw6] at A6 R6 p6 up6 ⊢
  clear hw6 A5 R5 p5 up5 y0' HKC hvn
  have v5 := A6.cell ht 5 (by decide) _ rfl
  have fv5 := A6.plc.frozen (t * 6 + 5)
  rw [HX.out] at v5
  have A7 := A6.setP ht 5 (by decide) (.int .i64 3) { x with s := 3 } (by rw [HX.out]; rfl) ⟨⟨o1, o2⟩, ⟨o3, o4⟩, ⟨o5, o6⟩, ⟨o7, o8⟩, ⟨o9, o10⟩, ⟨(by decide : (0 : Int) ≤ 3), (by decide : (3 : Int) ≤ 7)⟩⟩
  have U7 := Upd.one w6 pb (t * 6 + 5) (.int .i64 3)
  have R7 := R6.set_ne (fun e => hDn pb (by simp [ft]) e.symm) (t * 6 + 5) (.int .i64 3)
  have p7 := p6.keep U7 (fun i hi e => hsep.2.2.2 (e ▸ hi))
  have up7 := up6.trans (U7.mono fun i _ e => (by rw [e]; simp [ft] : ft l s lb pb SP i))
  go_upto_region 35 with (fail)
  obtain ⟨w7, hw7⟩ : ∃ w', w6.setCell ⟨pb, t * 6 + 5, none⟩ (.int .i64 3) = w' := ⟨_, rfl⟩
  rw [hw7] at A7 R7 p7 up7 ⊢
  clear hw7 A6 R6 p6 up6 U7 v5 fv5
  have y0 := R7.cell (i := 0) rfl
  have y1 := R7.cell (i := 1) rfl
  have y2 := R7.cell (i := 2) rfl
  have y3 := R7.cell (i := 3) rfl
  have f0 := R7.frozen 0
  have f1 := R7.frozen 1
  have f2 := R7.frozen 2
  have f3 := R7.frozen 3
  go_wp2_with fail
  obtain ⟨w8, hw8, RE, UE⟩ := did_end R7 (.int .i64 0) (.bool false) (.bool false) (.bool false)
  rw [hw8]
  have g0 := RE.cell (i := 0) rfl
  have g1 := RE.cell (i := 1) rfl
  have g2 := RE.cell (i := 2) rfl
  have g3 := RE.cell (i := 3) rfl
  refine bodyPost_ret (v := didv (0, false, false, false)) (by simp [results, Try.results38, go_sem, didv, g0, g1, g2, g3]) rfl ?_
  rw [E.out]
  refine ⟨rfl, ⟨A7.keepD UE hDn, p7.keep UE (fun i hi e => hDn i (.inl hi) e), ?_, hsep⟩, up7.then UE (fun i hi e => by have := HD.out; omega)⟩
  exact Nat.le_trans (Cache.after_len _ _ _ _ _ _) (by have := HFEW.out; omega)
set_option maxHeartbeats 8000000 in
set_option maxRecDepth 20000 in
theorem lock2c {w : World} {b : Nat} {st : St} (h : O l s lb pb cap p SP k hs tl w b st) (hb : b < 1000000) (t : Nat) (ht : t < st.seats.length) (a : Int) (h0 : (st.pls.getD t p0).s = 2) (hv : rd k st.ws a (nodeA tl (st.pls.getD t p0).a) / 4 = (st.pls.getD t p0).c) (hs1 : rd k st.ws a (nodeA tl (st.pls.getD t p0).a) % 2 = 0) (hw : rd k st.ws a (nodeA tl (st.pls.getD t p0).a) / 2 % 2 = 1) :
    Calls Try.prog 38 #[.pointer (some ⟨l, 0, none⟩), .pointer (some ⟨pb, t * 6, none⟩), .int .i64 a] w fun e w' =>
      e = .returned (didv (lockS k tl st t a).1) ∧ O l s lb pb cap p SP k hs tl w' (b + 1) (lockS k tl st t a).2 ∧ Upd (ft l s lb pb SP) w w' := by
  obtain ⟨ha, hp, hf, hsep⟩ := h
  have hup0 : Upd (ft l s lb pb SP) w (w.alloc (.cells #[.int .i64 0, .bool false, .bool false, .bool false] 50)) := (Upd.refl _ _).alloc _
  have ha1 := ha.keep ((Upd.refl (fun _ => False) w).alloc (.cells #[.int .i64 0, .bool false, .bool false, .bool false] 50)) id id id id
  have hp1 := hp.alloc (.cells #[.int .i64 0, .bool false, .bool false, .bool false] 50)
  have R1 : Row (w.alloc (.cells #[.int .i64 0, .bool false, .bool false, .bool false] 50)) w.heap.size [.int .i64 0, .bool false, .bool false, .bool false] := Row.new' rfl
  obtain ⟨D, hD⟩ : ∃ D, w.heap.size = D := ⟨_, rfl⟩
  have hlD : ∀ i, ft l s lb pb SP i → i < D := by
    intro i hi
    rw [← hD]
    rcases hi with hi | rfl | rfl | rfl | rfl
    · obtain ⟨_, hl⟩ := hp; exact hl i hi
    · exact ha.top.lt
    · exact ha.seat.top.lt
    · exact ha.seat.row.lt
    · exact ha.plc.lt
  have HD := Lib.hid hD
  obtain ⟨W, hW⟩ : ∃ W, w.alloc (.cells #[.int .i64 0, .bool false, .bool false, .bool false] 50) = W := ⟨_, rfl⟩
  rw [hD] at R1
  rw [hW] at hup0 ha1 hp1 R1
  have HW := Lib.hid hW
  clear hD hW ha hp
  have hDn : ∀ i, ft l s lb pb SP i → i ≠ D := fun i hi e => by have := hlD i hi; omega
  have tl0 := ha1.tl0
  obtain ⟨x, hx⟩ : ∃ y, st.pls.getD t p0 = y := ⟨_, rfl⟩
  have hok := ha1.ok t (by rw [ha1.l1]; exact ht)
  have HFEW := Lib.hid hf
  have k2 := ha1.top.cell (i := 2) rfl
  have k0 := ha1.cell ht 0 (by decide) _ rfl
  have k5 := ha1.cell ht 5 (by decide) _ rfl
  rw [hx] at hok h0 hv hs1 hw k0 k5
  rw [Nat.add_zero] at k0
  obtain ⟨⟨o1, o2⟩, ⟨o3, o4⟩, ⟨o5, o6⟩, ⟨o7, o8⟩, ⟨o9, o10⟩, o11, o12⟩ := hok
  have hw1 : IntKind.i64.wrap (tl + 1) = tl + 1 := IntWalk.i64_in _ (by omega)
  have hw2 : IntKind.i64.wrap (tl + 1 + x.c) = tl + 1 + x.c := IntWalk.i64_in _ (by omega)
  rw [h0] at k5
  go_enter Try.func38, Try.ntmps38
  go_upto_region 1 with (fail)
  rw [HW.out, HD.out]
  go_quiet (fail)
  have ha2 := ha1.keep ((Upd.refl (fun _ => False) W).drewN nq) id id id id
  have hp2 := hp1.drewN nq
  have R2 := R1.drewN nq
  have up2 := hup0.drewN nq
  obtain ⟨W', hW'⟩ : ∃ W', W.drewN nq = W' := ⟨_, rfl⟩
  rw [hW'] at ha2 hp2 R2 up2 ⊢
  clear hW' k2 k0 k5 ha1 hp1 R1 hup0 hw1 hw2
  have c1 := ha2.top.cell (i := 1) rfl
  have c2 := ha2.top.cell (i := 2) rfl
  have x0 := ha2.cell ht 0 (by decide) _ rfl
  have x1 := ha2.cell ht 1 (by decide) _ rfl
  have x2 := ha2.cell ht 2 (by decide) _ rfl
  have x3 := ha2.cell ht 3 (by decide) _ rfl
  have x4 := ha2.cell ht 4 (by decide) _ rfl
  have x5 := ha2.cell ht 5 (by decide) _ rfl
  rw [hx] at x0 x1 x2 x3 x4 x5
  rw [Nat.add_zero] at x0
  rw [h0] at x5
  have htp : t < st.pls.length := by rw [ha2.l1]; exact ht
  have HTP := Lib.hid htp
  have HX := Lib.hid hx
  have hd2 := ha2.keep ((Upd.refl (fun _ => False) W').drewN 1) id id id id
  clear htp
  have E := Lib.hid (show lockS k tl st t a = ((0, false, false, false), { st with ts := Cache.after k st.ws.length st.ts a (nodeA tl x.a) false }) by unfold lockS ownA; rw [hx]; dsimp only; rw [if_neg (by omega), if_neg (by omega), if_pos h0]; rw [if_neg (by omega), if_neg (by omega)])
  have KN := atC (W'.drewN 1) c2 tl0 x.a ⟨o5, o6⟩
  obtain ⟨nv, hnv⟩ : ∃ nv, nodeA tl x.a = nv := ⟨_, rfl⟩
  have hna : -1 ≤ nv ∧ nv ≤ 10000000000 := by rw [← hnv]; unfold nodeA; omega
  rw [hnv] at KN E hv hs1 hw
  obtain ⟨g, hg⟩ : ∃ g, rd k st.ws a nv = g := ⟨_, rfl⟩
  have hgr : 0 ≤ g ∧ g < 4294967296 := by rw [← hg]; exact rd_wd hp2.wd _ _ _
  rw [hg] at hv hs1 hw
  have KA := Port.loadP _ p SP k st.ws hs st.ts (hp2.drewN 1) (by omega) a (nv)
  rw [show (if Mem.inB a k = true then Mem.get st.ws (nv) else 0) = g from hg] at KA
  have HKN := Lib.hid KN
  have HKA := Lib.hid KA
  clear KN KA hnv hx hg
  go_upto_block 0 with (fail)
  go_wp2_with fail
  go_region_held3 (fun w' => w'.cell? ⟨l, 1, none⟩ = some (.pointer (some ⟨p, 0, none⟩)) ∧ w'.cell? ⟨pb, t * 6 + 2, none⟩ = some (.int .i64 x.a)) ((first | exact ⟨c1, x2⟩ | exact ⟨qc1, qx2⟩))
    ((first | (go_at_call 50; refine HKN.out.mono ?_; rintro e w4 ⟨rfl, rfl⟩) | (go_at_call 52; refine HKA.out.mono ?_; rintro e w5 ⟨rfl, hp5, u5⟩; have qc1 := cell_upd u5 c1 hsep.1; have qx2 := cell_upd u5 x2 hsep.2.2.2)))
  have A5 := hd2.keep u5 hsep.1 hsep.2.1 hsep.2.2.1 hsep.2.2.2
  have R5 := (R2.drewN 1).upd u5 (fun e => hDn D (.inl e) rfl)
  have up5 : Upd (ft l s lb pb SP) w w5 := (up2.drewN 1).trans (u5.mono fun i _ h => .inl h)
  have p5 := hp5
  clear qc1 qx2 HKA HKN R2 c1 c2 x0 x1 x2 x3 x4 x5 ha2 hd2 hp2 up2 u5 hp5
  obtain ⟨cg, hcg⟩ : ∃ c, g / 4 = c := ⟨_, rfl⟩
  have HKC := Lib.hid (fun w => Pack.cluster_to g w cg hgr.1 hgr.2 hcg.symm)
  have HKS := Lib.hid (fun w => Pack.spliced_to g w false hgr.1 hgr.2 (by unfold Pack.b2; simp [hs1]))
  have HKW := Lib.hid (fun w => Pack.waits_to g w true hgr.1 hgr.2 (by unfold Pack.b2; simp [hw]))
  have y0' := A5.cell ht 0 (by decide) _ rfl
  rw [HX.out, Nat.add_zero] at y0'
  rw [hcg] at hv
  have hvn : (cg != x.c) = false := by simpa using hv
  clear hcg hv
  go_wp2_with fail
  go_quiet ((first | (go_at_call 53; exact Calls.quiet_of_same ((HKC.out _).mono fun e w' ⟨he, hw⟩ => ⟨he, hw.symm⟩)) | (go_at_call 54; exact Calls.quiet_of_same ((HKS.out _).mono fun e w' ⟨he, hw⟩ => ⟨he, hw.symm⟩))))
  have A6 := A5.keep ((Upd.refl (fun _ => False) w5).drewN nq) id id id id
  have R6 := R5.drewN nq
  have p6 := p5.drewN nq
  have up6 := up5.drewN nq
  obtain ⟨w6, hw6⟩ : ∃ w', w5.drewN nq = w' := ⟨_, rfl⟩
  rw [hw6] at A6 R6 p6 up6 ⊢
  clear hw6 A5 R5 p5 up5 y0' HKC hvn
  go_wp2_with fail
  refine (HKW.out _).mono ?_
  rintro e w' ⟨rfl, rfl⟩
  go_upto_region 35 with (fail)
  have y0 := R6.cell (i := 0) rfl
  have y1 := R6.cell (i := 1) rfl
  have y2 := R6.cell (i := 2) rfl
  have y3 := R6.cell (i := 3) rfl
  have f0 := R6.frozen 0
  have f1 := R6.frozen 1
  have f2 := R6.frozen 2
  have f3 := R6.frozen 3
  go_wp2_with fail
  obtain ⟨w8, hw8, RE, UE⟩ := did_end R6 (.int .i64 0) (.bool false) (.bool false) (.bool false)
  rw [hw8]
  have g0 := RE.cell (i := 0) rfl
  have g1 := RE.cell (i := 1) rfl
  have g2 := RE.cell (i := 2) rfl
  have g3 := RE.cell (i := 3) rfl
  refine bodyPost_ret (v := didv (0, false, false, false)) (by simp [results, Try.results38, go_sem, didv, g0, g1, g2, g3]) rfl ?_
  rw [E.out]
  refine ⟨rfl, ⟨A6.keepD UE hDn, p6.keep UE (fun i hi e => hDn i (.inl hi) e), ?_, hsep⟩, up6.then UE (fun i hi e => by have := HD.out; omega)⟩
  exact Nat.le_trans (Cache.after_len _ _ _ _ _ _) (by have := HFEW.out; omega)
set_option maxHeartbeats 8000000 in
set_option maxRecDepth 20000 in
theorem lock2d {w : World} {b : Nat} {st : St} (h : O l s lb pb cap p SP k hs tl w b st) (hb : b < 1000000) (t : Nat) (ht : t < st.seats.length) (a : Int) (h0 : (st.pls.getD t p0).s = 2) (hv : rd k st.ws a (nodeA tl (st.pls.getD t p0).a) / 4 = (st.pls.getD t p0).c) (hs1 : rd k st.ws a (nodeA tl (st.pls.getD t p0).a) % 2 = 0) (hw : rd k st.ws a (nodeA tl (st.pls.getD t p0).a) / 2 % 2 = 0) :
    Calls Try.prog 38 #[.pointer (some ⟨l, 0, none⟩), .pointer (some ⟨pb, t * 6, none⟩), .int .i64 a] w fun e w' =>
      e = .returned (didv (lockS k tl st t a).1) ∧ O l s lb pb cap p SP k hs tl w' (b + 1) (lockS k tl st t a).2 ∧ Upd (ft l s lb pb SP) w w' := by
  obtain ⟨ha, hp, hf, hsep⟩ := h
  have hup0 : Upd (ft l s lb pb SP) w (w.alloc (.cells #[.int .i64 0, .bool false, .bool false, .bool false] 50)) := (Upd.refl _ _).alloc _
  have ha1 := ha.keep ((Upd.refl (fun _ => False) w).alloc (.cells #[.int .i64 0, .bool false, .bool false, .bool false] 50)) id id id id
  have hp1 := hp.alloc (.cells #[.int .i64 0, .bool false, .bool false, .bool false] 50)
  have R1 : Row (w.alloc (.cells #[.int .i64 0, .bool false, .bool false, .bool false] 50)) w.heap.size [.int .i64 0, .bool false, .bool false, .bool false] := Row.new' rfl
  obtain ⟨D, hD⟩ : ∃ D, w.heap.size = D := ⟨_, rfl⟩
  have hlD : ∀ i, ft l s lb pb SP i → i < D := by
    intro i hi
    rw [← hD]
    rcases hi with hi | rfl | rfl | rfl | rfl
    · obtain ⟨_, hl⟩ := hp; exact hl i hi
    · exact ha.top.lt
    · exact ha.seat.top.lt
    · exact ha.seat.row.lt
    · exact ha.plc.lt
  have HD := Lib.hid hD
  obtain ⟨W, hW⟩ : ∃ W, w.alloc (.cells #[.int .i64 0, .bool false, .bool false, .bool false] 50) = W := ⟨_, rfl⟩
  rw [hD] at R1
  rw [hW] at hup0 ha1 hp1 R1
  have HW := Lib.hid hW
  clear hD hW ha hp
  have hDn : ∀ i, ft l s lb pb SP i → i ≠ D := fun i hi e => by have := hlD i hi; omega
  have tl0 := ha1.tl0
  obtain ⟨x, hx⟩ : ∃ y, st.pls.getD t p0 = y := ⟨_, rfl⟩
  have hok := ha1.ok t (by rw [ha1.l1]; exact ht)
  have HFEW := Lib.hid hf
  have k2 := ha1.top.cell (i := 2) rfl
  have k0 := ha1.cell ht 0 (by decide) _ rfl
  have k5 := ha1.cell ht 5 (by decide) _ rfl
  rw [hx] at hok h0 hv hs1 hw k0 k5
  rw [Nat.add_zero] at k0
  obtain ⟨⟨o1, o2⟩, ⟨o3, o4⟩, ⟨o5, o6⟩, ⟨o7, o8⟩, ⟨o9, o10⟩, o11, o12⟩ := hok
  have hw1 : IntKind.i64.wrap (tl + 1) = tl + 1 := IntWalk.i64_in _ (by omega)
  have hw2 : IntKind.i64.wrap (tl + 1 + x.c) = tl + 1 + x.c := IntWalk.i64_in _ (by omega)
  rw [h0] at k5
  go_enter Try.func38, Try.ntmps38
  go_upto_region 1 with (fail)
  rw [HW.out, HD.out]
  go_quiet (fail)
  have ha2 := ha1.keep ((Upd.refl (fun _ => False) W).drewN nq) id id id id
  have hp2 := hp1.drewN nq
  have R2 := R1.drewN nq
  have up2 := hup0.drewN nq
  obtain ⟨W', hW'⟩ : ∃ W', W.drewN nq = W' := ⟨_, rfl⟩
  rw [hW'] at ha2 hp2 R2 up2 ⊢
  clear hW' k2 k0 k5 ha1 hp1 R1 hup0 hw1 hw2
  have c1 := ha2.top.cell (i := 1) rfl
  have c2 := ha2.top.cell (i := 2) rfl
  have x0 := ha2.cell ht 0 (by decide) _ rfl
  have x1 := ha2.cell ht 1 (by decide) _ rfl
  have x2 := ha2.cell ht 2 (by decide) _ rfl
  have x3 := ha2.cell ht 3 (by decide) _ rfl
  have x4 := ha2.cell ht 4 (by decide) _ rfl
  have x5 := ha2.cell ht 5 (by decide) _ rfl
  rw [hx] at x0 x1 x2 x3 x4 x5
  rw [Nat.add_zero] at x0
  rw [h0] at x5
  have htp : t < st.pls.length := by rw [ha2.l1]; exact ht
  have HTP := Lib.hid htp
  have HX := Lib.hid hx
  have hd2 := ha2.keep ((Upd.refl (fun _ => False) W').drewN 1) id id id id
  clear htp
  have E := Lib.hid (show lockS k tl st t a = ((1, false, false, false), { st with pls := st.pls.set t { x with s := 0 }, ts := Cache.after k st.ws.length st.ts a (nodeA tl x.a) false }) by unfold lockS ownA; rw [hx]; dsimp only; rw [if_neg (by omega), if_neg (by omega), if_pos h0]; rw [if_neg (by omega), if_pos hw])
  have KN := atC (W'.drewN 1) c2 tl0 x.a ⟨o5, o6⟩
  obtain ⟨nv, hnv⟩ : ∃ nv, nodeA tl x.a = nv := ⟨_, rfl⟩
  have hna : -1 ≤ nv ∧ nv ≤ 10000000000 := by rw [← hnv]; unfold nodeA; omega
  rw [hnv] at KN E hv hs1 hw
  obtain ⟨g, hg⟩ : ∃ g, rd k st.ws a nv = g := ⟨_, rfl⟩
  have hgr : 0 ≤ g ∧ g < 4294967296 := by rw [← hg]; exact rd_wd hp2.wd _ _ _
  rw [hg] at hv hs1 hw
  have KA := Port.loadP _ p SP k st.ws hs st.ts (hp2.drewN 1) (by omega) a (nv)
  rw [show (if Mem.inB a k = true then Mem.get st.ws (nv) else 0) = g from hg] at KA
  have HKN := Lib.hid KN
  have HKA := Lib.hid KA
  clear KN KA hnv hx hg
  go_upto_block 0 with (fail)
  go_wp2_with fail
  go_region_held3 (fun w' => w'.cell? ⟨l, 1, none⟩ = some (.pointer (some ⟨p, 0, none⟩)) ∧ w'.cell? ⟨pb, t * 6 + 2, none⟩ = some (.int .i64 x.a)) ((first | exact ⟨c1, x2⟩ | exact ⟨qc1, qx2⟩))
    ((first | (go_at_call 50; refine HKN.out.mono ?_; rintro e w4 ⟨rfl, rfl⟩) | (go_at_call 52; refine HKA.out.mono ?_; rintro e w5 ⟨rfl, hp5, u5⟩; have qc1 := cell_upd u5 c1 hsep.1; have qx2 := cell_upd u5 x2 hsep.2.2.2)))
  have A5 := hd2.keep u5 hsep.1 hsep.2.1 hsep.2.2.1 hsep.2.2.2
  have R5 := (R2.drewN 1).upd u5 (fun e => hDn D (.inl e) rfl)
  have up5 : Upd (ft l s lb pb SP) w w5 := (up2.drewN 1).trans (u5.mono fun i _ h => .inl h)
  have p5 := hp5
  clear qc1 qx2 HKA HKN R2 c1 c2 x0 x1 x2 x3 x4 x5 ha2 hd2 hp2 up2 u5 hp5
  obtain ⟨cg, hcg⟩ : ∃ c, g / 4 = c := ⟨_, rfl⟩
  have HKC := Lib.hid (fun w => Pack.cluster_to g w cg hgr.1 hgr.2 hcg.symm)
  have HKS := Lib.hid (fun w => Pack.spliced_to g w false hgr.1 hgr.2 (by unfold Pack.b2; simp [hs1]))
  have HKW := Lib.hid (fun w => Pack.waits_to g w false hgr.1 hgr.2 (by unfold Pack.b2; simp [hw]))
  have y0' := A5.cell ht 0 (by decide) _ rfl
  rw [HX.out, Nat.add_zero] at y0'
  rw [hcg] at hv
  have hvn : (cg != x.c) = false := by simpa using hv
  clear hcg hv
  go_wp2_with fail
  go_quiet ((first | (go_at_call 53; exact Calls.quiet_of_same ((HKC.out _).mono fun e w' ⟨he, hw⟩ => ⟨he, hw.symm⟩)) | (go_at_call 54; exact Calls.quiet_of_same ((HKS.out _).mono fun e w' ⟨he, hw⟩ => ⟨he, hw.symm⟩))))
  have A6 := A5.keep ((Upd.refl (fun _ => False) w5).drewN nq) id id id id
  have R6 := R5.drewN nq
  have p6 := p5.drewN nq
  have up6 := up5.drewN nq
  obtain ⟨w6, hw6⟩ : ∃ w', w5.drewN nq = w' := ⟨_, rfl⟩
  rw [hw6] at A6 R6 p6 up6 ⊢
  clear hw6 A5 R5 p5 up5 y0' HKC hvn
  go_wp2_with fail
  refine (HKW.out _).mono ?_
  rintro e w' ⟨rfl, rfl⟩
  go_wp2_with fail
  refine (grantedC A6 t ht false).mono ?_
  rintro e w7 ⟨rfl, A7, u7⟩
  rw [HX.out] at A7
  have R7 := R6.upd u7 (fun e => hDn pb (by simp [ft]) e.symm)
  have p7 := p6.keep u7 (fun i hi e => hsep.2.2.2 (e ▸ hi))
  have up7 := up6.trans (u7.mono fun i _ e => (by rw [e]; simp [ft] : ft l s lb pb SP i))
  unfold didv
  clear A6 R6 p6 up6 u7
  have y0 := R7.cell (i := 0) rfl
  have y1 := R7.cell (i := 1) rfl
  have y2 := R7.cell (i := 2) rfl
  have y3 := R7.cell (i := 3) rfl
  have f0 := R7.frozen 0
  have f1 := R7.frozen 1
  have f2 := R7.frozen 2
  have f3 := R7.frozen 3
  go_wp2_with fail
  obtain ⟨w8, hw8, RE, UE⟩ := did_end R7 (.int .i64 1) (.bool false) (.bool false) (.bool false)
  rw [hw8]
  have g0 := RE.cell (i := 0) rfl
  have g1 := RE.cell (i := 1) rfl
  have g2 := RE.cell (i := 2) rfl
  have g3 := RE.cell (i := 3) rfl
  refine bodyPost_ret (v := didv (1, false, false, false)) (by simp [results, Try.results38, go_sem, didv, g0, g1, g2, g3]) rfl ?_
  rw [E.out]
  refine ⟨rfl, ⟨A7.keepD UE hDn, p7.keep UE (fun i hi e => hDn i (.inl hi) e), ?_, hsep⟩, up7.then UE (fun i hi e => by have := HD.out; omega)⟩
  exact Nat.le_trans (Cache.after_len _ _ _ _ _ _) (by have := HFEW.out; omega)
set_option maxHeartbeats 8000000 in
set_option maxRecDepth 20000 in
theorem lock3 {w : World} {b : Nat} {st : St} (h : O l s lb pb cap p SP k hs tl w b st) (hb : b < 1000000) (t : Nat) (ht : t < st.seats.length) (a : Int) (h0 : (st.pls.getD t p0).s = 3) :
    Calls Try.prog 38 #[.pointer (some ⟨l, 0, none⟩), .pointer (some ⟨pb, t * 6, none⟩), .int .i64 a] w fun e w' =>
      e = .returned (didv (lockS k tl st t a).1) ∧ O l s lb pb cap p SP k hs tl w' (b + 1) (lockS k tl st t a).2 ∧ Upd (ft l s lb pb SP) w w' := by
  obtain ⟨ha, hp, hf, hsep⟩ := h
  have hup0 : Upd (ft l s lb pb SP) w (w.alloc (.cells #[.int .i64 0, .bool false, .bool false, .bool false] 50)) := (Upd.refl _ _).alloc _
  have ha1 := ha.keep ((Upd.refl (fun _ => False) w).alloc (.cells #[.int .i64 0, .bool false, .bool false, .bool false] 50)) id id id id
  have hp1 := hp.alloc (.cells #[.int .i64 0, .bool false, .bool false, .bool false] 50)
  have R1 : Row (w.alloc (.cells #[.int .i64 0, .bool false, .bool false, .bool false] 50)) w.heap.size [.int .i64 0, .bool false, .bool false, .bool false] := Row.new' rfl
  obtain ⟨D, hD⟩ : ∃ D, w.heap.size = D := ⟨_, rfl⟩
  have hlD : ∀ i, ft l s lb pb SP i → i < D := by
    intro i hi
    rw [← hD]
    rcases hi with hi | rfl | rfl | rfl | rfl
    · obtain ⟨_, hl⟩ := hp; exact hl i hi
    · exact ha.top.lt
    · exact ha.seat.top.lt
    · exact ha.seat.row.lt
    · exact ha.plc.lt
  have HD := Lib.hid hD
  obtain ⟨W, hW⟩ : ∃ W, w.alloc (.cells #[.int .i64 0, .bool false, .bool false, .bool false] 50) = W := ⟨_, rfl⟩
  rw [hD] at R1
  rw [hW] at hup0 ha1 hp1 R1
  have HW := Lib.hid hW
  clear hD hW ha hp
  have hDn : ∀ i, ft l s lb pb SP i → i ≠ D := fun i hi e => by have := hlD i hi; omega
  have tl0 := ha1.tl0
  obtain ⟨x, hx⟩ : ∃ y, st.pls.getD t p0 = y := ⟨_, rfl⟩
  have hok := ha1.ok t (by rw [ha1.l1]; exact ht)
  have HFEW := Lib.hid hf
  have k2 := ha1.top.cell (i := 2) rfl
  have k0 := ha1.cell ht 0 (by decide) _ rfl
  have k5 := ha1.cell ht 5 (by decide) _ rfl
  rw [hx] at hok h0 k0 k5
  rw [Nat.add_zero] at k0
  obtain ⟨⟨o1, o2⟩, ⟨o3, o4⟩, ⟨o5, o6⟩, ⟨o7, o8⟩, ⟨o9, o10⟩, o11, o12⟩ := hok
  have hw1 : IntKind.i64.wrap (tl + 1) = tl + 1 := IntWalk.i64_in _ (by omega)
  have hw2 : IntKind.i64.wrap (tl + 1 + x.c) = tl + 1 + x.c := IntWalk.i64_in _ (by omega)
  rw [h0] at k5
  go_enter Try.func38, Try.ntmps38
  go_upto_region 1 with (fail)
  rw [HW.out, HD.out]
  go_quiet (fail)
  have ha2 := ha1.keep ((Upd.refl (fun _ => False) W).drewN nq) id id id id
  have hp2 := hp1.drewN nq
  have R2 := R1.drewN nq
  have up2 := hup0.drewN nq
  obtain ⟨W', hW'⟩ : ∃ W', W.drewN nq = W' := ⟨_, rfl⟩
  rw [hW'] at ha2 hp2 R2 up2 ⊢
  clear hW' k2 k0 k5 ha1 hp1 R1 hup0 hw1 hw2
  have c1 := ha2.top.cell (i := 1) rfl
  have c2 := ha2.top.cell (i := 2) rfl
  have x0 := ha2.cell ht 0 (by decide) _ rfl
  have x1 := ha2.cell ht 1 (by decide) _ rfl
  have x2 := ha2.cell ht 2 (by decide) _ rfl
  have x3 := ha2.cell ht 3 (by decide) _ rfl
  have x4 := ha2.cell ht 4 (by decide) _ rfl
  have x5 := ha2.cell ht 5 (by decide) _ rfl
  rw [hx] at x0 x1 x2 x3 x4 x5
  rw [Nat.add_zero] at x0
  rw [h0] at x5
  have htp : t < st.pls.length := by rw [ha2.l1]; exact ht
  have HTP := Lib.hid htp
  have HX := Lib.hid hx
  have hd2 := ha2.keep ((Upd.refl (fun _ => False) W').drewN 1) id id id id
  clear htp
  have E := Lib.hid (show lockS k tl st t a = ((0, false, false, false), { st with pls := st.pls.set t { x with l := rd k st.ws a (tl + 1 + x.c), s := 4 }, ts := Cache.after k st.ws.length st.ts a (tl + 1 + x.c) false }) by unfold lockS ownA; rw [hx]; dsimp only; rw [if_neg (by omega), if_neg (by omega), if_neg (by omega), if_pos h0])
  obtain ⟨g, hg⟩ : ∃ g, rd k st.ws a (tl + 1 + x.c) = g := ⟨_, rfl⟩
  have hgr : 0 ≤ g ∧ g < 4294967296 := by rw [← hg]; exact rd_wd hp2.wd _ _ _
  rw [hg] at E
  have KA := Port.loadP _ p SP k st.ws hs st.ts hp2 (by omega) a (tl + 1 + x.c)
  rw [show (if Mem.inB a k = true then Mem.get st.ws (tl + 1 + x.c) else 0) = g from hg] at KA
  have HKA := Lib.hid KA
  have hgw : IntKind.i64.wrap g = g := IntWalk.i64_in _ (by omega)
  clear KA hg hx
  go_upto_block 0 with (fail)
  go_wp2_with fail
  refine HKA.out.mono ?_
  rintro e w5 ⟨rfl, hp5, u5⟩
  have A5 := ha2.keep u5 hsep.1 hsep.2.1 hsep.2.2.1 hsep.2.2.2
  have R5 := R2.upd u5 (fun e => hDn D (.inl e) rfl)
  have up5 : Upd (ft l s lb pb SP) w w5 := up2.trans (u5.mono fun i _ h => .inl h)
  have p5 := hp5
  clear HKA R2 c1 c2 x0 x1 x2 x3 x4 x5 ha2 hd2 hp2 up2 u5 hp5
  have v3 := A5.cell ht 3 (by decide) _ rfl
  have fv3 := A5.plc.frozen (t * 6 + 3)
  rw [HX.out] at v3
  have A6 := A5.setP ht 3 (by decide) (.int .i64 g) { x with l := g } (by rw [HX.out]; rfl) ⟨⟨o1, o2⟩, ⟨o3, o4⟩, ⟨o5, o6⟩, hgr, ⟨o9, o10⟩, ⟨o11, o12⟩⟩
  have U6 := Upd.one w5 pb (t * 6 + 3) (.int .i64 g)
  have R6 := R5.set_ne (fun e => hDn pb (by simp [ft]) e.symm) (t * 6 + 3) (.int .i64 g)
  have p6 := p5.keep U6 (fun i hi e => hsep.2.2.2 (e ▸ hi))
  have up6 := up5.trans (U6.mono fun i _ e => (by rw [e]; simp [ft] : ft l s lb pb SP i))
  go_upto_region 20 with (fail)
  obtain ⟨w6, hw6⟩ : ∃ w', w5.setCell ⟨pb, t * 6 + 3, none⟩ (.int .i64 g) = w' := ⟨_, rfl⟩
  rw [hw6] at A6 R6 p6 up6 ⊢
  clear hw6 A5 R5 p5 up5 U6 v3 fv3 hgw
  have v5 := A6.cell ht 5 (by decide) _ rfl
  have fv5 := A6.plc.frozen (t * 6 + 5)
  rw [pl_set _ _ HTP.out, if_pos rfl] at v5
  have A7 := A6.setP ht 5 (by decide) (.int .i64 4) { x with l := g, s := 4 } (by rw [pl_set _ _ HTP.out, if_pos rfl]; rfl) ⟨⟨o1, o2⟩, ⟨o3, o4⟩, ⟨o5, o6⟩, hgr, ⟨o9, o10⟩, ⟨(by decide : (0 : Int) ≤ 4), (by decide : (4 : Int) ≤ 7)⟩⟩
  rw [List.set_set] at A7
  have U7 := Upd.one w6 pb (t * 6 + 5) (.int .i64 4)
  have R7 := R6.set_ne (fun e => hDn pb (by simp [ft]) e.symm) (t * 6 + 5) (.int .i64 4)
  have p7 := p6.keep U7 (fun i hi e => hsep.2.2.2 (e ▸ hi))
  have up7 := up6.trans (U7.mono fun i _ e => (by rw [e]; simp [ft] : ft l s lb pb SP i))
  go_upto_region 35 with (fail)
  obtain ⟨w7, hw7⟩ : ∃ w', w6.setCell ⟨pb, t * 6 + 5, none⟩ (.int .i64 4) = w' := ⟨_, rfl⟩
  rw [hw7] at A7 R7 p7 up7 ⊢
  clear hw7 A6 R6 p6 up6 U7 v5 fv5
  have y0 := R7.cell (i := 0) rfl
  have y1 := R7.cell (i := 1) rfl
  have y2 := R7.cell (i := 2) rfl
  have y3 := R7.cell (i := 3) rfl
  have f0 := R7.frozen 0
  have f1 := R7.frozen 1
  have f2 := R7.frozen 2
  have f3 := R7.frozen 3
  go_wp2_with fail
  obtain ⟨w8, hw8, RE, UE⟩ := did_end R7 (.int .i64 0) (.bool false) (.bool false) (.bool false)
  rw [hw8]
  have g0 := RE.cell (i := 0) rfl
  have g1 := RE.cell (i := 1) rfl
  have g2 := RE.cell (i := 2) rfl
  have g3 := RE.cell (i := 3) rfl
  refine bodyPost_ret (v := didv (0, false, false, false)) (by simp [results, Try.results38, go_sem, didv, g0, g1, g2, g3]) rfl ?_
  rw [E.out]
  refine ⟨rfl, ⟨A7.keepD UE hDn, p7.keep UE (fun i hi e => hDn i (.inl hi) e), ?_, hsep⟩, up7.then UE (fun i hi e => by have := HD.out; omega)⟩
  exact Nat.le_trans (Cache.after_len _ _ _ _ _ _) (by have := HFEW.out; omega)
set_option maxHeartbeats 8000000 in
set_option maxRecDepth 20000 in
theorem lock4 {w : World} {b : Nat} {st : St} (h : O l s lb pb cap p SP k hs tl w b st) (hb : b < 1000000) (t : Nat) (ht : t < st.seats.length) (a : Int) (h0 : (st.pls.getD t p0).s = 4) :
    Calls Try.prog 38 #[.pointer (some ⟨l, 0, none⟩), .pointer (some ⟨pb, t * 6, none⟩), .int .i64 a] w fun e w' =>
      e = .returned (didv (lockS k tl st t a).1) ∧ O l s lb pb cap p SP k hs tl w' (b + 1) (lockS k tl st t a).2 ∧ Upd (ft l s lb pb SP) w w' := by
  obtain ⟨ha, hp, hf, hsep⟩ := h
  have hup0 : Upd (ft l s lb pb SP) w (w.alloc (.cells #[.int .i64 0, .bool false, .bool false, .bool false] 50)) := (Upd.refl _ _).alloc _
  have ha1 := ha.keep ((Upd.refl (fun _ => False) w).alloc (.cells #[.int .i64 0, .bool false, .bool false, .bool false] 50)) id id id id
  have hp1 := hp.alloc (.cells #[.int .i64 0, .bool false, .bool false, .bool false] 50)
  have R1 : Row (w.alloc (.cells #[.int .i64 0, .bool false, .bool false, .bool false] 50)) w.heap.size [.int .i64 0, .bool false, .bool false, .bool false] := Row.new' rfl
  obtain ⟨D, hD⟩ : ∃ D, w.heap.size = D := ⟨_, rfl⟩
  have hlD : ∀ i, ft l s lb pb SP i → i < D := by
    intro i hi
    rw [← hD]
    rcases hi with hi | rfl | rfl | rfl | rfl
    · obtain ⟨_, hl⟩ := hp; exact hl i hi
    · exact ha.top.lt
    · exact ha.seat.top.lt
    · exact ha.seat.row.lt
    · exact ha.plc.lt
  have HD := Lib.hid hD
  obtain ⟨W, hW⟩ : ∃ W, w.alloc (.cells #[.int .i64 0, .bool false, .bool false, .bool false] 50) = W := ⟨_, rfl⟩
  rw [hD] at R1
  rw [hW] at hup0 ha1 hp1 R1
  have HW := Lib.hid hW
  clear hD hW ha hp
  have hDn : ∀ i, ft l s lb pb SP i → i ≠ D := fun i hi e => by have := hlD i hi; omega
  have tl0 := ha1.tl0
  obtain ⟨x, hx⟩ : ∃ y, st.pls.getD t p0 = y := ⟨_, rfl⟩
  have hok := ha1.ok t (by rw [ha1.l1]; exact ht)
  have HFEW := Lib.hid hf
  have k2 := ha1.top.cell (i := 2) rfl
  have k0 := ha1.cell ht 0 (by decide) _ rfl
  have k5 := ha1.cell ht 5 (by decide) _ rfl
  rw [hx] at hok h0 k0 k5
  rw [Nat.add_zero] at k0
  obtain ⟨⟨o1, o2⟩, ⟨o3, o4⟩, ⟨o5, o6⟩, ⟨o7, o8⟩, ⟨o9, o10⟩, o11, o12⟩ := hok
  have hw1 : IntKind.i64.wrap (tl + 1) = tl + 1 := IntWalk.i64_in _ (by omega)
  have hw2 : IntKind.i64.wrap (tl + 1 + x.c) = tl + 1 + x.c := IntWalk.i64_in _ (by omega)
  rw [h0] at k5
  go_enter Try.func38, Try.ntmps38
  go_upto_region 1 with (fail)
  rw [HW.out, HD.out]
  go_quiet (fail)
  have ha2 := ha1.keep ((Upd.refl (fun _ => False) W).drewN nq) id id id id
  have hp2 := hp1.drewN nq
  have R2 := R1.drewN nq
  have up2 := hup0.drewN nq
  obtain ⟨W', hW'⟩ : ∃ W', W.drewN nq = W' := ⟨_, rfl⟩
  rw [hW'] at ha2 hp2 R2 up2 ⊢
  clear hW' k2 k0 k5 ha1 hp1 R1 hup0 hw1 hw2
  have c1 := ha2.top.cell (i := 1) rfl
  have c2 := ha2.top.cell (i := 2) rfl
  have x0 := ha2.cell ht 0 (by decide) _ rfl
  have x1 := ha2.cell ht 1 (by decide) _ rfl
  have x2 := ha2.cell ht 2 (by decide) _ rfl
  have x3 := ha2.cell ht 3 (by decide) _ rfl
  have x4 := ha2.cell ht 4 (by decide) _ rfl
  have x5 := ha2.cell ht 5 (by decide) _ rfl
  rw [hx] at x0 x1 x2 x3 x4 x5
  rw [Nat.add_zero] at x0
  rw [h0] at x5
  have htp : t < st.pls.length := by rw [ha2.l1]; exact ht
  have HTP := Lib.hid htp
  have HX := Lib.hid hx
  have hd2 := ha2.keep ((Upd.refl (fun _ => False) W').drewN 1) id id id id
  clear htp
  have E := Lib.hid (show lockS k tl st t a = ((0, false, true, false), { st with pls := st.pls.set t { x with a := rd k st.ws a tl, s := 5 }, ws := wrt k st.ws a tl x.l, ts := Cache.after k st.ws.length st.ts a tl true }) by unfold lockS ownA; rw [hx]; dsimp only; rw [if_neg (by omega), if_neg (by omega), if_neg (by omega), if_neg (by omega), if_pos h0])
  obtain ⟨g, hg⟩ : ∃ g, rd k st.ws a (tl) = g := ⟨_, rfl⟩
  have hgr : 0 ≤ g ∧ g < 4294967296 := by rw [← hg]; exact rd_wd hp2.wd _ _ _
  rw [hg] at E
  have KA := Port.swapP _ p SP k st.ws hs st.ts (hp2.drewN 1) (by omega) a tl x.l (by omega) (by omega)
  rw [show (if Mem.inB a k = true then Mem.get st.ws tl else 0) = g from hg] at KA
  have HKA := Lib.hid KA
  have hgw : IntKind.i64.wrap g = g := IntWalk.i64_in _ (by omega)
  have hnw : IntKind.u32.wrap x.l = x.l := by rw [show IntKind.u32.wrap x.l = x.l % 4294967296 from rfl]; omega
  clear KA hg hx
  go_upto_block 0 with (fail)
  go_wp2_with fail
  go_region_held3 (fun w' => w'.cell? ⟨l, 1, none⟩ = some (.pointer (some ⟨p, 0, none⟩)) ∧ w'.cell? ⟨l, 2, none⟩ = some (.int .i64 tl) ∧ w'.cell? ⟨pb, t * 6 + 3, none⟩ = some (.int .i64 x.l)) ((first | exact ⟨c1, c2, x3⟩ | exact ⟨qc1, qc2, qx3⟩ | exact ⟨rc1, rc2, rx3⟩))
    ((first | (go_at_call 51; refine HKA.out.mono ?_; rintro e w5 ⟨rfl, hp5, u5⟩; have qc1 := cell_upd u5 c1 hsep.1; have qc2 := cell_upd u5 c2 hsep.1; have qx3 := cell_upd u5 x3 hsep.2.2.2; have qx2 := cell_upd u5 x2 hsep.2.2.2; have B5 := hd2.keep u5 hsep.1 hsep.2.1 hsep.2.2.1 hsep.2.2.2; have m2 := B5.plc.frozen (t * 6 + 2); have B6 := B5.setP ht 2 (by decide) (.int .i64 g) { x with a := g } (by rw [HX.out]; rfl) ⟨⟨o1, o2⟩, ⟨o3, o4⟩, hgr, ⟨o7, o8⟩, ⟨o9, o10⟩, ⟨o11, o12⟩⟩; have rc1 := B6.top.cell (i := 1) rfl; have rc2 := B6.top.cell (i := 2) rfl; have rx3 : (w5.setCell ⟨pb, t * 6 + 2, none⟩ (.int .i64 g)).cell? ⟨pb, t * 6 + 3, none⟩ = some (.int .i64 x.l) := by have r0 := B6.cell ht 3 (by decide) _ rfl; rw [pl_set _ _ HTP.out, if_pos rfl] at r0; exact r0)))
  have A5 := hd2.keep u5 hsep.1 hsep.2.1 hsep.2.2.1 hsep.2.2.2
  have R5 := (R2.drewN 1).upd u5 (fun e => hDn D (.inl e) rfl)
  have up5 : Upd (ft l s lb pb SP) w w5 := (up2.drewN 1).trans (u5.mono fun i _ h => .inl h)
  have p5 := hp5
  clear qc1 qc2 qx3 qx2 rc1 rc2 rx3 m2 B5 B6 HKA hnw R2 c1 c2 x0 x1 x2 x3 x4 x5 ha2 hd2 hp2 up2 u5 hp5
  have A6 := A5.setP ht 2 (by decide) (.int .i64 g) { x with a := g } (by rw [HX.out]; rfl) ⟨⟨o1, o2⟩, ⟨o3, o4⟩, hgr, ⟨o7, o8⟩, ⟨o9, o10⟩, ⟨o11, o12⟩⟩
  have U6 := Upd.one w5 pb (t * 6 + 2) (.int .i64 g)
  have R6 := R5.set_ne (fun e => hDn pb (by simp [ft]) e.symm) (t * 6 + 2) (.int .i64 g)
  have p6 := p5.keep U6 (fun i hi e => hsep.2.2.2 (e ▸ hi))
  have up6 := up5.trans (U6.mono fun i _ e => (by rw [e]; simp [ft] : ft l s lb pb SP i))
  obtain ⟨w6, hw6⟩ : ∃ w', w5.setCell ⟨pb, t * 6 + 2, none⟩ (.int .i64 g) = w' := ⟨_, rfl⟩
  rw [hw6] at A6 R6 p6 up6 ⊢
  clear hw6 A5 R5 p5 up5 U6
  have v5 := A6.cell ht 5 (by decide) _ rfl
  have fv5 := A6.plc.frozen (t * 6 + 5)
  rw [pl_set _ _ HTP.out, if_pos rfl] at v5
  have A7 := A6.setP ht 5 (by decide) (.int .i64 5) { x with a := g, s := 5 } (by rw [pl_set _ _ HTP.out, if_pos rfl]; rfl) ⟨⟨o1, o2⟩, ⟨o3, o4⟩, hgr, ⟨o7, o8⟩, ⟨o9, o10⟩, ⟨(by decide : (0 : Int) ≤ 5), (by decide : (5 : Int) ≤ 7)⟩⟩
  rw [List.set_set] at A7
  have U7 := Upd.one w6 pb (t * 6 + 5) (.int .i64 5)
  have R7 := R6.set_ne (fun e => hDn pb (by simp [ft]) e.symm) (t * 6 + 5) (.int .i64 5)
  have p7 := p6.keep U7 (fun i hi e => hsep.2.2.2 (e ▸ hi))
  have up7 := up6.trans (U7.mono fun i _ e => (by rw [e]; simp [ft] : ft l s lb pb SP i))
  go_upto_region 24 with (fail)
  obtain ⟨w7, hw7⟩ : ∃ w', w6.setCell ⟨pb, t * 6 + 5, none⟩ (.int .i64 5) = w' := ⟨_, rfl⟩
  rw [hw7] at A7 R7 p7 up7 ⊢
  clear hw7 A6 R6 p6 up6 U7 v5 fv5
  have y0 := R7.cell (i := 0) rfl
  have y1 := R7.cell (i := 1) rfl
  have y2 := R7.cell (i := 2) rfl
  have y3 := R7.cell (i := 3) rfl
  have f0 := R7.frozen 0
  have f1 := R7.frozen 1
  have f2 := R7.frozen 2
  have f3 := R7.frozen 3
  go_wp2_with fail
  obtain ⟨w8, hw8, RE, UE⟩ := did_end R7 (.int .i64 0) (.bool false) (.bool true) (.bool false)
  rw [hw8]
  have g0 := RE.cell (i := 0) rfl
  have g1 := RE.cell (i := 1) rfl
  have g2 := RE.cell (i := 2) rfl
  have g3 := RE.cell (i := 3) rfl
  refine bodyPost_ret (v := didv (0, false, true, false)) (by simp [results, Try.results38, go_sem, didv, g0, g1, g2, g3]) rfl ?_
  rw [E.out]
  refine ⟨rfl, ⟨A7.keepD UE hDn, p7.keep UE (fun i hi e => hDn i (.inl hi) e), ?_, hsep⟩, up7.then UE (fun i hi e => by have := HD.out; omega)⟩
  exact Nat.le_trans (Cache.after_len _ _ _ _ _ _) (by have := HFEW.out; omega)
set_option maxHeartbeats 8000000 in
set_option maxRecDepth 20000 in
theorem lock5 {w : World} {b : Nat} {st : St} (h : O l s lb pb cap p SP k hs tl w b st) (hb : b < 1000000) (t : Nat) (ht : t < st.seats.length) (a : Int) (h0 : (st.pls.getD t p0).s = 5) :
    Calls Try.prog 38 #[.pointer (some ⟨l, 0, none⟩), .pointer (some ⟨pb, t * 6, none⟩), .int .i64 a] w fun e w' =>
      e = .returned (didv (lockS k tl st t a).1) ∧ O l s lb pb cap p SP k hs tl w' (b + 1) (lockS k tl st t a).2 ∧ Upd (ft l s lb pb SP) w w' := by
  obtain ⟨ha, hp, hf, hsep⟩ := h
  have hup0 : Upd (ft l s lb pb SP) w (w.alloc (.cells #[.int .i64 0, .bool false, .bool false, .bool false] 50)) := (Upd.refl _ _).alloc _
  have ha1 := ha.keep ((Upd.refl (fun _ => False) w).alloc (.cells #[.int .i64 0, .bool false, .bool false, .bool false] 50)) id id id id
  have hp1 := hp.alloc (.cells #[.int .i64 0, .bool false, .bool false, .bool false] 50)
  have R1 : Row (w.alloc (.cells #[.int .i64 0, .bool false, .bool false, .bool false] 50)) w.heap.size [.int .i64 0, .bool false, .bool false, .bool false] := Row.new' rfl
  obtain ⟨D, hD⟩ : ∃ D, w.heap.size = D := ⟨_, rfl⟩
  have hlD : ∀ i, ft l s lb pb SP i → i < D := by
    intro i hi
    rw [← hD]
    rcases hi with hi | rfl | rfl | rfl | rfl
    · obtain ⟨_, hl⟩ := hp; exact hl i hi
    · exact ha.top.lt
    · exact ha.seat.top.lt
    · exact ha.seat.row.lt
    · exact ha.plc.lt
  have HD := Lib.hid hD
  obtain ⟨W, hW⟩ : ∃ W, w.alloc (.cells #[.int .i64 0, .bool false, .bool false, .bool false] 50) = W := ⟨_, rfl⟩
  rw [hD] at R1
  rw [hW] at hup0 ha1 hp1 R1
  have HW := Lib.hid hW
  clear hD hW ha hp
  have hDn : ∀ i, ft l s lb pb SP i → i ≠ D := fun i hi e => by have := hlD i hi; omega
  have tl0 := ha1.tl0
  obtain ⟨x, hx⟩ : ∃ y, st.pls.getD t p0 = y := ⟨_, rfl⟩
  have hok := ha1.ok t (by rw [ha1.l1]; exact ht)
  have HFEW := Lib.hid hf
  have k2 := ha1.top.cell (i := 2) rfl
  have k0 := ha1.cell ht 0 (by decide) _ rfl
  have k5 := ha1.cell ht 5 (by decide) _ rfl
  rw [hx] at hok h0 k0 k5
  rw [Nat.add_zero] at k0
  obtain ⟨⟨o1, o2⟩, ⟨o3, o4⟩, ⟨o5, o6⟩, ⟨o7, o8⟩, ⟨o9, o10⟩, o11, o12⟩ := hok
  have hw1 : IntKind.i64.wrap (tl + 1) = tl + 1 := IntWalk.i64_in _ (by omega)
  have hw2 : IntKind.i64.wrap (tl + 1 + x.c) = tl + 1 + x.c := IntWalk.i64_in _ (by omega)
  rw [h0] at k5
  go_enter Try.func38, Try.ntmps38
  go_upto_region 1 with (fail)
  rw [HW.out, HD.out]
  go_quiet (fail)
  have ha2 := ha1.keep ((Upd.refl (fun _ => False) W).drewN nq) id id id id
  have hp2 := hp1.drewN nq
  have R2 := R1.drewN nq
  have up2 := hup0.drewN nq
  obtain ⟨W', hW'⟩ : ∃ W', W.drewN nq = W' := ⟨_, rfl⟩
  rw [hW'] at ha2 hp2 R2 up2 ⊢
  clear hW' k2 k0 k5 ha1 hp1 R1 hup0 hw1 hw2
  have c1 := ha2.top.cell (i := 1) rfl
  have c2 := ha2.top.cell (i := 2) rfl
  have x0 := ha2.cell ht 0 (by decide) _ rfl
  have x1 := ha2.cell ht 1 (by decide) _ rfl
  have x2 := ha2.cell ht 2 (by decide) _ rfl
  have x3 := ha2.cell ht 3 (by decide) _ rfl
  have x4 := ha2.cell ht 4 (by decide) _ rfl
  have x5 := ha2.cell ht 5 (by decide) _ rfl
  rw [hx] at x0 x1 x2 x3 x4 x5
  rw [Nat.add_zero] at x0
  rw [h0] at x5
  have htp : t < st.pls.length := by rw [ha2.l1]; exact ht
  have HTP := Lib.hid htp
  have HX := Lib.hid hx
  have hd2 := ha2.keep ((Upd.refl (fun _ => False) W').drewN 1) id id id id
  clear htp
  have E := Lib.hid (show lockS k tl st t a = ((0, false, false, false), { st with pls := st.pls.set t { x with w := rd k st.ws a (nodeA tl x.l), s := 6 }, ts := Cache.after k st.ws.length st.ts a (nodeA tl x.l) false }) by unfold lockS ownA; rw [hx]; dsimp only; rw [if_neg (by omega), if_neg (by omega), if_neg (by omega), if_neg (by omega), if_neg (by omega), if_pos h0])
  have KN := atC (W'.drewN 1) c2 tl0 x.l ⟨o7, o8⟩
  obtain ⟨nv, hnv⟩ : ∃ nv, nodeA tl x.l = nv := ⟨_, rfl⟩
  have hna : -1 ≤ nv ∧ nv ≤ 10000000000 := by rw [← hnv]; unfold nodeA; omega
  rw [hnv] at KN E
  obtain ⟨g, hg⟩ : ∃ g, rd k st.ws a (nv) = g := ⟨_, rfl⟩
  have hgr : 0 ≤ g ∧ g < 4294967296 := by rw [← hg]; exact rd_wd hp2.wd _ _ _
  rw [hg] at E
  have KA := Port.loadP _ p SP k st.ws hs st.ts (hp2.drewN 1) (by omega) a (nv)
  rw [show (if Mem.inB a k = true then Mem.get st.ws (nv) else 0) = g from hg] at KA
  have HKN := Lib.hid KN
  have HKA := Lib.hid KA
  clear KN KA hnv hx hg
  go_upto_block 0 with (fail)
  go_wp2_with fail
  go_region_held3 (fun w' => w'.cell? ⟨l, 1, none⟩ = some (.pointer (some ⟨p, 0, none⟩)) ∧ w'.cell? ⟨pb, t * 6 + 3, none⟩ = some (.int .i64 x.l)) ((first | exact ⟨c1, x3⟩ | exact ⟨qc1, qx3⟩ | exact ⟨rc1, rx3⟩))
    ((first | (go_at_call 50; refine HKN.out.mono ?_; rintro e w4 ⟨rfl, rfl⟩) | (go_at_call 52; refine HKA.out.mono ?_; rintro e w5 ⟨rfl, hp5, u5⟩; have qc1 := cell_upd u5 c1 hsep.1; have qx3 := cell_upd u5 x3 hsep.2.2.2; have qx4 := cell_upd u5 x4 hsep.2.2.2; have B5 := hd2.keep u5 hsep.1 hsep.2.1 hsep.2.2.1 hsep.2.2.2; have m4 := B5.plc.frozen (t * 6 + 4); have B6 := B5.setP ht 4 (by decide) (.int .u32 g) { x with w := g } (by rw [HX.out]; rfl) ⟨⟨o1, o2⟩, ⟨o3, o4⟩, ⟨o5, o6⟩, ⟨o7, o8⟩, hgr, ⟨o11, o12⟩⟩; have rc1 := B6.top.cell (i := 1) rfl; have rx3 : (w5.setCell ⟨pb, t * 6 + 4, none⟩ (.int .u32 g)).cell? ⟨pb, t * 6 + 3, none⟩ = some (.int .i64 x.l) := by have r0 := B6.cell ht 3 (by decide) _ rfl; rw [pl_set _ _ HTP.out, if_pos rfl] at r0; exact r0)))
  have A5 := hd2.keep u5 hsep.1 hsep.2.1 hsep.2.2.1 hsep.2.2.2
  have R5 := (R2.drewN 1).upd u5 (fun e => hDn D (.inl e) rfl)
  have up5 : Upd (ft l s lb pb SP) w w5 := (up2.drewN 1).trans (u5.mono fun i _ h => .inl h)
  have p5 := hp5
  clear qc1 qx3 qx4 rc1 rx3 m4 B5 B6 HKA HKN R2 c1 c2 x0 x1 x2 x3 x4 x5 ha2 hd2 hp2 up2 u5 hp5
  have A6 := A5.setP ht 4 (by decide) (.int .u32 g) { x with w := g } (by rw [HX.out]; rfl) ⟨⟨o1, o2⟩, ⟨o3, o4⟩, ⟨o5, o6⟩, ⟨o7, o8⟩, hgr, ⟨o11, o12⟩⟩
  have U6 := Upd.one w5 pb (t * 6 + 4) (.int .u32 g)
  have R6 := R5.set_ne (fun e => hDn pb (by simp [ft]) e.symm) (t * 6 + 4) (.int .u32 g)
  have p6 := p5.keep U6 (fun i hi e => hsep.2.2.2 (e ▸ hi))
  have up6 := up5.trans (U6.mono fun i _ e => (by rw [e]; simp [ft] : ft l s lb pb SP i))
  obtain ⟨w6, hw6⟩ : ∃ w', w5.setCell ⟨pb, t * 6 + 4, none⟩ (.int .u32 g) = w' := ⟨_, rfl⟩
  rw [hw6] at A6 R6 p6 up6 ⊢
  clear hw6 A5 R5 p5 up5 U6
  have v5 := A6.cell ht 5 (by decide) _ rfl
  have fv5 := A6.plc.frozen (t * 6 + 5)
  rw [pl_set _ _ HTP.out, if_pos rfl] at v5
  have A7 := A6.setP ht 5 (by decide) (.int .i64 6) { x with w := g, s := 6 } (by rw [pl_set _ _ HTP.out, if_pos rfl]; rfl) ⟨⟨o1, o2⟩, ⟨o3, o4⟩, ⟨o5, o6⟩, ⟨o7, o8⟩, hgr, ⟨(by decide : (0 : Int) ≤ 6), (by decide : (6 : Int) ≤ 7)⟩⟩
  rw [List.set_set] at A7
  have U7 := Upd.one w6 pb (t * 6 + 5) (.int .i64 6)
  have R7 := R6.set_ne (fun e => hDn pb (by simp [ft]) e.symm) (t * 6 + 5) (.int .i64 6)
  have p7 := p6.keep U7 (fun i hi e => hsep.2.2.2 (e ▸ hi))
  have up7 := up6.trans (U7.mono fun i _ e => (by rw [e]; simp [ft] : ft l s lb pb SP i))
  go_upto_region 35 with (fail)
  obtain ⟨w7, hw7⟩ : ∃ w', w6.setCell ⟨pb, t * 6 + 5, none⟩ (.int .i64 6) = w' := ⟨_, rfl⟩
  rw [hw7] at A7 R7 p7 up7 ⊢
  clear hw7 A6 R6 p6 up6 U7 v5 fv5
  have y0 := R7.cell (i := 0) rfl
  have y1 := R7.cell (i := 1) rfl
  have y2 := R7.cell (i := 2) rfl
  have y3 := R7.cell (i := 3) rfl
  have f0 := R7.frozen 0
  have f1 := R7.frozen 1
  have f2 := R7.frozen 2
  have f3 := R7.frozen 3
  go_wp2_with fail
  obtain ⟨w8, hw8, RE, UE⟩ := did_end R7 (.int .i64 0) (.bool false) (.bool false) (.bool false)
  rw [hw8]
  have g0 := RE.cell (i := 0) rfl
  have g1 := RE.cell (i := 1) rfl
  have g2 := RE.cell (i := 2) rfl
  have g3 := RE.cell (i := 3) rfl
  refine bodyPost_ret (v := didv (0, false, false, false)) (by simp [results, Try.results38, go_sem, didv, g0, g1, g2, g3]) rfl ?_
  rw [E.out]
  refine ⟨rfl, ⟨A7.keepD UE hDn, p7.keep UE (fun i hi e => hDn i (.inl hi) e), ?_, hsep⟩, up7.then UE (fun i hi e => by have := HD.out; omega)⟩
  exact Nat.le_trans (Cache.after_len _ _ _ _ _ _) (by have := HFEW.out; omega)
set_option maxHeartbeats 8000000 in
set_option maxRecDepth 20000 in
theorem lock6y {w : World} {b : Nat} {st : St} (h : O l s lb pb cap p SP k hs tl w b st) (hb : b < 1000000) (t : Nat) (ht : t < st.seats.length) (a : Int) (h0 : (st.pls.getD t p0).s = 6) (hc : (Mem.inB a k && Mem.casB st.ws (nodeA tl (st.pls.getD t p0).l) (st.pls.getD t p0).w) = true) :
    Calls Try.prog 38 #[.pointer (some ⟨l, 0, none⟩), .pointer (some ⟨pb, t * 6, none⟩), .int .i64 a] w fun e w' =>
      e = .returned (didv (lockS k tl st t a).1) ∧ O l s lb pb cap p SP k hs tl w' (b + 1) (lockS k tl st t a).2 ∧ Upd (ft l s lb pb SP) w w' := by
  obtain ⟨ha, hp, hf, hsep⟩ := h
  have hup0 : Upd (ft l s lb pb SP) w (w.alloc (.cells #[.int .i64 0, .bool false, .bool false, .bool false] 50)) := (Upd.refl _ _).alloc _
  have ha1 := ha.keep ((Upd.refl (fun _ => False) w).alloc (.cells #[.int .i64 0, .bool false, .bool false, .bool false] 50)) id id id id
  have hp1 := hp.alloc (.cells #[.int .i64 0, .bool false, .bool false, .bool false] 50)
  have R1 : Row (w.alloc (.cells #[.int .i64 0, .bool false, .bool false, .bool false] 50)) w.heap.size [.int .i64 0, .bool false, .bool false, .bool false] := Row.new' rfl
  obtain ⟨D, hD⟩ : ∃ D, w.heap.size = D := ⟨_, rfl⟩
  have hlD : ∀ i, ft l s lb pb SP i → i < D := by
    intro i hi
    rw [← hD]
    rcases hi with hi | rfl | rfl | rfl | rfl
    · obtain ⟨_, hl⟩ := hp; exact hl i hi
    · exact ha.top.lt
    · exact ha.seat.top.lt
    · exact ha.seat.row.lt
    · exact ha.plc.lt
  have HD := Lib.hid hD
  obtain ⟨W, hW⟩ : ∃ W, w.alloc (.cells #[.int .i64 0, .bool false, .bool false, .bool false] 50) = W := ⟨_, rfl⟩
  rw [hD] at R1
  rw [hW] at hup0 ha1 hp1 R1
  have HW := Lib.hid hW
  clear hD hW ha hp
  have hDn : ∀ i, ft l s lb pb SP i → i ≠ D := fun i hi e => by have := hlD i hi; omega
  have tl0 := ha1.tl0
  obtain ⟨x, hx⟩ : ∃ y, st.pls.getD t p0 = y := ⟨_, rfl⟩
  have hok := ha1.ok t (by rw [ha1.l1]; exact ht)
  have HFEW := Lib.hid hf
  have k2 := ha1.top.cell (i := 2) rfl
  have k0 := ha1.cell ht 0 (by decide) _ rfl
  have k5 := ha1.cell ht 5 (by decide) _ rfl
  rw [hx] at hok h0 hc k0 k5
  rw [Nat.add_zero] at k0
  obtain ⟨⟨o1, o2⟩, ⟨o3, o4⟩, ⟨o5, o6⟩, ⟨o7, o8⟩, ⟨o9, o10⟩, o11, o12⟩ := hok
  have hw1 : IntKind.i64.wrap (tl + 1) = tl + 1 := IntWalk.i64_in _ (by omega)
  have hw2 : IntKind.i64.wrap (tl + 1 + x.c) = tl + 1 + x.c := IntWalk.i64_in _ (by omega)
  rw [h0] at k5
  go_enter Try.func38, Try.ntmps38
  go_upto_region 1 with (fail)
  rw [HW.out, HD.out]
  go_quiet (fail)
  have ha2 := ha1.keep ((Upd.refl (fun _ => False) W).drewN nq) id id id id
  have hp2 := hp1.drewN nq
  have R2 := R1.drewN nq
  have up2 := hup0.drewN nq
  obtain ⟨W', hW'⟩ : ∃ W', W.drewN nq = W' := ⟨_, rfl⟩
  rw [hW'] at ha2 hp2 R2 up2 ⊢
  clear hW' k2 k0 k5 ha1 hp1 R1 hup0 hw1 hw2
  have c1 := ha2.top.cell (i := 1) rfl
  have c2 := ha2.top.cell (i := 2) rfl
  have x0 := ha2.cell ht 0 (by decide) _ rfl
  have x1 := ha2.cell ht 1 (by decide) _ rfl
  have x2 := ha2.cell ht 2 (by decide) _ rfl
  have x3 := ha2.cell ht 3 (by decide) _ rfl
  have x4 := ha2.cell ht 4 (by decide) _ rfl
  have x5 := ha2.cell ht 5 (by decide) _ rfl
  rw [hx] at x0 x1 x2 x3 x4 x5
  rw [Nat.add_zero] at x0
  rw [h0] at x5
  have htp : t < st.pls.length := by rw [ha2.l1]; exact ht
  have HTP := Lib.hid htp
  have HX := Lib.hid hx
  have hd2 := ha2.keep ((Upd.refl (fun _ => False) W').drewN 1) id id id id
  clear htp
  have E := Lib.hid (show lockS k tl st t a = ((0, false, false, false), { st with pls := st.pls.set t { x with s := 7 }, ws := Mem.put st.ws (nodeA tl x.l) (x.w + 1 - x.w % 2), ts := Cache.after k st.ws.length st.ts a (nodeA tl x.l) true }) by unfold lockS ownA; rw [hx]; dsimp only; rw [if_neg (by omega), if_neg (by omega), if_neg (by omega), if_neg (by omega), if_neg (by omega), if_neg (by omega), if_pos h0, if_pos hc])
  clear hd2
  have A5' := ha2
  have w5' : World := W'
  obtain ⟨w3, hw3⟩ : ∃ w3, W' = w3 := ⟨_, rfl⟩
  rw [hw3] at ha2 hp2 R2 up2 c1 c2 x0 x1 x2 x3 x4 x5 A5' ⊢
  clear hw3 A5' w5'
  have A3 := ha2
  have R3 := R2
  have p3 := hp2
  have up3 := up2
  clear ha2 R2 hp2 up2 c1 c2 x0 x1 x2 x3 x4
  have v5 := A3.cell ht 5 (by decide) _ rfl
  have fv5 := A3.plc.frozen (t * 6 + 5)
  rw [HX.out] at v5
  have A4 := A3.setP ht 5 (by decide) (.int .i64 5) { x with s := 5 } (by rw [HX.out]; rfl) ⟨⟨o1, o2⟩, ⟨o3, o4⟩, ⟨o5, o6⟩, ⟨o7, o8⟩, ⟨o9, o10⟩, ⟨(by decide : (0 : Int) ≤ 5), (by decide : (5 : Int) ≤ 7)⟩⟩
  have U4 := Upd.one w3 pb (t * 6 + 5) (.int .i64 5)
  have R4 := R3.set_ne (fun e => hDn pb (by simp [ft]) e.symm) (t * 6 + 5) (.int .i64 5)
  have p4 := p3.keep U4 (fun i hi e => hsep.2.2.2 (e ▸ hi))
  have up4 := up3.trans (U4.mono fun i _ e => (by rw [e]; simp [ft] : ft l s lb pb SP i))
  rw [h0] at v5
  clear x5
  go_upto_block 0 with (fail)
  have x5 := v5
  go_upto_region 30 with (fail)
  obtain ⟨w4, hw4⟩ : ∃ w', w3.setCell ⟨pb, t * 6 + 5, none⟩ (.int .i64 5) = w' := ⟨_, rfl⟩
  rw [hw4] at A4 R4 p4 up4 ⊢
  clear hw4 A3 R3 p3 up3 U4 v5 fv5 x5
  have ha2 := A4
  have hp2 := p4
  have R2 := R4
  have up2 := up4
  have c1 := ha2.top.cell (i := 1) rfl
  have c2 := ha2.top.cell (i := 2) rfl
  have x3 := ha2.cell ht 3 (by decide) _ rfl
  have x4 := ha2.cell ht 4 (by decide) _ rfl
  rw [pl_set _ _ HTP.out, if_pos rfl] at x3 x4
  have hd2 := ha2.keep ((Upd.refl (fun _ => False) w4).drewN 1) id id id id
  clear A4 p4 R4 up4
  have KN := atC (w4.drewN 1) c2 tl0 x.l ⟨o7, o8⟩
  obtain ⟨nv, hnv⟩ : ∃ nv, nodeA tl x.l = nv := ⟨_, rfl⟩
  have hna : -1 ≤ nv ∧ nv ≤ 10000000000 := by rw [← hnv]; unfold nodeA; omega
  rw [hnv] at KN E hc
  have hwr : 0 ≤ x.w + 1 - x.w % 2 ∧ x.w + 1 - x.w % 2 < 4294967296 := by omega
  have KP := fun w => Pack.splice_to x.w w (x.w + 1 - x.w % 2) o9 o10 rfl
  have HKP := Lib.hid KP
  obtain ⟨nw, hnw⟩ : ∃ nw, x.w + 1 - x.w % 2 = nw := ⟨_, rfl⟩
  have KA := Port.casP _ p SP k st.ws hs st.ts (hp2.drewN 1) (by omega) a nv x.w (x.w + 1 - x.w % 2) hwr.1 hwr.2
  rw [hc] at KA
  rw [hnw] at KA HKP
  (try rw [hnw] at E)
  have HKN := Lib.hid KN
  have HKA := Lib.hid KA
  clear KN KP KA hnv hx hnw hwr
  go_wp2_with fail
  go_region_held3 (fun w' => w'.cell? ⟨l, 1, none⟩ = some (.pointer (some ⟨p, 0, none⟩)) ∧ w'.cell? ⟨pb, t * 6 + 3, none⟩ = some (.int .i64 x.l) ∧ w'.cell? ⟨pb, t * 6 + 4, none⟩ = some (.int .u32 x.w)) ((first | exact ⟨c1, x3, x4⟩ | exact ⟨qc1, qx3, qx4⟩))
    ((first | (go_at_call 50; refine HKN.out.mono ?_; rintro e w4 ⟨rfl, rfl⟩) | (go_at_call 58; refine (HKP.out _).mono ?_; rintro e w4 ⟨rfl, rfl⟩) | (go_at_call 57; refine HKA.out.mono ?_; rintro e w5 ⟨rfl, hp5, u5⟩; have qc1 := cell_upd u5 c1 hsep.1; have qx3 := cell_upd u5 x3 hsep.2.2.2; have qx4 := cell_upd u5 x4 hsep.2.2.2)))
  have A5 := hd2.keep u5 hsep.1 hsep.2.1 hsep.2.2.1 hsep.2.2.2
  have R5 := (R2.drewN 1).upd u5 (fun e => hDn D (.inl e) rfl)
  have up5 : Upd (ft l s lb pb SP) w w5 := (up2.drewN 1).trans (u5.mono fun i _ h => .inl h)
  have p5 := hp5
  clear qc1 qx3 qx4 HKA HKN HKP R2 c1 c2 x3 x4 ha2 hd2 hp2 up2 u5 hp5
  have v5 := A5.cell ht 5 (by decide) _ rfl
  have fv5 := A5.plc.frozen (t * 6 + 5)
  rw [pl_set _ _ HTP.out, if_pos rfl] at v5
  have A7 := A5.setP ht 5 (by decide) (.int .i64 7) { x with s := 7 } (by rw [pl_set _ _ HTP.out, if_pos rfl]; rfl) ⟨⟨o1, o2⟩, ⟨o3, o4⟩, ⟨o5, o6⟩, ⟨o7, o8⟩, ⟨o9, o10⟩, ⟨(by decide : (0 : Int) ≤ 7), (by decide : (7 : Int) ≤ 7)⟩⟩
  rw [List.set_set] at A7
  have U7 := Upd.one w5 pb (t * 6 + 5) (.int .i64 7)
  have R7 := R5.set_ne (fun e => hDn pb (by simp [ft]) e.symm) (t * 6 + 5) (.int .i64 7)
  have p7 := p5.keep U7 (fun i hi e => hsep.2.2.2 (e ▸ hi))
  have up7 := up5.trans (U7.mono fun i _ e => (by rw [e]; simp [ft] : ft l s lb pb SP i))
  go_upto_region 35 with (fail)
  obtain ⟨w7, hw7⟩ : ∃ w', w5.setCell ⟨pb, t * 6 + 5, none⟩ (.int .i64 7) = w' := ⟨_, rfl⟩
  rw [hw7] at A7 R7 p7 up7 ⊢
  clear hw7 A5 R5 p5 up5 U7 v5 fv5
  have y0 := R7.cell (i := 0) rfl
  have y1 := R7.cell (i := 1) rfl
  have y2 := R7.cell (i := 2) rfl
  have y3 := R7.cell (i := 3) rfl
  have f0 := R7.frozen 0
  have f1 := R7.frozen 1
  have f2 := R7.frozen 2
  have f3 := R7.frozen 3
  go_wp2_with fail
  obtain ⟨w8, hw8, RE, UE⟩ := did_end R7 (.int .i64 0) (.bool false) (.bool false) (.bool false)
  rw [hw8]
  have g0 := RE.cell (i := 0) rfl
  have g1 := RE.cell (i := 1) rfl
  have g2 := RE.cell (i := 2) rfl
  have g3 := RE.cell (i := 3) rfl
  refine bodyPost_ret (v := didv (0, false, false, false)) (by simp [results, Try.results38, go_sem, didv, g0, g1, g2, g3]) rfl ?_
  rw [E.out]
  refine ⟨rfl, ⟨A7.keepD UE hDn, p7.keep UE (fun i hi e => hDn i (.inl hi) e), ?_, hsep⟩, up7.then UE (fun i hi e => by have := HD.out; omega)⟩
  exact Nat.le_trans (Cache.after_len _ _ _ _ _ _) (by have := HFEW.out; omega)
set_option maxHeartbeats 8000000 in
set_option maxRecDepth 20000 in
theorem lock6n {w : World} {b : Nat} {st : St} (h : O l s lb pb cap p SP k hs tl w b st) (hb : b < 1000000) (t : Nat) (ht : t < st.seats.length) (a : Int) (h0 : (st.pls.getD t p0).s = 6) (hc : (Mem.inB a k && Mem.casB st.ws (nodeA tl (st.pls.getD t p0).l) (st.pls.getD t p0).w) = false) :
    Calls Try.prog 38 #[.pointer (some ⟨l, 0, none⟩), .pointer (some ⟨pb, t * 6, none⟩), .int .i64 a] w fun e w' =>
      e = .returned (didv (lockS k tl st t a).1) ∧ O l s lb pb cap p SP k hs tl w' (b + 1) (lockS k tl st t a).2 ∧ Upd (ft l s lb pb SP) w w' := by
  obtain ⟨ha, hp, hf, hsep⟩ := h
  have hup0 : Upd (ft l s lb pb SP) w (w.alloc (.cells #[.int .i64 0, .bool false, .bool false, .bool false] 50)) := (Upd.refl _ _).alloc _
  have ha1 := ha.keep ((Upd.refl (fun _ => False) w).alloc (.cells #[.int .i64 0, .bool false, .bool false, .bool false] 50)) id id id id
  have hp1 := hp.alloc (.cells #[.int .i64 0, .bool false, .bool false, .bool false] 50)
  have R1 : Row (w.alloc (.cells #[.int .i64 0, .bool false, .bool false, .bool false] 50)) w.heap.size [.int .i64 0, .bool false, .bool false, .bool false] := Row.new' rfl
  obtain ⟨D, hD⟩ : ∃ D, w.heap.size = D := ⟨_, rfl⟩
  have hlD : ∀ i, ft l s lb pb SP i → i < D := by
    intro i hi
    rw [← hD]
    rcases hi with hi | rfl | rfl | rfl | rfl
    · obtain ⟨_, hl⟩ := hp; exact hl i hi
    · exact ha.top.lt
    · exact ha.seat.top.lt
    · exact ha.seat.row.lt
    · exact ha.plc.lt
  have HD := Lib.hid hD
  obtain ⟨W, hW⟩ : ∃ W, w.alloc (.cells #[.int .i64 0, .bool false, .bool false, .bool false] 50) = W := ⟨_, rfl⟩
  rw [hD] at R1
  rw [hW] at hup0 ha1 hp1 R1
  have HW := Lib.hid hW
  clear hD hW ha hp
  have hDn : ∀ i, ft l s lb pb SP i → i ≠ D := fun i hi e => by have := hlD i hi; omega
  have tl0 := ha1.tl0
  obtain ⟨x, hx⟩ : ∃ y, st.pls.getD t p0 = y := ⟨_, rfl⟩
  have hok := ha1.ok t (by rw [ha1.l1]; exact ht)
  have HFEW := Lib.hid hf
  have k2 := ha1.top.cell (i := 2) rfl
  have k0 := ha1.cell ht 0 (by decide) _ rfl
  have k5 := ha1.cell ht 5 (by decide) _ rfl
  rw [hx] at hok h0 hc k0 k5
  rw [Nat.add_zero] at k0
  obtain ⟨⟨o1, o2⟩, ⟨o3, o4⟩, ⟨o5, o6⟩, ⟨o7, o8⟩, ⟨o9, o10⟩, o11, o12⟩ := hok
  have hw1 : IntKind.i64.wrap (tl + 1) = tl + 1 := IntWalk.i64_in _ (by omega)
  have hw2 : IntKind.i64.wrap (tl + 1 + x.c) = tl + 1 + x.c := IntWalk.i64_in _ (by omega)
  rw [h0] at k5
  go_enter Try.func38, Try.ntmps38
  go_upto_region 1 with (fail)
  rw [HW.out, HD.out]
  go_quiet (fail)
  have ha2 := ha1.keep ((Upd.refl (fun _ => False) W).drewN nq) id id id id
  have hp2 := hp1.drewN nq
  have R2 := R1.drewN nq
  have up2 := hup0.drewN nq
  obtain ⟨W', hW'⟩ : ∃ W', W.drewN nq = W' := ⟨_, rfl⟩
  rw [hW'] at ha2 hp2 R2 up2 ⊢
  clear hW' k2 k0 k5 ha1 hp1 R1 hup0 hw1 hw2
  have c1 := ha2.top.cell (i := 1) rfl
  have c2 := ha2.top.cell (i := 2) rfl
  have x0 := ha2.cell ht 0 (by decide) _ rfl
  have x1 := ha2.cell ht 1 (by decide) _ rfl
  have x2 := ha2.cell ht 2 (by decide) _ rfl
  have x3 := ha2.cell ht 3 (by decide) _ rfl
  have x4 := ha2.cell ht 4 (by decide) _ rfl
  have x5 := ha2.cell ht 5 (by decide) _ rfl
  rw [hx] at x0 x1 x2 x3 x4 x5
  rw [Nat.add_zero] at x0
  rw [h0] at x5
  have htp : t < st.pls.length := by rw [ha2.l1]; exact ht
  have HTP := Lib.hid htp
  have HX := Lib.hid hx
  have hd2 := ha2.keep ((Upd.refl (fun _ => False) W').drewN 1) id id id id
  clear htp
  have E := Lib.hid (show lockS k tl st t a = ((0, false, false, false), { st with pls := st.pls.set t { x with s := 5 }, ts := Cache.after k st.ws.length st.ts a (nodeA tl x.l) true }) by unfold lockS ownA; rw [hx]; dsimp only; rw [if_neg (by omega), if_neg (by omega), if_neg (by omega), if_neg (by omega), if_neg (by omega), if_neg (by omega), if_pos h0, if_neg (by rw [hc]; decide)])
  clear hd2
  have A5' := ha2
  have w5' : World := W'
  obtain ⟨w3, hw3⟩ : ∃ w3, W' = w3 := ⟨_, rfl⟩
  rw [hw3] at ha2 hp2 R2 up2 c1 c2 x0 x1 x2 x3 x4 x5 A5' ⊢
  clear hw3 A5' w5'
  have A3 := ha2
  have R3 := R2
  have p3 := hp2
  have up3 := up2
  clear ha2 R2 hp2 up2 c1 c2 x0 x1 x2 x3 x4
  have v5 := A3.cell ht 5 (by decide) _ rfl
  have fv5 := A3.plc.frozen (t * 6 + 5)
  rw [HX.out] at v5
  have A4 := A3.setP ht 5 (by decide) (.int .i64 5) { x with s := 5 } (by rw [HX.out]; rfl) ⟨⟨o1, o2⟩, ⟨o3, o4⟩, ⟨o5, o6⟩, ⟨o7, o8⟩, ⟨o9, o10⟩, ⟨(by decide : (0 : Int) ≤ 5), (by decide : (5 : Int) ≤ 7)⟩⟩
  have U4 := Upd.one w3 pb (t * 6 + 5) (.int .i64 5)
  have R4 := R3.set_ne (fun e => hDn pb (by simp [ft]) e.symm) (t * 6 + 5) (.int .i64 5)
  have p4 := p3.keep U4 (fun i hi e => hsep.2.2.2 (e ▸ hi))
  have up4 := up3.trans (U4.mono fun i _ e => (by rw [e]; simp [ft] : ft l s lb pb SP i))
  rw [h0] at v5
  clear x5
  go_upto_block 0 with (fail)
  have x5 := v5
  go_upto_region 30 with (fail)
  obtain ⟨w4, hw4⟩ : ∃ w', w3.setCell ⟨pb, t * 6 + 5, none⟩ (.int .i64 5) = w' := ⟨_, rfl⟩
  rw [hw4] at A4 R4 p4 up4 ⊢
  clear hw4 A3 R3 p3 up3 U4 v5 fv5 x5
  have ha2 := A4
  have hp2 := p4
  have R2 := R4
  have up2 := up4
  have c1 := ha2.top.cell (i := 1) rfl
  have c2 := ha2.top.cell (i := 2) rfl
  have x3 := ha2.cell ht 3 (by decide) _ rfl
  have x4 := ha2.cell ht 4 (by decide) _ rfl
  rw [pl_set _ _ HTP.out, if_pos rfl] at x3 x4
  have hd2 := ha2.keep ((Upd.refl (fun _ => False) w4).drewN 1) id id id id
  clear A4 p4 R4 up4
  have KN := atC (w4.drewN 1) c2 tl0 x.l ⟨o7, o8⟩
  obtain ⟨nv, hnv⟩ : ∃ nv, nodeA tl x.l = nv := ⟨_, rfl⟩
  have hna : -1 ≤ nv ∧ nv ≤ 10000000000 := by rw [← hnv]; unfold nodeA; omega
  rw [hnv] at KN E hc
  have hwr : 0 ≤ x.w + 1 - x.w % 2 ∧ x.w + 1 - x.w % 2 < 4294967296 := by omega
  have KP := fun w => Pack.splice_to x.w w (x.w + 1 - x.w % 2) o9 o10 rfl
  have HKP := Lib.hid KP
  obtain ⟨nw, hnw⟩ : ∃ nw, x.w + 1 - x.w % 2 = nw := ⟨_, rfl⟩
  have KA := Port.casP _ p SP k st.ws hs st.ts (hp2.drewN 1) (by omega) a nv x.w (x.w + 1 - x.w % 2) hwr.1 hwr.2
  rw [hc] at KA
  rw [hnw] at KA HKP
  (try rw [hnw] at E)
  have HKN := Lib.hid KN
  have HKA := Lib.hid KA
  clear KN KP KA hnv hx hnw hwr
  go_wp2_with fail
  go_region_held3 (fun w' => w'.cell? ⟨l, 1, none⟩ = some (.pointer (some ⟨p, 0, none⟩)) ∧ w'.cell? ⟨pb, t * 6 + 3, none⟩ = some (.int .i64 x.l) ∧ w'.cell? ⟨pb, t * 6 + 4, none⟩ = some (.int .u32 x.w)) ((first | exact ⟨c1, x3, x4⟩ | exact ⟨qc1, qx3, qx4⟩))
    ((first | (go_at_call 50; refine HKN.out.mono ?_; rintro e w4 ⟨rfl, rfl⟩) | (go_at_call 58; refine (HKP.out _).mono ?_; rintro e w4 ⟨rfl, rfl⟩) | (go_at_call 57; refine HKA.out.mono ?_; rintro e w5 ⟨rfl, hp5, u5⟩; have qc1 := cell_upd u5 c1 hsep.1; have qx3 := cell_upd u5 x3 hsep.2.2.2; have qx4 := cell_upd u5 x4 hsep.2.2.2)))
  have A5 := hd2.keep u5 hsep.1 hsep.2.1 hsep.2.2.1 hsep.2.2.2
  have R5 := (R2.drewN 1).upd u5 (fun e => hDn D (.inl e) rfl)
  have up5 : Upd (ft l s lb pb SP) w w5 := (up2.drewN 1).trans (u5.mono fun i _ h => .inl h)
  have p5 := hp5
  clear qc1 qx3 qx4 HKA HKN HKP R2 c1 c2 x3 x4 ha2 hd2 hp2 up2 u5 hp5
  go_upto_region 35 with (fail)
  have y0 := R5.cell (i := 0) rfl
  have y1 := R5.cell (i := 1) rfl
  have y2 := R5.cell (i := 2) rfl
  have y3 := R5.cell (i := 3) rfl
  have f0 := R5.frozen 0
  have f1 := R5.frozen 1
  have f2 := R5.frozen 2
  have f3 := R5.frozen 3
  go_wp2_with fail
  obtain ⟨w8, hw8, RE, UE⟩ := did_end R5 (.int .i64 0) (.bool false) (.bool false) (.bool false)
  rw [hw8]
  have g0 := RE.cell (i := 0) rfl
  have g1 := RE.cell (i := 1) rfl
  have g2 := RE.cell (i := 2) rfl
  have g3 := RE.cell (i := 3) rfl
  refine bodyPost_ret (v := didv (0, false, false, false)) (by simp [results, Try.results38, go_sem, didv, g0, g1, g2, g3]) rfl ?_
  rw [E.out]
  refine ⟨rfl, ⟨A5.keepD UE hDn, p5.keep UE (fun i hi e => hDn i (.inl hi) e), ?_, hsep⟩, up5.then UE (fun i hi e => by have := HD.out; omega)⟩
  exact Nat.le_trans (Cache.after_len _ _ _ _ _ _) (by have := HFEW.out; omega)
set_option maxHeartbeats 8000000 in
set_option maxRecDepth 20000 in
theorem lock7y {w : World} {b : Nat} {st : St} (h : O l s lb pb cap p SP k hs tl w b st) (hb : b < 1000000) (t : Nat) (ht : t < st.seats.length) (a : Int) (h0 : (st.pls.getD t p0).s = 7) (hw : rd k st.ws a (nodeA tl (st.pls.getD t p0).a) / 2 % 2 = 0) :
    Calls Try.prog 38 #[.pointer (some ⟨l, 0, none⟩), .pointer (some ⟨pb, t * 6, none⟩), .int .i64 a] w fun e w' =>
      e = .returned (didv (lockS k tl st t a).1) ∧ O l s lb pb cap p SP k hs tl w' (b + 1) (lockS k tl st t a).2 ∧ Upd (ft l s lb pb SP) w w' := by
  obtain ⟨ha, hp, hf, hsep⟩ := h
  have hup0 : Upd (ft l s lb pb SP) w (w.alloc (.cells #[.int .i64 0, .bool false, .bool false, .bool false] 50)) := (Upd.refl _ _).alloc _
  have ha1 := ha.keep ((Upd.refl (fun _ => False) w).alloc (.cells #[.int .i64 0, .bool false, .bool false, .bool false] 50)) id id id id
  have hp1 := hp.alloc (.cells #[.int .i64 0, .bool false, .bool false, .bool false] 50)
  have R1 : Row (w.alloc (.cells #[.int .i64 0, .bool false, .bool false, .bool false] 50)) w.heap.size [.int .i64 0, .bool false, .bool false, .bool false] := Row.new' rfl
  obtain ⟨D, hD⟩ : ∃ D, w.heap.size = D := ⟨_, rfl⟩
  have hlD : ∀ i, ft l s lb pb SP i → i < D := by
    intro i hi
    rw [← hD]
    rcases hi with hi | rfl | rfl | rfl | rfl
    · obtain ⟨_, hl⟩ := hp; exact hl i hi
    · exact ha.top.lt
    · exact ha.seat.top.lt
    · exact ha.seat.row.lt
    · exact ha.plc.lt
  have HD := Lib.hid hD
  obtain ⟨W, hW⟩ : ∃ W, w.alloc (.cells #[.int .i64 0, .bool false, .bool false, .bool false] 50) = W := ⟨_, rfl⟩
  rw [hD] at R1
  rw [hW] at hup0 ha1 hp1 R1
  have HW := Lib.hid hW
  clear hD hW ha hp
  have hDn : ∀ i, ft l s lb pb SP i → i ≠ D := fun i hi e => by have := hlD i hi; omega
  have tl0 := ha1.tl0
  obtain ⟨x, hx⟩ : ∃ y, st.pls.getD t p0 = y := ⟨_, rfl⟩
  have hok := ha1.ok t (by rw [ha1.l1]; exact ht)
  have HFEW := Lib.hid hf
  have k2 := ha1.top.cell (i := 2) rfl
  have k0 := ha1.cell ht 0 (by decide) _ rfl
  have k5 := ha1.cell ht 5 (by decide) _ rfl
  rw [hx] at hok h0 hw k0 k5
  rw [Nat.add_zero] at k0
  obtain ⟨⟨o1, o2⟩, ⟨o3, o4⟩, ⟨o5, o6⟩, ⟨o7, o8⟩, ⟨o9, o10⟩, o11, o12⟩ := hok
  have hw1 : IntKind.i64.wrap (tl + 1) = tl + 1 := IntWalk.i64_in _ (by omega)
  have hw2 : IntKind.i64.wrap (tl + 1 + x.c) = tl + 1 + x.c := IntWalk.i64_in _ (by omega)
  rw [h0] at k5
  go_enter Try.func38, Try.ntmps38
  go_upto_region 1 with (fail)
  rw [HW.out, HD.out]
  go_quiet (fail)
  have ha2 := ha1.keep ((Upd.refl (fun _ => False) W).drewN nq) id id id id
  have hp2 := hp1.drewN nq
  have R2 := R1.drewN nq
  have up2 := hup0.drewN nq
  obtain ⟨W', hW'⟩ : ∃ W', W.drewN nq = W' := ⟨_, rfl⟩
  rw [hW'] at ha2 hp2 R2 up2 ⊢
  clear hW' k2 k0 k5 ha1 hp1 R1 hup0 hw1 hw2
  have c1 := ha2.top.cell (i := 1) rfl
  have c2 := ha2.top.cell (i := 2) rfl
  have x0 := ha2.cell ht 0 (by decide) _ rfl
  have x1 := ha2.cell ht 1 (by decide) _ rfl
  have x2 := ha2.cell ht 2 (by decide) _ rfl
  have x3 := ha2.cell ht 3 (by decide) _ rfl
  have x4 := ha2.cell ht 4 (by decide) _ rfl
  have x5 := ha2.cell ht 5 (by decide) _ rfl
  rw [hx] at x0 x1 x2 x3 x4 x5
  rw [Nat.add_zero] at x0
  rw [h0] at x5
  have htp : t < st.pls.length := by rw [ha2.l1]; exact ht
  have HTP := Lib.hid htp
  have HX := Lib.hid hx
  have hd2 := ha2.keep ((Upd.refl (fun _ => False) W').drewN 1) id id id id
  clear htp
  have E := Lib.hid (show lockS k tl st t a = ((1, false, false, true), { st with pls := st.pls.set t { x with s := 0 }, ts := Cache.after k st.ws.length st.ts a (nodeA tl x.a) false }) by unfold lockS ownA; rw [hx]; dsimp only; rw [if_neg (by omega), if_neg (by omega), if_neg (by omega), if_neg (by omega), if_neg (by omega), if_neg (by omega), if_neg (by omega), if_pos hw])
  have KN := atC (W'.drewN 1) c2 tl0 x.a ⟨o5, o6⟩
  obtain ⟨nv, hnv⟩ : ∃ nv, nodeA tl x.a = nv := ⟨_, rfl⟩
  have hna : -1 ≤ nv ∧ nv ≤ 10000000000 := by rw [← hnv]; unfold nodeA; omega
  rw [hnv] at KN E hw
  obtain ⟨g, hg⟩ : ∃ g, rd k st.ws a nv = g := ⟨_, rfl⟩
  have hgr : 0 ≤ g ∧ g < 4294967296 := by rw [← hg]; exact rd_wd hp2.wd _ _ _
  rw [hg] at hw
  have KA := Port.loadP _ p SP k st.ws hs st.ts (hp2.drewN 1) (by omega) a (nv)
  rw [show (if Mem.inB a k = true then Mem.get st.ws (nv) else 0) = g from hg] at KA
  have HKW := Lib.hid (fun w => Pack.waits_to g w false hgr.1 hgr.2 (by unfold Pack.b2; simp [hw]))
  have HKN := Lib.hid KN
  have HKA := Lib.hid KA
  clear KN KA hnv hx hg hw
  go_upto_block 0 with (fail)
  go_wp2_with fail
  go_region_held3 (fun w' => w'.cell? ⟨l, 1, none⟩ = some (.pointer (some ⟨p, 0, none⟩)) ∧ w'.cell? ⟨pb, t * 6 + 2, none⟩ = some (.int .i64 x.a)) ((first | exact ⟨c1, x2⟩ | exact ⟨qc1, qx2⟩))
    ((first | (go_at_call 50; refine HKN.out.mono ?_; rintro e w4 ⟨rfl, rfl⟩) | (go_at_call 55; refine (HKW.out _).mono ?_; rintro e w4 ⟨rfl, rfl⟩) | (go_at_call 52; refine HKA.out.mono ?_; rintro e w5 ⟨rfl, hp5, u5⟩; have qc1 := cell_upd u5 c1 hsep.1; have qx2 := cell_upd u5 x2 hsep.2.2.2)))
  have A5 := hd2.keep u5 hsep.1 hsep.2.1 hsep.2.2.1 hsep.2.2.2
  have R5 := (R2.drewN 1).upd u5 (fun e => hDn D (.inl e) rfl)
  have up5 : Upd (ft l s lb pb SP) w w5 := (up2.drewN 1).trans (u5.mono fun i _ h => .inl h)
  have p5 := hp5
  clear qc1 qx2 HKA HKN HKW R2 c1 c2 x0 x1 x2 x3 x4 x5 ha2 hd2 hp2 up2 u5 hp5
  go_wp2_with fail
  refine (grantedC A5 t ht true).mono ?_
  rintro e w7 ⟨rfl, A7, u7⟩
  rw [HX.out] at A7
  have R7 := R5.upd u7 (fun e => hDn pb (by simp [ft]) e.symm)
  have p7 := p5.keep u7 (fun i hi e => hsep.2.2.2 (e ▸ hi))
  have up7 := up5.trans (u7.mono fun i _ e => (by rw [e]; simp [ft] : ft l s lb pb SP i))
  unfold didv
  clear A5 R5 p5 up5 u7
  have y0 := R7.cell (i := 0) rfl
  have y1 := R7.cell (i := 1) rfl
  have y2 := R7.cell (i := 2) rfl
  have y3 := R7.cell (i := 3) rfl
  have f0 := R7.frozen 0
  have f1 := R7.frozen 1
  have f2 := R7.frozen 2
  have f3 := R7.frozen 3
  go_wp2_with fail
  obtain ⟨w8, hw8, RE, UE⟩ := did_end R7 (.int .i64 1) (.bool false) (.bool false) (.bool true)
  rw [hw8]
  have g0 := RE.cell (i := 0) rfl
  have g1 := RE.cell (i := 1) rfl
  have g2 := RE.cell (i := 2) rfl
  have g3 := RE.cell (i := 3) rfl
  refine bodyPost_ret (v := didv (1, false, false, true)) (by simp [results, Try.results38, go_sem, didv, g0, g1, g2, g3]) rfl ?_
  rw [E.out]
  refine ⟨rfl, ⟨A7.keepD UE hDn, p7.keep UE (fun i hi e => hDn i (.inl hi) e), ?_, hsep⟩, up7.then UE (fun i hi e => by have := HD.out; omega)⟩
  exact Nat.le_trans (Cache.after_len _ _ _ _ _ _) (by have := HFEW.out; omega)
set_option maxHeartbeats 8000000 in
set_option maxRecDepth 20000 in
theorem lock7n {w : World} {b : Nat} {st : St} (h : O l s lb pb cap p SP k hs tl w b st) (hb : b < 1000000) (t : Nat) (ht : t < st.seats.length) (a : Int) (h0 : (st.pls.getD t p0).s = 7) (hw : rd k st.ws a (nodeA tl (st.pls.getD t p0).a) / 2 % 2 = 1) :
    Calls Try.prog 38 #[.pointer (some ⟨l, 0, none⟩), .pointer (some ⟨pb, t * 6, none⟩), .int .i64 a] w fun e w' =>
      e = .returned (didv (lockS k tl st t a).1) ∧ O l s lb pb cap p SP k hs tl w' (b + 1) (lockS k tl st t a).2 ∧ Upd (ft l s lb pb SP) w w' := by
  obtain ⟨ha, hp, hf, hsep⟩ := h
  have hup0 : Upd (ft l s lb pb SP) w (w.alloc (.cells #[.int .i64 0, .bool false, .bool false, .bool false] 50)) := (Upd.refl _ _).alloc _
  have ha1 := ha.keep ((Upd.refl (fun _ => False) w).alloc (.cells #[.int .i64 0, .bool false, .bool false, .bool false] 50)) id id id id
  have hp1 := hp.alloc (.cells #[.int .i64 0, .bool false, .bool false, .bool false] 50)
  have R1 : Row (w.alloc (.cells #[.int .i64 0, .bool false, .bool false, .bool false] 50)) w.heap.size [.int .i64 0, .bool false, .bool false, .bool false] := Row.new' rfl
  obtain ⟨D, hD⟩ : ∃ D, w.heap.size = D := ⟨_, rfl⟩
  have hlD : ∀ i, ft l s lb pb SP i → i < D := by
    intro i hi
    rw [← hD]
    rcases hi with hi | rfl | rfl | rfl | rfl
    · obtain ⟨_, hl⟩ := hp; exact hl i hi
    · exact ha.top.lt
    · exact ha.seat.top.lt
    · exact ha.seat.row.lt
    · exact ha.plc.lt
  have HD := Lib.hid hD
  obtain ⟨W, hW⟩ : ∃ W, w.alloc (.cells #[.int .i64 0, .bool false, .bool false, .bool false] 50) = W := ⟨_, rfl⟩
  rw [hD] at R1
  rw [hW] at hup0 ha1 hp1 R1
  have HW := Lib.hid hW
  clear hD hW ha hp
  have hDn : ∀ i, ft l s lb pb SP i → i ≠ D := fun i hi e => by have := hlD i hi; omega
  have tl0 := ha1.tl0
  obtain ⟨x, hx⟩ : ∃ y, st.pls.getD t p0 = y := ⟨_, rfl⟩
  have hok := ha1.ok t (by rw [ha1.l1]; exact ht)
  have HFEW := Lib.hid hf
  have k2 := ha1.top.cell (i := 2) rfl
  have k0 := ha1.cell ht 0 (by decide) _ rfl
  have k5 := ha1.cell ht 5 (by decide) _ rfl
  rw [hx] at hok h0 hw k0 k5
  rw [Nat.add_zero] at k0
  obtain ⟨⟨o1, o2⟩, ⟨o3, o4⟩, ⟨o5, o6⟩, ⟨o7, o8⟩, ⟨o9, o10⟩, o11, o12⟩ := hok
  have hw1 : IntKind.i64.wrap (tl + 1) = tl + 1 := IntWalk.i64_in _ (by omega)
  have hw2 : IntKind.i64.wrap (tl + 1 + x.c) = tl + 1 + x.c := IntWalk.i64_in _ (by omega)
  rw [h0] at k5
  go_enter Try.func38, Try.ntmps38
  go_upto_region 1 with (fail)
  rw [HW.out, HD.out]
  go_quiet (fail)
  have ha2 := ha1.keep ((Upd.refl (fun _ => False) W).drewN nq) id id id id
  have hp2 := hp1.drewN nq
  have R2 := R1.drewN nq
  have up2 := hup0.drewN nq
  obtain ⟨W', hW'⟩ : ∃ W', W.drewN nq = W' := ⟨_, rfl⟩
  rw [hW'] at ha2 hp2 R2 up2 ⊢
  clear hW' k2 k0 k5 ha1 hp1 R1 hup0 hw1 hw2
  have c1 := ha2.top.cell (i := 1) rfl
  have c2 := ha2.top.cell (i := 2) rfl
  have x0 := ha2.cell ht 0 (by decide) _ rfl
  have x1 := ha2.cell ht 1 (by decide) _ rfl
  have x2 := ha2.cell ht 2 (by decide) _ rfl
  have x3 := ha2.cell ht 3 (by decide) _ rfl
  have x4 := ha2.cell ht 4 (by decide) _ rfl
  have x5 := ha2.cell ht 5 (by decide) _ rfl
  rw [hx] at x0 x1 x2 x3 x4 x5
  rw [Nat.add_zero] at x0
  rw [h0] at x5
  have htp : t < st.pls.length := by rw [ha2.l1]; exact ht
  have HTP := Lib.hid htp
  have HX := Lib.hid hx
  have hd2 := ha2.keep ((Upd.refl (fun _ => False) W').drewN 1) id id id id
  clear htp
  have E := Lib.hid (show lockS k tl st t a = ((0, false, false, false), { st with ts := Cache.after k st.ws.length st.ts a (nodeA tl x.a) false }) by unfold lockS ownA; rw [hx]; dsimp only; rw [if_neg (by omega), if_neg (by omega), if_neg (by omega), if_neg (by omega), if_neg (by omega), if_neg (by omega), if_neg (by omega), if_neg (by omega)])
  have KN := atC (W'.drewN 1) c2 tl0 x.a ⟨o5, o6⟩
  obtain ⟨nv, hnv⟩ : ∃ nv, nodeA tl x.a = nv := ⟨_, rfl⟩
  have hna : -1 ≤ nv ∧ nv ≤ 10000000000 := by rw [← hnv]; unfold nodeA; omega
  rw [hnv] at KN E hw
  obtain ⟨g, hg⟩ : ∃ g, rd k st.ws a nv = g := ⟨_, rfl⟩
  have hgr : 0 ≤ g ∧ g < 4294967296 := by rw [← hg]; exact rd_wd hp2.wd _ _ _
  rw [hg] at hw
  have KA := Port.loadP _ p SP k st.ws hs st.ts (hp2.drewN 1) (by omega) a (nv)
  rw [show (if Mem.inB a k = true then Mem.get st.ws (nv) else 0) = g from hg] at KA
  have HKW := Lib.hid (fun w => Pack.waits_to g w true hgr.1 hgr.2 (by unfold Pack.b2; simp [hw]))
  have HKN := Lib.hid KN
  have HKA := Lib.hid KA
  clear KN KA hnv hx hg hw
  go_upto_block 0 with (fail)
  go_wp2_with fail
  go_region_held3 (fun w' => w'.cell? ⟨l, 1, none⟩ = some (.pointer (some ⟨p, 0, none⟩)) ∧ w'.cell? ⟨pb, t * 6 + 2, none⟩ = some (.int .i64 x.a)) ((first | exact ⟨c1, x2⟩ | exact ⟨qc1, qx2⟩))
    ((first | (go_at_call 50; refine HKN.out.mono ?_; rintro e w4 ⟨rfl, rfl⟩) | (go_at_call 55; refine (HKW.out _).mono ?_; rintro e w4 ⟨rfl, rfl⟩) | (go_at_call 52; refine HKA.out.mono ?_; rintro e w5 ⟨rfl, hp5, u5⟩; have qc1 := cell_upd u5 c1 hsep.1; have qx2 := cell_upd u5 x2 hsep.2.2.2)))
  have A5 := hd2.keep u5 hsep.1 hsep.2.1 hsep.2.2.1 hsep.2.2.2
  have R5 := (R2.drewN 1).upd u5 (fun e => hDn D (.inl e) rfl)
  have up5 : Upd (ft l s lb pb SP) w w5 := (up2.drewN 1).trans (u5.mono fun i _ h => .inl h)
  have p5 := hp5
  clear qc1 qx2 HKA HKN HKW R2 c1 c2 x0 x1 x2 x3 x4 x5 ha2 hd2 hp2 up2 u5 hp5
  go_upto_region 35 with (fail)
  have y0 := R5.cell (i := 0) rfl
  have y1 := R5.cell (i := 1) rfl
  have y2 := R5.cell (i := 2) rfl
  have y3 := R5.cell (i := 3) rfl
  have f0 := R5.frozen 0
  have f1 := R5.frozen 1
  have f2 := R5.frozen 2
  have f3 := R5.frozen 3
  go_wp2_with fail
  obtain ⟨w8, hw8, RE, UE⟩ := did_end R5 (.int .i64 0) (.bool false) (.bool false) (.bool false)
  rw [hw8]
  have g0 := RE.cell (i := 0) rfl
  have g1 := RE.cell (i := 1) rfl
  have g2 := RE.cell (i := 2) rfl
  have g3 := RE.cell (i := 3) rfl
  refine bodyPost_ret (v := didv (0, false, false, false)) (by simp [results, Try.results38, go_sem, didv, g0, g1, g2, g3]) rfl ?_
  rw [E.out]
  refine ⟨rfl, ⟨A5.keepD UE hDn, p5.keep UE (fun i hi e => hDn i (.inl hi) e), ?_, hsep⟩, up5.then UE (fun i hi e => by have := HD.out; omega)⟩
  exact Nat.le_trans (Cache.after_len _ _ _ _ _ _) (by have := HFEW.out; omega)
set_option maxHeartbeats 8000000 in
set_option maxRecDepth 20000 in
theorem unl0 {w : World} {b : Nat} {st : St} (h : O l s lb pb cap p SP k hs tl w b st) (hb : b < 1000000) (t : Nat) (ht : t < st.seats.length) (a : Int) (h0 : (st.pls.getD t p0).s = 0) :
    Calls Try.prog 39 #[.pointer (some ⟨l, 0, none⟩), .pointer (some ⟨pb, t * 6, none⟩), .int .i64 a] w fun e w' =>
      e = .returned (.int .i64 (unlS k tl st t a).1) ∧ O l s lb pb cap p SP k hs tl w' (b + 1) (unlS k tl st t a).2 ∧ Upd (ft l s lb pb SP) w w' := by
  obtain ⟨ha, hp, hf, hsep⟩ := h
  have hup0 : Upd (ft l s lb pb SP) w w := Upd.refl _ _
  have ha1 := ha
  have hp1 := hp
  clear ha hp
  have tl0 := ha1.tl0
  obtain ⟨x, hx⟩ : ∃ y, st.pls.getD t p0 = y := ⟨_, rfl⟩
  have hok := ha1.ok t (by rw [ha1.l1]; exact ht)
  have HFEW := Lib.hid hf
  have k2 := ha1.top.cell (i := 2) rfl
  have k0 := ha1.cell ht 0 (by decide) _ rfl
  have k5 := ha1.cell ht 5 (by decide) _ rfl
  rw [hx] at hok h0 k0 k5
  rw [Nat.add_zero] at k0
  obtain ⟨⟨o1, o2⟩, ⟨o3, o4⟩, ⟨o5, o6⟩, ⟨o7, o8⟩, ⟨o9, o10⟩, o11, o12⟩ := hok
  have hw1 : IntKind.i64.wrap (tl + 1) = tl + 1 := IntWalk.i64_in _ (by omega)
  have hw2 : IntKind.i64.wrap (tl + 1 + x.c) = tl + 1 + x.c := IntWalk.i64_in _ (by omega)
  rw [h0] at k5
  have ha2 := ha1
  have hp2 := hp1
  have up2 := hup0
  clear k2 k0 k5 ha1 hp1 hup0 hw1 hw2
  have c1 := ha2.top.cell (i := 1) rfl
  have c2 := ha2.top.cell (i := 2) rfl
  have x0 := ha2.cell ht 0 (by decide) _ rfl
  have x1 := ha2.cell ht 1 (by decide) _ rfl
  have x2 := ha2.cell ht 2 (by decide) _ rfl
  have x3 := ha2.cell ht 3 (by decide) _ rfl
  have x4 := ha2.cell ht 4 (by decide) _ rfl
  have x5 := ha2.cell ht 5 (by decide) _ rfl
  rw [hx] at x0 x1 x2 x3 x4 x5
  rw [Nat.add_zero] at x0
  rw [h0] at x5
  have htp : t < st.pls.length := by rw [ha2.l1]; exact ht
  have HTP := Lib.hid htp
  have HX := Lib.hid hx
  have hd2 := ha2.keep ((Upd.refl (fun _ => False) w).drewN 1) id id id id
  clear htp
  have E := Lib.hid (show unlS k tl st t a = (0, { st with pls := st.pls.set t { x with w := rd k st.ws a (nodeA tl x.n), s := 1 }, ts := Cache.after k st.ws.length st.ts a (nodeA tl x.n) false }) by unfold unlS; rw [hx]; dsimp only; rw [if_pos h0])
  have KN := atC (w.drewN 1) c2 tl0 x.n ⟨o3, o4⟩
  obtain ⟨nv, hnv⟩ : ∃ nv, nodeA tl x.n = nv := ⟨_, rfl⟩
  have hna : -1 ≤ nv ∧ nv ≤ 10000000000 := by rw [← hnv]; unfold nodeA; omega
  rw [hnv] at KN E
  obtain ⟨g, hg⟩ : ∃ g, rd k st.ws a (nv) = g := ⟨_, rfl⟩
  have hgr : 0 ≤ g ∧ g < 4294967296 := by rw [← hg]; exact rd_wd hp2.wd _ _ _
  rw [hg] at E
  have KA := Port.loadP _ p SP k st.ws hs st.ts (hp2.drewN 1) (by omega) a (nv)
  rw [show (if Mem.inB a k = true then Mem.get st.ws (nv) else 0) = g from hg] at KA
  have HKN := Lib.hid KN
  have HKA := Lib.hid KA
  clear KN KA hnv hx hg
  go_enter Try.func39, Try.ntmps39
  go_wp2_with fail
  go_region_held3 (fun w' => w'.cell? ⟨l, 1, none⟩ = some (.pointer (some ⟨p, 0, none⟩)) ∧ w'.cell? ⟨pb, t * 6 + 1, none⟩ = some (.int .i64 x.n)) ((first | exact ⟨c1, x1⟩ | exact ⟨qc1, qx1⟩ | exact ⟨rc1, rx1⟩ | exact ⟨vc1, vx1⟩))
    ((first | (go_at_call 50; refine HKN.out.mono ?_; rintro e w4 ⟨rfl, rfl⟩) | (go_at_call 52; refine HKA.out.mono ?_; rintro e w5 ⟨rfl, hp5, u5⟩; have qc1 := cell_upd u5 c1 hsep.1; have qx1 := cell_upd u5 x1 hsep.2.2.2; have qx4 := cell_upd u5 x4 hsep.2.2.2; have qx5 := cell_upd u5 x5 hsep.2.2.2; have B5 := hd2.keep u5 hsep.1 hsep.2.1 hsep.2.2.1 hsep.2.2.2; have m4 := B5.plc.frozen (t * 6 + 4); have B6 := B5.setP ht 4 (by decide) (.int .u32 g) { x with w := g } (by rw [HX.out]; rfl) ⟨⟨o1, o2⟩, ⟨o3, o4⟩, ⟨o5, o6⟩, ⟨o7, o8⟩, hgr, ⟨o11, o12⟩⟩; have rc1 := B6.top.cell (i := 1) rfl; have rx1 : (w5.setCell ⟨pb, t * 6 + 4, none⟩ (.int .u32 g)).cell? ⟨pb, t * 6 + 1, none⟩ = some (.int .i64 x.n) := (by have r0 := B6.cell ht 1 (by decide) _ rfl; rw [pl_set _ _ HTP.out, if_pos rfl] at r0; exact r0); have r5 := B6.cell ht 5 (by decide) _ rfl; rw [pl_set _ _ HTP.out, if_pos rfl] at r5; have m5 := B6.plc.frozen (t * 6 + 5); have B7 := B6.setP ht 5 (by decide) (.int .i64 1) { x with w := g, s := 1 } (by rw [pl_set _ _ HTP.out, if_pos rfl]; rfl) ⟨⟨o1, o2⟩, ⟨o3, o4⟩, ⟨o5, o6⟩, ⟨o7, o8⟩, hgr, ⟨(by decide : (0 : Int) ≤ 1), (by decide : (1 : Int) ≤ 7)⟩⟩; have vc1 := B7.top.cell (i := 1) rfl; have vx1 : ((w5.setCell ⟨pb, t * 6 + 4, none⟩ (.int .u32 g)).setCell ⟨pb, t * 6 + 5, none⟩ (.int .i64 1)).cell? ⟨pb, t * 6 + 1, none⟩ = some (.int .i64 x.n) := (by have r0 := B7.cell ht 1 (by decide) _ rfl; rw [pl_set _ _ (by simpa using HTP.out), if_pos rfl] at r0; exact r0))))
  have A5 := hd2.keep u5 hsep.1 hsep.2.1 hsep.2.2.1 hsep.2.2.2
  have up5 : Upd (ft l s lb pb SP) w w5 := (up2.drewN 1).trans (u5.mono fun i _ h => .inl h)
  have p5 := hp5
  clear qc1 qx1 qx4 qx5 rc1 rx1 m4 m5 r5 vc1 vx1 B5 B6 B7 HKA HKN c1 c2 x0 x1 x2 x3 x4 x5 ha2 hd2 hp2 up2 u5 hp5
  have A6 := A5.setP ht 4 (by decide) (.int .u32 g) { x with w := g } (by rw [HX.out]; rfl) ⟨⟨o1, o2⟩, ⟨o3, o4⟩, ⟨o5, o6⟩, ⟨o7, o8⟩, hgr, ⟨o11, o12⟩⟩
  have U6 := Upd.one w5 pb (t * 6 + 4) (.int .u32 g)
  have p6 := p5.keep U6 (fun i hi e => hsep.2.2.2 (e ▸ hi))
  have up6 := up5.trans (U6.mono fun i _ e => (by rw [e]; simp [ft] : ft l s lb pb SP i))
  obtain ⟨w6, hw6⟩ : ∃ w', w5.setCell ⟨pb, t * 6 + 4, none⟩ (.int .u32 g) = w' := ⟨_, rfl⟩
  rw [hw6] at A6 p6 up6 ⊢
  clear hw6 A5 p5 up5 U6
  have A7 := A6.setP ht 5 (by decide) (.int .i64 1) { x with w := g, s := 1 } (by rw [pl_set _ _ HTP.out, if_pos rfl]; rfl) ⟨⟨o1, o2⟩, ⟨o3, o4⟩, ⟨o5, o6⟩, ⟨o7, o8⟩, hgr, ⟨(by decide : (0 : Int) ≤ 1), (by decide : (1 : Int) ≤ 7)⟩⟩
  rw [List.set_set] at A7
  have U7 := Upd.one w6 pb (t * 6 + 5) (.int .i64 1)
  have p7 := p6.keep U7 (fun i hi e => hsep.2.2.2 (e ▸ hi))
  have up7 := up6.trans (U7.mono fun i _ e => (by rw [e]; simp [ft] : ft l s lb pb SP i))
  obtain ⟨w7, hw7⟩ : ∃ w', w6.setCell ⟨pb, t * 6 + 5, none⟩ (.int .i64 1) = w' := ⟨_, rfl⟩
  rw [hw7] at A7 p7 up7 ⊢
  clear hw7 A6 p6 up6 U7
  go_wp2_with fail
  go_ret
  rw [E.out]
  refine ⟨rfl, ⟨A7, p7, ?_, hsep⟩, up7⟩
  exact Nat.le_trans (Cache.after_len _ _ _ _ _ _) (by have := HFEW.out; omega)
set_option maxHeartbeats 8000000 in
set_option maxRecDepth 20000 in
theorem unl1y {w : World} {b : Nat} {st : St} (h : O l s lb pb cap p SP k hs tl w b st) (hb : b < 1000000) (t : Nat) (ht : t < st.seats.length) (a : Int) (h0 : (st.pls.getD t p0).s ≠ 0) (hc : (Mem.inB a k && Mem.casB st.ws (nodeA tl (st.pls.getD t p0).n) (st.pls.getD t p0).w) = true) :
    Calls Try.prog 39 #[.pointer (some ⟨l, 0, none⟩), .pointer (some ⟨pb, t * 6, none⟩), .int .i64 a] w fun e w' =>
      e = .returned (.int .i64 (unlS k tl st t a).1) ∧ O l s lb pb cap p SP k hs tl w' (b + 1) (unlS k tl st t a).2 ∧ Upd (ft l s lb pb SP) w w' := by
  obtain ⟨ha, hp, hf, hsep⟩ := h
  have hup0 : Upd (ft l s lb pb SP) w w := Upd.refl _ _
  have ha1 := ha
  have hp1 := hp
  clear ha hp
  have tl0 := ha1.tl0
  obtain ⟨x, hx⟩ : ∃ y, st.pls.getD t p0 = y := ⟨_, rfl⟩
  have hok := ha1.ok t (by rw [ha1.l1]; exact ht)
  have HFEW := Lib.hid hf
  have k2 := ha1.top.cell (i := 2) rfl
  have k0 := ha1.cell ht 0 (by decide) _ rfl
  have k5 := ha1.cell ht 5 (by decide) _ rfl
  rw [hx] at hok h0 hc k0 k5
  rw [Nat.add_zero] at k0
  obtain ⟨⟨o1, o2⟩, ⟨o3, o4⟩, ⟨o5, o6⟩, ⟨o7, o8⟩, ⟨o9, o10⟩, o11, o12⟩ := hok
  have hw1 : IntKind.i64.wrap (tl + 1) = tl + 1 := IntWalk.i64_in _ (by omega)
  have hw2 : IntKind.i64.wrap (tl + 1 + x.c) = tl + 1 + x.c := IntWalk.i64_in _ (by omega)
  have ha2 := ha1
  have hp2 := hp1
  have up2 := hup0
  clear k2 k0 k5 ha1 hp1 hup0 hw1 hw2
  have c1 := ha2.top.cell (i := 1) rfl
  have c2 := ha2.top.cell (i := 2) rfl
  have x0 := ha2.cell ht 0 (by decide) _ rfl
  have x1 := ha2.cell ht 1 (by decide) _ rfl
  have x2 := ha2.cell ht 2 (by decide) _ rfl
  have x3 := ha2.cell ht 3 (by decide) _ rfl
  have x4 := ha2.cell ht 4 (by decide) _ rfl
  have x5 := ha2.cell ht 5 (by decide) _ rfl
  rw [hx] at x0 x1 x2 x3 x4 x5
  rw [Nat.add_zero] at x0
  have htp : t < st.pls.length := by rw [ha2.l1]; exact ht
  have HTP := Lib.hid htp
  have HX := Lib.hid hx
  have hd2 := ha2.keep ((Upd.refl (fun _ => False) w).drewN 1) id id id id
  clear htp
  have E := Lib.hid (show unlS k tl st t a = (3, { st with pls := st.pls.set t { x with n := x.a, s := 0 }, ws := Mem.put st.ws (nodeA tl x.n) (x.w - 2 * (x.w / 2 % 2)), ts := Cache.after k st.ws.length st.ts a (nodeA tl x.n) true }) by unfold unlS; rw [hx]; dsimp only; rw [if_neg h0, if_pos hc])
  clear hd2
  have h0' : (x.s == 0) = false := by simpa using h0
  have A3 := ha2
  have p3 := hp2
  have up3 := up2
  clear ha2 hp2 up2 c1 c2 x0 x1 x2 x3 x4 x5
  have v5 := A3.cell ht 5 (by decide) _ rfl
  have fv5 := A3.plc.frozen (t * 6 + 5)
  rw [HX.out] at v5
  have A4 := A3.setP ht 5 (by decide) (.int .i64 0) { x with s := 0 } (by rw [HX.out]; rfl) ⟨⟨o1, o2⟩, ⟨o3, o4⟩, ⟨o5, o6⟩, ⟨o7, o8⟩, ⟨o9, o10⟩, ⟨(by decide : (0 : Int) ≤ 0), (by decide : (0 : Int) ≤ 7)⟩⟩
  have U4 := Upd.one w pb (t * 6 + 5) (.int .i64 0)
  have p4 := p3.keep U4 (fun i hi e => hsep.2.2.2 (e ▸ hi))
  have up4 := up3.trans (U4.mono fun i _ e => (by rw [e]; simp [ft] : ft l s lb pb SP i))
  go_enter Try.func39, Try.ntmps39
  go_upto_region 5 with (fail)
  obtain ⟨w4, hw4⟩ : ∃ w', w.setCell ⟨pb, t * 6 + 5, none⟩ (.int .i64 0) = w' := ⟨_, rfl⟩
  rw [hw4] at A4 p4 up4 ⊢
  clear hw4 A3 p3 up3 U4 v5 fv5
  have ha2 := A4
  have hp2 := p4
  have up2 := up4
  have c1 := ha2.top.cell (i := 1) rfl
  have c2 := ha2.top.cell (i := 2) rfl
  have x1 := ha2.cell ht 1 (by decide) _ rfl
  have x4 := ha2.cell ht 4 (by decide) _ rfl
  rw [pl_set _ _ HTP.out, if_pos rfl] at x1 x4
  have hd2 := ha2.keep ((Upd.refl (fun _ => False) w4).drewN 1) id id id id
  clear A4 p4 up4
  have KN := atC (w4.drewN 1) c2 tl0 x.n ⟨o3, o4⟩
  obtain ⟨nv, hnv⟩ : ∃ nv, nodeA tl x.n = nv := ⟨_, rfl⟩
  have hna : -1 ≤ nv ∧ nv ≤ 10000000000 := by rw [← hnv]; unfold nodeA; omega
  rw [hnv] at KN E hc
  have hwr : 0 ≤ x.w - 2 * (x.w / 2 % 2) ∧ x.w - 2 * (x.w / 2 % 2) < 4294967296 := by omega
  have KP := fun w => Pack.free_to x.w w (x.w - 2 * (x.w / 2 % 2)) o9 o10 rfl
  have HKP := Lib.hid KP
  obtain ⟨nw, hnw⟩ : ∃ nw, x.w - 2 * (x.w / 2 % 2) = nw := ⟨_, rfl⟩
  have KA := Port.casP _ p SP k st.ws hs st.ts (hp2.drewN 1) (by omega) a nv x.w (x.w - 2 * (x.w / 2 % 2)) hwr.1 hwr.2
  rw [hc] at KA
  rw [hnw] at KA HKP
  (try rw [hnw] at E)
  have HKN := Lib.hid KN
  have HKA := Lib.hid KA
  clear KN KP KA hnv hx hnw hwr
  go_wp2_with fail
  go_region_held3 (fun w' => w'.cell? ⟨l, 1, none⟩ = some (.pointer (some ⟨p, 0, none⟩)) ∧ w'.cell? ⟨pb, t * 6 + 1, none⟩ = some (.int .i64 x.n) ∧ w'.cell? ⟨pb, t * 6 + 4, none⟩ = some (.int .u32 x.w)) ((first | exact ⟨c1, x1, x4⟩ | exact ⟨qc1, qx1, qx4⟩))
    ((first | (go_at_call 50; refine HKN.out.mono ?_; rintro e w4 ⟨rfl, rfl⟩) | (go_at_call 59; refine (HKP.out _).mono ?_; rintro e w4 ⟨rfl, rfl⟩) | (go_at_call 57; refine HKA.out.mono ?_; rintro e w5 ⟨rfl, hp5, u5⟩; have qc1 := cell_upd u5 c1 hsep.1; have qx1 := cell_upd u5 x1 hsep.2.2.2; have qx4 := cell_upd u5 x4 hsep.2.2.2)))
  have A5 := hd2.keep u5 hsep.1 hsep.2.1 hsep.2.2.1 hsep.2.2.2
  have up5 : Upd (ft l s lb pb SP) w w5 := (up2.drewN 1).trans (u5.mono fun i _ h => .inl h)
  have p5 := hp5
  clear qc1 qx1 qx4 HKA HKN HKP c1 c2 x1 x4 ha2 hd2 hp2 up2 u5 hp5
  have v1 := A5.cell ht 1 (by decide) _ rfl
  have fv1 := A5.plc.frozen (t * 6 + 1)
  rw [pl_set _ _ HTP.out, if_pos rfl] at v1
  have v2 := A5.cell ht 2 (by decide) _ rfl
  rw [pl_set _ _ HTP.out, if_pos rfl] at v2
  have A7 := A5.setP ht 1 (by decide) (.int .i64 x.a) { x with n := x.a, s := 0 } (by rw [pl_set _ _ HTP.out, if_pos rfl]; rfl) ⟨⟨o1, o2⟩, ⟨o5, o6⟩, ⟨o5, o6⟩, ⟨o7, o8⟩, ⟨o9, o10⟩, ⟨(by decide : (0 : Int) ≤ 0), (by decide : (0 : Int) ≤ 7)⟩⟩
  rw [List.set_set] at A7
  have U7 := Upd.one w5 pb (t * 6 + 1) (.int .i64 x.a)
  have p7 := p5.keep U7 (fun i hi e => hsep.2.2.2 (e ▸ hi))
  have up7 := up5.trans (U7.mono fun i _ e => (by rw [e]; simp [ft] : ft l s lb pb SP i))
  go_upto_region 8 with (fail)
  obtain ⟨w7, hw7⟩ : ∃ w', w5.setCell ⟨pb, t * 6 + 1, none⟩ (.int .i64 x.a) = w' := ⟨_, rfl⟩
  rw [hw7] at A7 p7 up7 ⊢
  clear hw7 A5 p5 up5 U7 v1 fv1 v2
  go_wp2_with fail
  go_ret
  rw [E.out]
  refine ⟨rfl, ⟨A7, p7, ?_, hsep⟩, up7⟩
  exact Nat.le_trans (Cache.after_len _ _ _ _ _ _) (by have := HFEW.out; omega)
set_option maxHeartbeats 8000000 in
set_option maxRecDepth 20000 in
theorem unl1n {w : World} {b : Nat} {st : St} (h : O l s lb pb cap p SP k hs tl w b st) (hb : b < 1000000) (t : Nat) (ht : t < st.seats.length) (a : Int) (h0 : (st.pls.getD t p0).s ≠ 0) (hc : (Mem.inB a k && Mem.casB st.ws (nodeA tl (st.pls.getD t p0).n) (st.pls.getD t p0).w) = false) :
    Calls Try.prog 39 #[.pointer (some ⟨l, 0, none⟩), .pointer (some ⟨pb, t * 6, none⟩), .int .i64 a] w fun e w' =>
      e = .returned (.int .i64 (unlS k tl st t a).1) ∧ O l s lb pb cap p SP k hs tl w' (b + 1) (unlS k tl st t a).2 ∧ Upd (ft l s lb pb SP) w w' := by
  obtain ⟨ha, hp, hf, hsep⟩ := h
  have hup0 : Upd (ft l s lb pb SP) w w := Upd.refl _ _
  have ha1 := ha
  have hp1 := hp
  clear ha hp
  have tl0 := ha1.tl0
  obtain ⟨x, hx⟩ : ∃ y, st.pls.getD t p0 = y := ⟨_, rfl⟩
  have hok := ha1.ok t (by rw [ha1.l1]; exact ht)
  have HFEW := Lib.hid hf
  have k2 := ha1.top.cell (i := 2) rfl
  have k0 := ha1.cell ht 0 (by decide) _ rfl
  have k5 := ha1.cell ht 5 (by decide) _ rfl
  rw [hx] at hok h0 hc k0 k5
  rw [Nat.add_zero] at k0
  obtain ⟨⟨o1, o2⟩, ⟨o3, o4⟩, ⟨o5, o6⟩, ⟨o7, o8⟩, ⟨o9, o10⟩, o11, o12⟩ := hok
  have hw1 : IntKind.i64.wrap (tl + 1) = tl + 1 := IntWalk.i64_in _ (by omega)
  have hw2 : IntKind.i64.wrap (tl + 1 + x.c) = tl + 1 + x.c := IntWalk.i64_in _ (by omega)
  have ha2 := ha1
  have hp2 := hp1
  have up2 := hup0
  clear k2 k0 k5 ha1 hp1 hup0 hw1 hw2
  have c1 := ha2.top.cell (i := 1) rfl
  have c2 := ha2.top.cell (i := 2) rfl
  have x0 := ha2.cell ht 0 (by decide) _ rfl
  have x1 := ha2.cell ht 1 (by decide) _ rfl
  have x2 := ha2.cell ht 2 (by decide) _ rfl
  have x3 := ha2.cell ht 3 (by decide) _ rfl
  have x4 := ha2.cell ht 4 (by decide) _ rfl
  have x5 := ha2.cell ht 5 (by decide) _ rfl
  rw [hx] at x0 x1 x2 x3 x4 x5
  rw [Nat.add_zero] at x0
  have htp : t < st.pls.length := by rw [ha2.l1]; exact ht
  have HTP := Lib.hid htp
  have HX := Lib.hid hx
  have hd2 := ha2.keep ((Upd.refl (fun _ => False) w).drewN 1) id id id id
  clear htp
  have E := Lib.hid (show unlS k tl st t a = (0, { st with pls := st.pls.set t { x with s := 0 }, ts := Cache.after k st.ws.length st.ts a (nodeA tl x.n) true }) by unfold unlS; rw [hx]; dsimp only; rw [if_neg h0, if_neg (by rw [hc]; decide)])
  clear hd2
  have h0' : (x.s == 0) = false := by simpa using h0
  have A3 := ha2
  have p3 := hp2
  have up3 := up2
  clear ha2 hp2 up2 c1 c2 x0 x1 x2 x3 x4 x5
  have v5 := A3.cell ht 5 (by decide) _ rfl
  have fv5 := A3.plc.frozen (t * 6 + 5)
  rw [HX.out] at v5
  have A4 := A3.setP ht 5 (by decide) (.int .i64 0) { x with s := 0 } (by rw [HX.out]; rfl) ⟨⟨o1, o2⟩, ⟨o3, o4⟩, ⟨o5, o6⟩, ⟨o7, o8⟩, ⟨o9, o10⟩, ⟨(by decide : (0 : Int) ≤ 0), (by decide : (0 : Int) ≤ 7)⟩⟩
  have U4 := Upd.one w pb (t * 6 + 5) (.int .i64 0)
  have p4 := p3.keep U4 (fun i hi e => hsep.2.2.2 (e ▸ hi))
  have up4 := up3.trans (U4.mono fun i _ e => (by rw [e]; simp [ft] : ft l s lb pb SP i))
  go_enter Try.func39, Try.ntmps39
  go_upto_region 5 with (fail)
  obtain ⟨w4, hw4⟩ : ∃ w', w.setCell ⟨pb, t * 6 + 5, none⟩ (.int .i64 0) = w' := ⟨_, rfl⟩
  rw [hw4] at A4 p4 up4 ⊢
  clear hw4 A3 p3 up3 U4 v5 fv5
  have ha2 := A4
  have hp2 := p4
  have up2 := up4
  have c1 := ha2.top.cell (i := 1) rfl
  have c2 := ha2.top.cell (i := 2) rfl
  have x1 := ha2.cell ht 1 (by decide) _ rfl
  have x4 := ha2.cell ht 4 (by decide) _ rfl
  rw [pl_set _ _ HTP.out, if_pos rfl] at x1 x4
  have hd2 := ha2.keep ((Upd.refl (fun _ => False) w4).drewN 1) id id id id
  clear A4 p4 up4
  have KN := atC (w4.drewN 1) c2 tl0 x.n ⟨o3, o4⟩
  obtain ⟨nv, hnv⟩ : ∃ nv, nodeA tl x.n = nv := ⟨_, rfl⟩
  have hna : -1 ≤ nv ∧ nv ≤ 10000000000 := by rw [← hnv]; unfold nodeA; omega
  rw [hnv] at KN E hc
  have hwr : 0 ≤ x.w - 2 * (x.w / 2 % 2) ∧ x.w - 2 * (x.w / 2 % 2) < 4294967296 := by omega
  have KP := fun w => Pack.free_to x.w w (x.w - 2 * (x.w / 2 % 2)) o9 o10 rfl
  have HKP := Lib.hid KP
  obtain ⟨nw, hnw⟩ : ∃ nw, x.w - 2 * (x.w / 2 % 2) = nw := ⟨_, rfl⟩
  have KA := Port.casP _ p SP k st.ws hs st.ts (hp2.drewN 1) (by omega) a nv x.w (x.w - 2 * (x.w / 2 % 2)) hwr.1 hwr.2
  rw [hc] at KA
  rw [hnw] at KA HKP
  (try rw [hnw] at E)
  have HKN := Lib.hid KN
  have HKA := Lib.hid KA
  clear KN KP KA hnv hx hnw hwr
  go_wp2_with fail
  go_region_held3 (fun w' => w'.cell? ⟨l, 1, none⟩ = some (.pointer (some ⟨p, 0, none⟩)) ∧ w'.cell? ⟨pb, t * 6 + 1, none⟩ = some (.int .i64 x.n) ∧ w'.cell? ⟨pb, t * 6 + 4, none⟩ = some (.int .u32 x.w)) ((first | exact ⟨c1, x1, x4⟩ | exact ⟨qc1, qx1, qx4⟩))
    ((first | (go_at_call 50; refine HKN.out.mono ?_; rintro e w4 ⟨rfl, rfl⟩) | (go_at_call 59; refine (HKP.out _).mono ?_; rintro e w4 ⟨rfl, rfl⟩) | (go_at_call 57; refine HKA.out.mono ?_; rintro e w5 ⟨rfl, hp5, u5⟩; have qc1 := cell_upd u5 c1 hsep.1; have qx1 := cell_upd u5 x1 hsep.2.2.2; have qx4 := cell_upd u5 x4 hsep.2.2.2)))
  have A5 := hd2.keep u5 hsep.1 hsep.2.1 hsep.2.2.1 hsep.2.2.2
  have up5 : Upd (ft l s lb pb SP) w w5 := (up2.drewN 1).trans (u5.mono fun i _ h => .inl h)
  have p5 := hp5
  clear qc1 qx1 qx4 HKA HKN HKP c1 c2 x1 x4 ha2 hd2 hp2 up2 u5 hp5
  go_wp2_with fail
  go_ret
  rw [E.out]
  refine ⟨rfl, ⟨A5, p5, ?_, hsep⟩, up5⟩
  exact Nat.le_trans (Cache.after_len _ _ _ _ _ _) (by have := HFEW.out; omega)
theorem lockC {w : World} {b : Nat} {st : St} (h : O l s lb pb cap p SP k hs tl w b st) (hb : b < 1000000) (t : Nat) (ht : t < st.seats.length) (a : Int) :
    Calls Try.prog 38 #[.pointer (some ⟨l, 0, none⟩), .pointer (some ⟨pb, t * 6, none⟩), .int .i64 a] w fun e w' =>
      e = .returned (didv (lockS k tl st t a).1) ∧ O l s lb pb cap p SP k hs tl w' (b + 1) (lockS k tl st t a).2 ∧ Upd (ft l s lb pb SP) w w' := by
  obtain ⟨_, _, _, _, _, s0, s7⟩ := h.at_.ok t (by rw [h.at_.l1]; exact ht)
  have hwd := h.port.wd
  rcases (show (st.pls.getD t p0).s = 0 ∨ (st.pls.getD t p0).s = 1 ∨ (st.pls.getD t p0).s = 2 ∨ (st.pls.getD t p0).s = 3 ∨ (st.pls.getD t p0).s = 4 ∨ (st.pls.getD t p0).s = 5 ∨ (st.pls.getD t p0).s = 6 ∨ (st.pls.getD t p0).s = 7 by omega) with e | e | e | e | e | e | e | e
  · exact lock0 h hb t ht a e
  · by_cases hg : rd k st.ws a (ownA tl (st.pls.getD t p0).c) = 0
    · exact lock1z h hb t ht a e hg
    · exact lock1n h hb t ht a e hg
  · by_cases h1 : rd k st.ws a (nodeA tl (st.pls.getD t p0).a) / 4 = (st.pls.getD t p0).c
    · rcases (show rd k st.ws a (nodeA tl (st.pls.getD t p0).a) % 2 = 1 ∨ rd k st.ws a (nodeA tl (st.pls.getD t p0).a) % 2 = 0 by omega) with h2 | h2
      · exact lock2b h hb t ht a e h1 h2
      · rcases (show rd k st.ws a (nodeA tl (st.pls.getD t p0).a) / 2 % 2 = 1 ∨ rd k st.ws a (nodeA tl (st.pls.getD t p0).a) / 2 % 2 = 0 by omega) with h3 | h3
        · exact lock2c h hb t ht a e h1 h2 h3
        · exact lock2d h hb t ht a e h1 h2 h3
    · exact lock2a h hb t ht a e h1
  · exact lock3 h hb t ht a e
  · exact lock4 h hb t ht a e
  · exact lock5 h hb t ht a e
  · cases hc : (Mem.inB a k && Mem.casB st.ws (nodeA tl (st.pls.getD t p0).l) (st.pls.getD t p0).w) with
    | true => exact lock6y h hb t ht a e hc
    | false => exact lock6n h hb t ht a e hc
  · rcases (show rd k st.ws a (nodeA tl (st.pls.getD t p0).a) / 2 % 2 = 1 ∨ rd k st.ws a (nodeA tl (st.pls.getD t p0).a) / 2 % 2 = 0 by omega) with h3 | h3
    · exact lock7n h hb t ht a e h3
    · exact lock7y h hb t ht a e h3
theorem unlC {w : World} {b : Nat} {st : St} (h : O l s lb pb cap p SP k hs tl w b st) (hb : b < 1000000) (t : Nat) (ht : t < st.seats.length) (a : Int) :
    Calls Try.prog 39 #[.pointer (some ⟨l, 0, none⟩), .pointer (some ⟨pb, t * 6, none⟩), .int .i64 a] w fun e w' =>
      e = .returned (.int .i64 (unlS k tl st t a).1) ∧ O l s lb pb cap p SP k hs tl w' (b + 1) (unlS k tl st t a).2 ∧ Upd (ft l s lb pb SP) w w' := by
  by_cases e : (st.pls.getD t p0).s = 0
  · exact unl0 h hb t ht a e
  · cases hc : (Mem.inB a k && Mem.casB st.ws (nodeA tl (st.pls.getD t p0).n) (st.pls.getD t p0).w) with
    | true => exact unl1y h hb t ht a e hc
    | false => exact unl1n h hb t ht a e hc
end Go.Proofs.Ytmiidiijhhjabaa.Hier
