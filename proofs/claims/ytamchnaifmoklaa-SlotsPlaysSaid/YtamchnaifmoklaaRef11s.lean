/- The document's lock of Anderson: its Step, by value: the same as the program's. -/
import Derived.Test.YtamchnaifmoklaaRef11
namespace Go.Proofs.Ytamchnaifmoklaa.Ref11
open Go Go.RowKit Go.Proofs.Ytamchnaifmoklaa.Heap Go.Proofs.Ytamchnaifmoklaa.Open Go.Proofs.Ytamchnaifmoklaa.Seat Go.Proofs.Ytamchnaifmoklaa.Mach Go.Proofs.Ytamchnaifmoklaa.Has Go.Proofs.Ytamchnaifmoklaa.Ref09 Go.Proofs.Ytamchnaifmoklaa.Modl Go.Proofs.Ytamchnaifmoklaa.SeatP Go.Proofs.Ytamchnaifmoklaa.StepU Go.Proofs.Ytamchnaifmoklaa.Slots Go.Proofs.Ytamchnaifmoklaa.Pack
variable {x sx sb db pc ob : Nat} {kn : Int}

theorem up_rel {st st' : St} {ol ol' : List Int} {q : Nat} (hrel : Rel kn st ol) (hM : Mid kn st ol q st' ol') (fl : List (Int × Int)) : Rel kn { st' with seats := fl } ol' := fun u hu => by
  by_cases e : u = q
  · subst e; exact hM.2.2 hu
  · obtain ⟨k1, k2⟩ := hM.2.1 u e
    rw [k2]
    have hu : (st'.pls.getD u (0, 0)).2 ≠ 0 := hu
    show ol.getD u 0 = (st'.pls.getD u (0, 0)).1 % kn
    rw [k1] at hu ⊢
    exact hrel u hu
theorem fin00 (l : List (Int × Int)) (t : Int) : fin l t 0 = (false, l) := by
  unfold fin
  rw [if_pos]
  unfold Seat.next
  (repeat' split) <;> omega
/-- A step told in parts. -/
structure Told (kn : Int) (n : Nat) (st : St) (ol : List Int) (q : Nat) (now : Int) (d : Did) (fl : List (Int × Int)) (pl' ol' ws' : List Int) (ts' : List T) (st2 : St) : Prop where
  step : Slots.step n 0 kn st q q now = (d, st2)
  seats : st2.seats = fl
  pl : pcl st2 = pl'
  ws : st2.ws = ws'
  ts : st2.ts = ts'
  rel : Rel kn st2 ol'
theorem pcl_set (l : List P2) (q : Nat) (a b : Int) : (l.set q (a, b)).map (·.2) = (l.map (·.2)).set q b := by simp [List.map_set]
theorem fin_at {st : St} {q : Nat} (ev : Int) (z : Int) (hz : state st.seats (q : Int) = z) (m : Int) (hm : Seat.next z ev = m) (h0 : 0 ≤ m) : fin st.seats (q : Int) ev = (true, st.seats.set q (m, -1)) := by
  unfold fin
  rw [hz, hm, Int.toNat_natCast, if_neg (by omega)]
section
variable {st : St} {ol : List Int} {n q : Nat} {now : Int}
theorem toldA0 (hrel : Rel kn st ol) (hq : q < st.pls.length) (hql : q < ol.length) (hz : state st.seats (q : Int) = 1) (hp : (st.pls.getD q (0, 0)).2 = 0) :
    ∃ st2, Told kn n st ol q now (0, true, false, false) st.seats ((pcl st).set q 1) (ol.set q (rd n st.ws q 0 % kn)) (wrt n st.ws q 0 ((Mem.get st.ws 0 + 1) % 4294967296)) (Cache.after n st.ws.length st.ts q 0 true) st2 := by
  have E : midS n 0 kn st q q = ((0, true, false, false), { st with pls := st.pls.set q (rd n st.ws q 0, 1), ws := wrt n st.ws q 0 ((Mem.get st.ws 0 + 1) % 4294967296), ts := Cache.after n st.ws.length st.ts q 0 true }) := by
    unfold midS lockS
    rw [if_pos hz, Int.toNat_natCast]
    dsimp only
    rw [if_pos hp]
  refine ⟨{ st with pls := st.pls.set q (rd n st.ws q 0, 1), ws := wrt n st.ws q 0 ((Mem.get st.ws 0 + 1) % 4294967296), ts := Cache.after n st.ws.length st.ts q 0 true }, ?_, rfl, ?_, rfl, rfl, up_rel hrel (Mid.setO (st' := { st with pls := st.pls.set q (rd n st.ws q 0, 1) }) hq hql _ 1 rfl rfl) st.seats⟩
  · unfold Slots.step
    rw [E]
    dsimp only
    rw [fin_none]
  · exact pcl_set _ _ _ _
theorem toldA1z (hrel : Rel kn st ol) (hz : state st.seats (q : Int) = 1) (hp : (st.pls.getD q (0, 0)).2 = 1) (hg : rd n st.ws q (1 + ol.getD q 0) = 0) :
    ∃ st2, Told kn n st ol q now (0, false, false, false) st.seats (pcl st) ol st.ws (Cache.after n st.ws.length st.ts q (1 + ol.getD q 0) false) st2 := by
  have ha : slotA 0 kn (st.pls.getD q (0, 0)).1 = 1 + ol.getD q 0 := by
    rw [hrel q (by rw [hp]; decide)]; unfold slotA; omega
  have E : midS n 0 kn st q q = ((0, false, false, false), { st with ts := Cache.after n st.ws.length st.ts q (1 + ol.getD q 0) false }) := by
    unfold midS lockS
    rw [if_pos hz, Int.toNat_natCast]
    dsimp only
    rw [if_neg (by rw [hp]; decide), if_pos hp, ha, if_pos hg]
  refine ⟨{ st with ts := Cache.after n st.ws.length st.ts q (1 + ol.getD q 0) false }, ?_, rfl, rfl, rfl, rfl, hrel⟩
  unfold Slots.step
  rw [E]
  dsimp only
  rw [fin_none]
theorem toldA1n (hrel : Rel kn st ol) (hq : q < st.pls.length) (hz : state st.seats (q : Int) = 1) (hp : (st.pls.getD q (0, 0)).2 = 1) (hg : ¬ rd n st.ws q (1 + ol.getD q 0) = 0) :
    ∃ st2, Told kn n st ol q now (0, false, false, false) st.seats ((pcl st).set q 2) ol st.ws (Cache.after n st.ws.length st.ts q (1 + ol.getD q 0) false) st2 := by
  have ho := hrel q (by rw [hp]; decide)
  have ha : slotA 0 kn (st.pls.getD q (0, 0)).1 = 1 + ol.getD q 0 := by
    rw [ho]; unfold slotA; omega
  have E : midS n 0 kn st q q = ((0, false, false, false), { st with pls := st.pls.set q ((st.pls.getD q (0, 0)).1, 2), ts := Cache.after n st.ws.length st.ts q (1 + ol.getD q 0) false }) := by
    unfold midS lockS
    rw [if_pos hz, Int.toNat_natCast]
    dsimp only
    rw [if_neg (by rw [hp]; decide), if_pos hp, ha, if_neg hg]
  refine ⟨{ st with pls := st.pls.set q ((st.pls.getD q (0, 0)).1, 2), ts := Cache.after n st.ws.length st.ts q (1 + ol.getD q 0) false }, ?_, rfl, ?_, rfl, rfl, up_rel hrel (Mid.set (st' := { st with pls := st.pls.set q ((st.pls.getD q (0, 0)).1, 2) }) hq _ 2 rfl rfl (fun _ => ho)) st.seats⟩
  · unfold Slots.step
    rw [E]
    dsimp only
    rw [fin_none]
  · exact pcl_set _ _ _ _
theorem toldA2 (hrel : Rel kn st ol) (hz : state st.seats (q : Int) = 1) (hp : (st.pls.getD q (0, 0)).2 = 2) :
    ∃ st2, Told kn n st ol q now (1, false, false, false) (st.seats.set q (2, -1)) (pcl st) ol (wrt n st.ws q (1 + ol.getD q 0) 0) (Cache.after n st.ws.length st.ts q (1 + ol.getD q 0) true) st2 := by
  have ho := hrel q (by rw [hp]; decide)
  have ha : slotA 0 kn (st.pls.getD q (0, 0)).1 = 1 + ol.getD q 0 := by
    rw [ho]; unfold slotA; omega
  have E : midS n 0 kn st q q = ((1, false, false, false), { st with ws := wrt n st.ws q (1 + ol.getD q 0) 0, ts := Cache.after n st.ws.length st.ts q (1 + ol.getD q 0) true }) := by
    unfold midS lockS
    rw [if_pos hz, Int.toNat_natCast]
    dsimp only
    rw [if_neg (by rw [hp]; decide), if_neg (by rw [hp]; decide), ha]
  refine ⟨{ st with seats := st.seats.set q (2, -1), ws := wrt n st.ws q (1 + ol.getD q 0) 0, ts := Cache.after n st.ws.length st.ts q (1 + ol.getD q 0) true }, ?_, rfl, rfl, rfl, rfl, hrel⟩
  unfold Slots.step
  rw [E]
  dsimp only
  rw [fin_at 1 1 hz 2 rfl (by decide)]
theorem toldB (hrel : Rel kn st ol) (hq : q < st.pls.length) (hkn : IsSize kn) (hok : Ok st.pls) (hz : state st.seats (q : Int) = 3) (hp : (st.pls.getD q (0, 0)).2 = 2) :
    ∃ st2, Told kn n st ol q now (3, false, false, false) (st.seats.set q (0, -1)) ((pcl st).set q 0) ol (wrt n st.ws q (1 + (ol.getD q 0 + 1) % kn) 1) (Cache.after n st.ws.length st.ts q (1 + (ol.getD q 0 + 1) % kn) true) st2 := by
  have ho := hrel q (by rw [hp]; decide)
  obtain ⟨⟨k0, k1⟩, _⟩ := hok q hq
  have ha : slotA 0 kn (((st.pls.getD q (0, 0)).1 + 1) % 4294967296) = 1 + (ol.getD q 0 + 1) % kn := by
    rw [ho, ← next_slot _ kn hkn]
    have e : (st.pls.getD q (0, 0)).1 % 4294967296 = (st.pls.getD q (0, 0)).1 := by omega
    rw [e]; unfold slotA; omega
  have E : midS n 0 kn st q q = ((3, false, false, false), { st with pls := st.pls.set q (0, 0), ws := wrt n st.ws q (1 + (ol.getD q 0 + 1) % kn) 1, ts := Cache.after n st.ws.length st.ts q (1 + (ol.getD q 0 + 1) % kn) true }) := by
    unfold midS
    rw [hz, if_neg (by decide), if_pos rfl, Int.toNat_natCast, ha]
  refine ⟨{ seats := st.seats.set q (0, -1), pls := st.pls.set q (0, 0), ws := wrt n st.ws q (1 + (ol.getD q 0 + 1) % kn) 1, ts := Cache.after n st.ws.length st.ts q (1 + (ol.getD q 0 + 1) % kn) true }, ?_, rfl, ?_, rfl, rfl, up_rel hrel (Mid.set (st' := { st with pls := st.pls.set q (0, 0) }) hq 0 0 rfl rfl (fun e => absurd rfl e)) (st.seats.set q (0, -1))⟩
  · unfold Slots.step
    rw [E]
    dsimp only
    rw [fin_at 3 3 hz 0 rfl (by decide)]
  · exact pcl_set _ _ _ _
end
theorem toldC {st : St} {ol : List Int} {n q : Nat} {now : Int} (hrel : Rel kn st ol) (h1 : state st.seats (q : Int) ≠ 1) (h3 : state st.seats (q : Int) ≠ 3) :
    ∃ st2, Told kn n st ol q now (0, false, false, false) st.seats (pcl st) ol st.ws st.ts st2 := by
  refine ⟨st, ?_, rfl, rfl, rfl, rfl, hrel⟩
  have E : midS n 0 kn st q q = ((0, false, false, false), st) := by unfold midS; rw [if_neg h1, if_neg h3]
  unfold Slots.step
  rw [E]
  dsimp only
  rw [fin_none]
set_option maxHeartbeats 16000000 in
set_option maxRecDepth 40000 in
theorem stepA0 {w : World} {st : St} {ol : List Int} {y n : Nat} {R : Nat → Prop} (h : MAt x sx sb db pc ob kn w st.seats (pcl st) ol) (hrel : Rel kn st ol) (hpl : st.pls.length = st.seats.length) (hn : st.seats.length = n) (n8 : n ≤ 8) (hkn : IsSize kn) (hR : Ref04.RO w y R n st.ws st.ts) (hd : ∀ i, R i → ¬ fm x sx sb db pc ob i) (hf : st.ts.length < 1000000) (hws : st.ws.length ≤ 100000) (q : Nat) (hq : q < st.seats.length) (now : Int) (hz : state st.seats (q : Int) = 1) (hp : (st.pls.getD q (0, 0)).2 = 0) (hwd : Mem.Wd st.ws) :
    Calls Try.prog 99 #[.pointer (some ⟨x, 0, none⟩), .pointer (some ⟨y, 0, none⟩), .int .i64 q, .int .i64 q, .int .i64 now] w fun e w' =>
      e = .returned (didm (Slots.step n 0 kn st (q : Int) (q : Int) now).1) ∧ (∃ ol', MAt x sx sb db pc ob kn w' (Slots.step n 0 kn st (q : Int) (q : Int) now).2.seats (pcl (Slots.step n 0 kn st (q : Int) (q : Int) now).2) ol' ∧ Rel kn (Slots.step n 0 kn st (q : Int) (q : Int) now).2 ol') ∧
      ∃ R', Ref04.RO w' y R' n (Slots.step n 0 kn st (q : Int) (q : Int) now).2.ws (Slots.step n 0 kn st (q : Int) (q : Int) now).2.ts ∧ Upd (fun i => fm x sx sb db pc ob i ∨ R i) w w' ∧ ∀ i, R' i → R i ∨ w.heap.size ≤ i := by
  have c0 := h.top.cell (i := 0) rfl
  have c3 := h.top.cell (i := 3) rfl
  have hxl := h.top.lt
  have D1 : Upd (fun _ => False) w ((w.alloc (.cells #[.int .i64 0, .int .i64 0, .int .i64 0, .int .i64 0] 139)).alloc (.cells #[.int .i64 0, .int .i64 0, .int .i64 0, .int .i64 0] 139)) := ((Upd.refl _ w).alloc _).alloc _
  have h1 := h.keep D1 (fun _ _ => id)
  have g1 := hR.keep D1 (fun _ _ => id)
  have R0 : Row ((w.alloc (.cells #[.int .i64 0, .int .i64 0, .int .i64 0, .int .i64 0] 139)).alloc (.cells #[.int .i64 0, .int .i64 0, .int .i64 0, .int .i64 0] 139)) w.heap.size [.int .i64 0, .int .i64 0, .int .i64 0, .int .i64 0] := (Row.new' rfl).alloc _
  have R1 : Row ((w.alloc (.cells #[.int .i64 0, .int .i64 0, .int .i64 0, .int .i64 0] 139)).alloc (.cells #[.int .i64 0, .int .i64 0, .int .i64 0, .int .i64 0] 139)) (w.heap.size + 1) [.int .i64 0, .int .i64 0, .int .i64 0, .int .i64 0] := Row.new' (by simp)
  have up1 : Upd (fun i => fm x sx sb db pc ob i ∨ R i) w ((w.alloc (.cells #[.int .i64 0, .int .i64 0, .int .i64 0, .int .i64 0] 139)).alloc (.cells #[.int .i64 0, .int .i64 0, .int .i64 0, .int .i64 0] 139)) := D1.mono fun _ _ z => z.elim
  have hlm := h.lt
  have hlr := hR.lt
  have b1 : decide ((q : Int) < 0) = false := by rw [decide_eq_false_iff_not]; omega
  have b2 : decide ((st.seats.length : Int) ≤ (q : Int)) = false := by rw [decide_eq_false_iff_not]; omega
  have b3 : decide (st.seats.length ≤ q) = false := by rw [decide_eq_false_iff_not]; omega
  have hqn : q < n := by omega
  have HF := Lib.hid hf
  have HN := Lib.hid hn
  have HK64 := Lib.hid (show n ≤ 64 by omega)
  have HWS := Lib.hid hws
  have HKN := Lib.hid (size_pos hkn)
  obtain ⟨D, hD⟩ : ∃ D, w.heap.size = D := ⟨_, rfl⟩
  have HD := Lib.hid hD
  obtain ⟨W, hW⟩ : ∃ W, (w.alloc (.cells #[.int .i64 0, .int .i64 0, .int .i64 0, .int .i64 0] 139)).alloc (.cells #[.int .i64 0, .int .i64 0, .int .i64 0, .int .i64 0] 139) = W := ⟨_, rfl⟩
  rw [hD] at R0 R1 hlm hlr
  rw [hW] at h1 g1 R0 R1 up1
  have HW := Lib.hid hW
  have HLM := Lib.hid hlm
  have HLR := Lib.hid hlr
  have HDD := Lib.hid hd
  have hWD : D + 2 = W.heap.size := by rw [← hW, ← hD]; simp
  have HWD := Lib.hid hWD
  have UP1 := Lib.hid up1
  have HQ := Lib.hid hq
  have hqo : q < ol.length := by rw [h.l2]; exact hq
  have hqp : q < st.pls.length := by rw [hpl]; exact hq
  obtain ⟨st2, tl⟩ := toldA0 (n := n) (now := now) hrel hqp hqo hz hp
  have TL := Lib.hid tl
  have hzq : (st.seats.getD q (0, -1)).1 = 1 := by
    have e := hz
    unfold state at e
    rw [inB_mk hq, if_pos rfl, Int.toNat_natCast] at e; exact e
  have owd := h.wd q
  obtain ⟨ov, hov⟩ : ∃ ov, ol.getD q 0 = ov := ⟨_, rfl⟩
  rw [hov] at owd
  clear tl hf hn hws n8 hW hD hlm hlr hd hrel hpl hkn hqn D1 up1 hWD h hR hqp
  go_enter Try.func99, Try.ntmps99
  go_upto_region 4 with (fail)
  rw [HW.out, HD.out]
  clear c0 c3 hxl b1 b2 b3
  have hq1 : (0 : Int) ≤ (q : Int) := by omega
  have hq2 : (q : Int) < (st.seats.length : Int) := by omega
  have c0 := h1.top.cell (i := 0) rfl
  have c1 := h1.top.cell (i := 1) rfl
  have c2 := h1.top.cell (i := 2) rfl
  have c3 := h1.top.cell (i := 3) rfl
  have c4 := h1.top.cell (i := 4) rfl
  obtain ⟨cs, cd, htop⟩ := h1.seat.top
  have s0 := htop.cell (i := 0) rfl
  have s1 := h1.seat.st.cell (sts_get hq)
  rw [hzq] at s1
  have p1 := h1.prow.cell (ii_get (t := q) (by rw [h1.l1]; exact hq))
  rw [pcl_get, hp] at p1
  have o1 := h1.orow.cell (ii_get (t := q) hqo)
  rw [hov] at o1
  have hDm : ∀ i, fm x sx sb db pc ob i → i ≠ D := fun i hi e => by have := HLM.out i hi; omega
  have hDm1 : ∀ i, fm x sx sb db pc ob i → i ≠ D + 1 := fun i hi e => by have := HLM.out i hi; omega
  have nR : ∀ i, fm x sx sb db pc ob i → ¬ R i := fun i hi h => HDD.out i h hi
  have nx := nR x (by simp [fm])
  have no := nR ob (by simp [fm])
  have np := nR pc (by simp [fm])
  have nsx := nR sx (by simp [fm])
  have nsb := nR sb (by simp [fm])
  have nD : ¬ R D := fun h => by have := HLR.out D h; omega
  have nD1 : ¬ R (D + 1) := fun h => by have := HLR.out _ h; omega
  have HQO := Lib.hid hqo
  clear hz hzq hov nR htop hqo
  obtain ⟨g, hg⟩ : ∃ g, rd n st.ws q 0 = g := ⟨_, rfl⟩
  have hgw := rd_wd hwd n q 0
  rw [hg] at TL hgw
  obtain ⟨r, hr⟩ : ∃ r, g % kn = r := ⟨_, rfl⟩
  have hr0 : 0 ≤ r ∧ r < kn := by
    have := HKN.out
    rw [← hr]
    exact ⟨Int.emod_nonneg _ (by omega), Int.emod_lt_of_pos _ (by omega)⟩
  have hmod : Int.tmod g kn = r := by rw [Int.tmod_eq_emod_of_nonneg hgw.1]; exact hr
  rw [hr] at TL
  have KA := Ref04.addR W.drew (g1.drewN 1) HF.out HK64.out HWS.out q 0 1
  rw [hg, show (if Mem.inB (q : Int) n = true then Mem.put st.ws 0 ((Mem.get st.ws 0 + 1) % 4294967296) else st.ws) = wrt n st.ws q 0 ((Mem.get st.ws 0 + 1) % 4294967296) from rfl] at KA
  have HKA := Lib.hid KA
  have hk0 : ¬ (kn = 0) := by have := HKN.out; omega
  have hk1 : (1 : Int) ≤ kn := HKN.out.1
  have hgi : IntKind.i64.wrap g = g := IntWalk.i64_in _ (by omega)
  clear KA hwd hg
  go_wp2_with fail
  go_region_held3 (fun w' => w'.cell? ⟨x, 1, none⟩ = some (.int .i64 0) ∧ w'.cell? ⟨x, 2, none⟩ = some (.int .i64 kn) ∧ w'.cell? ⟨x, 4, none⟩ = some (.slice (some ⟨ob, 0, none⟩) st.seats.length st.seats.length)) ((first | exact ⟨c1, c2, c4⟩ | exact ⟨ec1, ec2, ec4⟩ | exact ⟨fc1, fc2, fc4⟩))
    ((go_at_call 101; refine HKA.out.mono ?_; rintro e w5 ⟨rfl, R', hR5, u5, hR5s⟩; have ec1 := cell_upd u5 c1 nx; have ec2 := cell_upd u5 c2 nx; have ec4 := cell_upd u5 c4 nx; have A5' := (h1.keep ((Upd.refl (fun _ => False) W).drewN 1) (fun _ _ => id)).keep u5 (fun i hi h => HDD.out i h hi); have m5 := cell_upd u5 o1 no; have fz5 := A5'.orow.frozen q; have A6' := A5'.setOwn q r hr0; have fc1 := A6'.top.cell (i := 1) rfl; have fc2 := A6'.top.cell (i := 2) rfl; have fc4 := A6'.top.cell (i := 4) rfl))
  have A5 := (h1.keep ((Upd.refl (fun _ => False) W).drewN 1) (fun _ _ => id)).keep u5 (fun i hi h => HDD.out i h hi)
  have R5 := (R1.drewN 1).upd u5 nD1
  have Q5 := (R0.drewN 1).upd u5 nD
  have up5 : Upd (fun i => fm x sx sb db pc ob i ∨ R i) w w5 := (UP1.out.drewN 1).trans (u5.mono fun i _ h => .inr h)
  have g5 := hR5
  have HRS : Hid (∀ i, R' i → (R i ∨ w.heap.size + 2 ≤ i) ∧ i ≠ D + 1 ∧ i ≠ ob ∧ i ≠ pc ∧ i ≠ D) := Lib.hid fun i hi => by
    rcases hR5s i hi with h | h
    · exact ⟨.inl h, by have := HLR.out i h; omega, fun e => HDD.out i h (by rw [e]; simp [fm]), fun e => HDD.out i h (by rw [e]; simp [fm]), by have := HLR.out i h; omega⟩
    · have := HWD.out; have := HD.out; have := HLM.out ob (by simp [fm]); have := HLM.out pc (by simp [fm]); have h : W.heap.size ≤ i := h; exact ⟨.inr (by omega), by omega, by omega, by omega, by omega⟩
  clear h1 g1 R0 R1 c0 c1 c2 c3 c4 s0 s1 o1 p1 u5 HKA hR5 hR5s ec1 ec2 ec4 fc1 fc2 fc4 m5 fz5 A5' A6' hgi hk0 hk1 hmod hr
  have U6 := Upd.one w5 ob q (.int .i64 r)
  have A6 := A5.setOwn q r hr0
  have R6 := R5.upd U6 (fun e => hDm1 ob (by simp [fm]) e.symm)
  have Q6 := Q5.upd U6 (fun e => hDm ob (by simp [fm]) e.symm)
  have g6 := g5.keep U6 (fun i hi e => (HRS.out i hi).2.2.1 e)
  have up6 := up5.trans (U6.mono fun i _ e => (by rw [e]; simp [fm] : fm x sx sb db pc ob i ∨ R i))
  obtain ⟨w6, hw6⟩ : ∃ w', w5.setCell ⟨ob, q, none⟩ (.int .i64 r) = w' := ⟨_, rfl⟩
  rw [hw6] at A6 R6 Q6 g6 up6 ⊢
  clear hw6 A5 R5 Q5 g5 up5 U6
  have t2 := A6.top.cell (i := 3) rfl
  have t3 := A6.prow.cell (ii_get (t := q) (by rw [A6.l1]; exact HQ.out))
  have t4 := A6.prow.frozen q
  have U7 := Upd.one w6 pc q (.int .i64 1)
  have A7 := A6.setPc q 1
  have R7 := R6.upd U7 (fun e => hDm1 pc (by simp [fm]) e.symm)
  have Q7 := Q6.upd U7 (fun e => hDm pc (by simp [fm]) e.symm)
  have g7 := g6.keep U7 (fun i hi e => (HRS.out i hi).2.2.2.1 e)
  have up7 := up6.trans (U7.mono fun i _ e => (by rw [e]; simp [fm] : fm x sx sb db pc ob i ∨ R i))
  go_upto_region 12 with (fail)
  obtain ⟨w7, hw7⟩ : ∃ w', w6.setCell ⟨pc, q, none⟩ (.int .i64 1) = w' := ⟨_, rfl⟩
  rw [hw7] at A7 R7 Q7 g7 up7 ⊢
  clear t2 t3 t4 hw7 A6 R6 Q6 g6 up6 U7
  have y0 := R7.cell (i := 1) rfl
  have z0 := R7.frozen 1
  have U10 := Upd.one w7 (D + 1) 1 (.int .i64 1)
  have A10 := A7.keep U10 (fun i hi e => hDm1 i hi e)
  have R10 := R7.set 1 (.int .i64 1)
  have Q10 := Q7.upd U10 (by omega)
  have g10 := g7.keep U10 (fun i hi e => (HRS.out i hi).2.1 e)
  have up10 := up7.then U10 (fun i hi e => by have := HD.out; omega)
  go_upto_region 19 with (fail)
  obtain ⟨w10, hw10⟩ : ∃ w', w7.setCell ⟨D + 1, 1, none⟩ (.int .i64 1) = w' := ⟨_, rfl⟩
  rw [hw10] at A10 R10 Q10 g10 up10 ⊢
  clear y0 z0 hw10 A7 R7 Q7 g7 up7 U10
  have g0 := A10.top.cell (i := 0) rfl
  have g1' := R10.cell (i := 0) rfl
  obtain ⟨cs', cd', htop5⟩ := A10.seat.top
  have g2 := htop5.cell (i := 0) rfl
  have KE := rend_all _ _ _ _ _ _ _ (A10.seat.drewN 1) q 0
  rw [show fin st.seats (q : Int) 0 = (false, st.seats) from fin00 _ _, show b2i ((false, st.seats) : Bool × List (Int × Int)).1 = 0 from rfl] at KE
  have hxb : ¬ (x = sb ∨ x = db) := fun e => by rcases e with e | e; exact A10.e1.2.1 e; exact A10.e1.2.2.1 e
  have hsb : ¬ (sx = sb ∨ sx = db) := fun e => by rcases e with e | e; exact A10.seat.ne1 e; exact A10.seat.ne2 e
  have hDb : ¬ (D = sb ∨ D = db) := fun e => by rcases e with e | e; exact hDm sb (by simp [fm]) e.symm; exact hDm db (by simp [fm]) e.symm
  have hD1b : ¬ (D + 1 = sb ∨ D + 1 = db) := fun e => by rcases e with e | e; exact hDm1 sb (by simp [fm]) e.symm; exact hDm1 db (by simp [fm]) e.symm
  have hpn : pc ≠ D ∧ pc ≠ D + 1 := ⟨hDm pc (by simp [fm]), hDm1 pc (by simp [fm])⟩
  have HKE := Lib.hid KE
  have HPN := Lib.hid hpn
  have HGB : Hid (∀ i, R' i → ¬ (i = sb ∨ i = db)) := Lib.hid fun i hi e => by
    have hf : fm x sx sb db pc ob i := by rcases e with rfl | rfl <;> simp [fm]
    rcases (HRS.out i hi).1 with h | h
    · exact HDD.out i h hf
    · have := HLM.out i hf; have := HD.out; omega
  have HLEN : Hid ((st.seats).length = st.seats.length) := Lib.hid (by simp)
  clear KE htop5 hpn
  refine wp_region_held_drew (S := fun w' => w'.cell? ⟨x, 0, none⟩ = some (.pointer (some ⟨sx, 0, none⟩)) ∧ w'.cell? ⟨sx, 0, none⟩ = some (.slice (some ⟨sb, 0, none⟩) st.seats.length cs') ∧ w'.cell? ⟨D + 1, 0, none⟩ = some (.int .i64 0)) (by kernel_rfl) ⟨g0, g2, g1'⟩ (fun hHeld => ?_)
  refine wpAnyH_take (i := 0) (v := ?_) rfl (by kernel_rfl) (by kernel_rfl) (by kernel_rfl) (fun _ _ _ h => h) (Or.inl ⟨by rfl, ?_⟩) hHeld ?_
  rotate_left
  · (intro w' hSw; (try dsimp only at hSw); go_simp) <;> with_reducible rfl
  change wpAnyH _ _ _ _ _ _ _ (Act.put _ (some 149) _) _
  try simp only [Act.put, List.setIfInBounds_toArray, List.set_cons_zero, List.set_cons_succ]
  refine wpAnyH_take (i := 1) (v := ?_) rfl (by kernel_rfl) (by kernel_rfl) (by kernel_rfl) (fun _ _ _ h => h) (Or.inl ⟨by rfl, ?_⟩) hHeld ?_
  rotate_left
  · (intro w' hSw; (try dsimp only at hSw); go_simp) <;> with_reducible rfl
  change wpAnyH _ _ _ _ _ _ _ (Act.put _ (some 150) _) _
  try simp only [Act.put, List.setIfInBounds_toArray, List.set_cons_zero, List.set_cons_succ]
  refine wpAnyH_take (i := 2) (v := ?_) rfl (by kernel_rfl) (by kernel_rfl) (by kernel_rfl) (fun _ _ _ h => h) (Or.inl ⟨by rfl, ?_⟩) hHeld ?_
  rotate_left
  · (intro w' hSw; (try dsimp only at hSw); go_simp) <;> with_reducible rfl
  change wpAnyH _ _ _ _ _ _ _ (Act.put _ (some 151) _) _
  try simp only [Act.put, List.setIfInBounds_toArray, List.set_cons_zero, List.set_cons_succ]
  refine wpAnyH_take (i := 3) (v := ?_) rfl (by kernel_rfl) (by kernel_rfl) (by kernel_rfl) (fun _ _ _ h => h) (Or.inl ⟨by rfl, ?_⟩) hHeld ?_
  rotate_left
  · (intro w' hSw; (try dsimp only at hSw); go_simp) <;> with_reducible rfl
  change wpAnyH _ _ _ _ _ _ _ (Act.put _ (some 152) _) _
  try simp only [Act.put, List.setIfInBounds_toArray, List.set_cons_zero, List.set_cons_succ]
  refine wpAnyH_take (i := 4) (v := ?_) rfl (by kernel_rfl) (by kernel_rfl) (by kernel_rfl) (fun _ _ _ h => h) (Or.inl ⟨by rfl, ?_⟩) hHeld ?_
  rotate_left
  · (intro w' hSw; (try dsimp only at hSw); go_simp) <;> with_reducible rfl
  change wpAnyH _ _ _ _ _ _ _ (Act.put _ (some 153) _) _
  try simp only [Act.put, List.setIfInBounds_toArray, List.set_cons_zero, List.set_cons_succ]
  refine wpAnyH_take (i := 5) (v := ?_) rfl (by kernel_rfl) (by kernel_rfl) (by kernel_rfl) (fun _ _ _ h => h) (Or.inl ⟨by rfl, ?_⟩) hHeld ?_
  rotate_left
  · (intro w' hSw; (try dsimp only at hSw); go_simp) <;> with_reducible rfl
  change wpAnyH _ _ _ _ _ _ _ (Act.put _ (some 154) _) _
  try simp only [Act.put, List.setIfInBounds_toArray, List.set_cons_zero, List.set_cons_succ]
  refine wpAnyH_take (i := 6) (v := ?_) rfl (by kernel_rfl) (by kernel_rfl) (by kernel_rfl) (fun _ _ _ h => h) (Or.inl ⟨by rfl, ?_⟩) hHeld ?_
  rotate_left
  · (intro w' hSw; (try dsimp only at hSw); go_simp) <;> with_reducible rfl
  change wpAnyH _ _ _ _ _ _ _ (Act.put _ (some 155) _) _
  try simp only [Act.put, List.setIfInBounds_toArray, List.set_cons_zero, List.set_cons_succ]
  refine wpAnyH_ready (rs := [7]) (by kernel_rfl) (by simp) ?_
  refine AllReadyH.cons rfl (fun K hK => ?_) AllReadyH.nil
  go_simp
  refine HKE.out.mono ?_
  rintro e w8 ⟨rfl, hs8, u8⟩
  have e0 := cell_upd u8 g0 hxb
  have e2 := cell_upd u8 g2 hsb
  have e1 := cell_upd u8 g1' hD1b
  simp only []
  refine hK.out _ _ ⟨e0, e2, e1⟩ (fun hHeld => ?_)
  clear hK K
  try simp only [Act.put, List.setIfInBounds_toArray, List.set_cons_zero, List.set_cons_succ]
  refine wpAnyH_take (i := 8) (v := ?_) rfl (by kernel_rfl) (by kernel_rfl) (by kernel_rfl) (fun _ _ _ h => h) (Or.inl ⟨by rfl, ?_⟩) hHeld ?_
  rotate_left
  · (intro w' hSw; (try dsimp only at hSw); go_simp) <;> with_reducible rfl
  change wpAnyH _ _ _ _ _ _ _ (Act.put _ (some 157) _) _
  try simp only [Act.put, List.setIfInBounds_toArray, List.set_cons_zero, List.set_cons_succ]
  refine wpAnyH_take (i := 9) (v := ?_) rfl (by kernel_rfl) (by kernel_rfl) (by kernel_rfl) (fun _ _ _ h => h) (Or.inl ⟨by rfl, ?_⟩) hHeld ?_
  rotate_left
  · (intro w' hSw; (try dsimp only at hSw); go_simp) <;> with_reducible rfl
  change wpAnyH _ _ _ _ _ _ _ (Act.put _ (some 158) _) _
  try simp only [Act.put, List.setIfInBounds_toArray, List.set_cons_zero, List.set_cons_succ]
  refine wpAnyH_take (i := 10) (v := undef) rfl (by kernel_rfl) (by kernel_rfl) (by kernel_rfl) (fun _ _ _ h => h) (Or.inr ⟨by kernel_rfl, rfl⟩) hHeld ?_
  change wpAnyH _ _ _ _ _ _ _ (Act.put _ (some 159) _) _
  try simp only [Act.put, List.setIfInBounds_toArray, List.set_cons_zero, List.set_cons_succ]
  refine wpAnyH_take (i := 11) (v := undef) rfl (by kernel_rfl) (by kernel_rfl) (by kernel_rfl) (fun _ _ _ h => h) (Or.inr ⟨by kernel_rfl, rfl⟩) hHeld ?_
  change wpAnyH _ _ _ _ _ _ _ (Act.put _ (some 160) _) _
  try simp only [Act.put, List.setIfInBounds_toArray, List.set_cons_zero, List.set_cons_succ]
  refine wpAnyH_take (i := 12) (v := undef) rfl (by kernel_rfl) (by kernel_rfl) (by kernel_rfl) (fun _ _ _ h => h) (Or.inr ⟨by kernel_rfl, rfl⟩) hHeld ?_
  change wpAnyH _ _ _ _ _ _ _ (Act.put _ (some 161) _) _
  try simp only [Act.put, List.setIfInBounds_toArray, List.set_cons_zero, List.set_cons_succ]
  refine wpAnyH_take (i := 13) (v := undef) rfl (by kernel_rfl) (by kernel_rfl) (by kernel_rfl) (fun _ _ _ h => h) (Or.inr ⟨by kernel_rfl, rfl⟩) hHeld ?_
  change wpAnyH _ _ _ _ _ _ _ (Act.put _ (some 162) _) _
  try simp only [Act.put, List.setIfInBounds_toArray, List.set_cons_zero, List.set_cons_succ]
  refine wpAnyH_take (i := 14) (v := undef) rfl (by kernel_rfl) (by kernel_rfl) (by kernel_rfl) (fun _ _ _ h => h) (Or.inr ⟨by kernel_rfl, rfl⟩) hHeld ?_
  change wpAnyH _ _ _ _ _ _ _ (Act.put _ (some 163) _) _
  try simp only [Act.put, List.setIfInBounds_toArray, List.set_cons_zero, List.set_cons_succ]
  refine wpAnyH_take (i := 15) (v := undef) rfl (by kernel_rfl) (by kernel_rfl) (by kernel_rfl) (fun _ _ _ h => h) (Or.inr ⟨by kernel_rfl, rfl⟩) hHeld ?_
  change wpAnyH _ _ _ _ _ _ _ (Act.put _ (some 164) _) _
  try simp only [Act.put, List.setIfInBounds_toArray, List.set_cons_zero, List.set_cons_succ]
  refine wpAnyH_take (i := 16) (v := undef) rfl (by kernel_rfl) (by kernel_rfl) (by kernel_rfl) (fun _ _ _ h => h) (Or.inr ⟨by kernel_rfl, rfl⟩) hHeld ?_
  change wpAnyH _ _ _ _ _ _ _ (Act.put _ (some 165) _) _
  try simp only [Act.put, List.setIfInBounds_toArray, List.set_cons_zero, List.set_cons_succ]
  refine wpAnyH_take (i := 17) (v := undef) rfl (by kernel_rfl) (by kernel_rfl) (by kernel_rfl) (fun _ _ _ h => h) (Or.inr ⟨by kernel_rfl, rfl⟩) hHeld ?_
  change wpAnyH _ _ _ _ _ _ _ (Act.put _ (some 166) _) _
  try simp only [Act.put, List.setIfInBounds_toArray, List.set_cons_zero, List.set_cons_succ]
  refine wpAnyH_take (i := 18) (v := undef) rfl (by kernel_rfl) (by kernel_rfl) (by kernel_rfl) (fun _ _ _ h => h) (Or.inr ⟨by kernel_rfl, rfl⟩) hHeld ?_
  change wpAnyH _ _ _ _ _ _ _ (Act.put _ (some 167) _) _
  try simp only [Act.put, List.setIfInBounds_toArray, List.set_cons_zero, List.set_cons_succ]
  refine wpAnyH_take (i := 19) (v := undef) rfl (by kernel_rfl) (by kernel_rfl) (by kernel_rfl) (fun _ _ _ h => h) (Or.inr ⟨by kernel_rfl, rfl⟩) hHeld ?_
  change wpAnyH _ _ _ _ _ _ _ (Act.put _ (some 168) _) _
  try simp only [Act.put, List.setIfInBounds_toArray, List.set_cons_zero, List.set_cons_succ]
  refine wpAnyH_take (i := 20) (v := undef) rfl (by kernel_rfl) (by kernel_rfl) (by kernel_rfl) (fun _ _ _ h => h) (Or.inr ⟨by kernel_rfl, rfl⟩) hHeld ?_
  change wpAnyH _ _ _ _ _ _ _ (Act.put _ (some 169) _) _
  try simp only [Act.put, List.setIfInBounds_toArray, List.set_cons_zero, List.set_cons_succ]
  refine wpAnyH_take (i := 21) (v := ?_) rfl (by kernel_rfl) (by kernel_rfl) (by kernel_rfl) (fun _ _ _ h => h) (Or.inl ⟨by rfl, ?_⟩) hHeld ?_
  rotate_left
  · (intro w' hSw; (try dsimp only at hSw); go_simp) <;> with_reducible rfl
  change wpAnyH _ _ _ _ _ _ _ (Act.put _ (some 170) _) _
  try simp only [Act.put, List.setIfInBounds_toArray, List.set_cons_zero, List.set_cons_succ]
  refine wpAnyH_done (by kernel_rfl) ?_ _
  have A8 := (A10.keep ((Upd.refl (fun _ => False) _).drewN 1) (fun _ _ => id)).seats HLEN.out hs8 u8
  have R8 := (R10.drewN 1).upd u8 hD1b
  have Q8 := (Q10.drewN 1).upd u8 hDb
  have g8 := (g10.drewN 1).keep u8 (fun i hi => HGB.out i hi)
  have up8 : Upd (fun i => fm x sx sb db pc ob i ∨ R i) w w8 := (up10.drewN 1).trans (u8.mono fun i _ e => by rcases e with rfl | rfl <;> simp [fm])
  clear e0 e1 e2 g0 g1' g2 A10 R10 Q10 g10 up10 u8 hs8
  have y0 := R8.cell (i := 0) rfl
  have y1 := R8.cell (i := 1) rfl
  have y2 := R8.cell (i := 2) rfl
  have y3 := R8.cell (i := 3) rfl
  have z0 := Q8.cell (i := 0) rfl
  have z1 := Q8.cell (i := 1) rfl
  have z2 := Q8.cell (i := 2) rfl
  have z3 := Q8.cell (i := 3) rfl
  have k0 := Q8.frozen 0
  have k1 := Q8.frozen 1
  have k2 := Q8.frozen 2
  have k3 := Q8.frozen 3
  go_wp2_with fail
  have RE := did4 Q8 (.int .i64 0) (.int .i64 1) (.int .i64 0) (.int .i64 0)
  have UE := upd4 w8 D (.int .i64 0) (.int .i64 1) (.int .i64 0) (.int .i64 0)
  obtain ⟨wz, hwz⟩ : ∃ wz, (((w8.setCell ⟨D, 0, none⟩ (.int .i64 0)).setCell ⟨D, 1, none⟩ (.int .i64 1)).setCell ⟨D, 2, none⟩ (.int .i64 0)).setCell ⟨D, 3, none⟩ (.int .i64 0) = wz := ⟨_, rfl⟩
  rw [hwz] at RE UE ⊢
  have g0 := RE.cell (i := 0) rfl
  have g1 := RE.cell (i := 1) rfl
  have g2 := RE.cell (i := 2) rfl
  have g3 := RE.cell (i := 3) rfl
  refine bodyPost_ret (v := didm (0, true, false, false)) (by simp [results, Try.results99, go_sem, didm, b2i, g0, g1, g2, g3]) rfl ?_
  rw [TL.out.step]
  dsimp only
  refine ⟨rfl, ⟨_, by rw [TL.out.seats, TL.out.pl]; exact A8.keep UE (fun i hi e => hDm i hi e), TL.out.rel⟩, R', by rw [TL.out.ws, TL.out.ts]; exact g8.keep UE (fun i hi e => (HRS.out i hi).2.2.2.2 e), up8.then UE (fun i hi e => by have := HD.out; omega), fun i hi => ?_⟩
  rcases (HRS.out i hi).1 with h | h
  · exact .inl h
  · exact .inr (by omega)
set_option maxHeartbeats 16000000 in
set_option maxRecDepth 40000 in
theorem stepA1z {w : World} {st : St} {ol : List Int} {y n : Nat} {R : Nat → Prop} (h : MAt x sx sb db pc ob kn w st.seats (pcl st) ol) (hrel : Rel kn st ol) (hpl : st.pls.length = st.seats.length) (hn : st.seats.length = n) (n8 : n ≤ 8) (hkn : IsSize kn) (hR : Ref04.RO w y R n st.ws st.ts) (hd : ∀ i, R i → ¬ fm x sx sb db pc ob i) (hf : st.ts.length < 1000000) (hws : st.ws.length ≤ 100000) (q : Nat) (hq : q < st.seats.length) (now : Int) (hz : state st.seats (q : Int) = 1) (hp : (st.pls.getD q (0, 0)).2 = 1) (hg : rd n st.ws q (1 + ol.getD q 0) = 0) :
    Calls Try.prog 99 #[.pointer (some ⟨x, 0, none⟩), .pointer (some ⟨y, 0, none⟩), .int .i64 q, .int .i64 q, .int .i64 now] w fun e w' =>
      e = .returned (didm (Slots.step n 0 kn st (q : Int) (q : Int) now).1) ∧ (∃ ol', MAt x sx sb db pc ob kn w' (Slots.step n 0 kn st (q : Int) (q : Int) now).2.seats (pcl (Slots.step n 0 kn st (q : Int) (q : Int) now).2) ol' ∧ Rel kn (Slots.step n 0 kn st (q : Int) (q : Int) now).2 ol') ∧
      ∃ R', Ref04.RO w' y R' n (Slots.step n 0 kn st (q : Int) (q : Int) now).2.ws (Slots.step n 0 kn st (q : Int) (q : Int) now).2.ts ∧ Upd (fun i => fm x sx sb db pc ob i ∨ R i) w w' ∧ ∀ i, R' i → R i ∨ w.heap.size ≤ i := by
  have c0 := h.top.cell (i := 0) rfl
  have c3 := h.top.cell (i := 3) rfl
  have hxl := h.top.lt
  have D1 : Upd (fun _ => False) w ((w.alloc (.cells #[.int .i64 0, .int .i64 0, .int .i64 0, .int .i64 0] 139)).alloc (.cells #[.int .i64 0, .int .i64 0, .int .i64 0, .int .i64 0] 139)) := ((Upd.refl _ w).alloc _).alloc _
  have h1 := h.keep D1 (fun _ _ => id)
  have g1 := hR.keep D1 (fun _ _ => id)
  have R0 : Row ((w.alloc (.cells #[.int .i64 0, .int .i64 0, .int .i64 0, .int .i64 0] 139)).alloc (.cells #[.int .i64 0, .int .i64 0, .int .i64 0, .int .i64 0] 139)) w.heap.size [.int .i64 0, .int .i64 0, .int .i64 0, .int .i64 0] := (Row.new' rfl).alloc _
  have R1 : Row ((w.alloc (.cells #[.int .i64 0, .int .i64 0, .int .i64 0, .int .i64 0] 139)).alloc (.cells #[.int .i64 0, .int .i64 0, .int .i64 0, .int .i64 0] 139)) (w.heap.size + 1) [.int .i64 0, .int .i64 0, .int .i64 0, .int .i64 0] := Row.new' (by simp)
  have up1 : Upd (fun i => fm x sx sb db pc ob i ∨ R i) w ((w.alloc (.cells #[.int .i64 0, .int .i64 0, .int .i64 0, .int .i64 0] 139)).alloc (.cells #[.int .i64 0, .int .i64 0, .int .i64 0, .int .i64 0] 139)) := D1.mono fun _ _ z => z.elim
  have hlm := h.lt
  have hlr := hR.lt
  have b1 : decide ((q : Int) < 0) = false := by rw [decide_eq_false_iff_not]; omega
  have b2 : decide ((st.seats.length : Int) ≤ (q : Int)) = false := by rw [decide_eq_false_iff_not]; omega
  have b3 : decide (st.seats.length ≤ q) = false := by rw [decide_eq_false_iff_not]; omega
  have hqn : q < n := by omega
  have HF := Lib.hid hf
  have HN := Lib.hid hn
  have HK64 := Lib.hid (show n ≤ 64 by omega)
  have HWS := Lib.hid hws
  have HKN := Lib.hid (size_pos hkn)
  obtain ⟨D, hD⟩ : ∃ D, w.heap.size = D := ⟨_, rfl⟩
  have HD := Lib.hid hD
  obtain ⟨W, hW⟩ : ∃ W, (w.alloc (.cells #[.int .i64 0, .int .i64 0, .int .i64 0, .int .i64 0] 139)).alloc (.cells #[.int .i64 0, .int .i64 0, .int .i64 0, .int .i64 0] 139) = W := ⟨_, rfl⟩
  rw [hD] at R0 R1 hlm hlr
  rw [hW] at h1 g1 R0 R1 up1
  have HW := Lib.hid hW
  have HLM := Lib.hid hlm
  have HLR := Lib.hid hlr
  have HDD := Lib.hid hd
  have hWD : D + 2 = W.heap.size := by rw [← hW, ← hD]; simp
  have HWD := Lib.hid hWD
  have UP1 := Lib.hid up1
  have HQ := Lib.hid hq
  have hqo : q < ol.length := by rw [h.l2]; exact hq
  have hqp : q < st.pls.length := by rw [hpl]; exact hq
  obtain ⟨st2, tl⟩ := toldA1z (n := n) (now := now) hrel hz hp hg
  have TL := Lib.hid tl
  have hzq : (st.seats.getD q (0, -1)).1 = 1 := by
    have e := hz
    unfold state at e
    rw [inB_mk hq, if_pos rfl, Int.toNat_natCast] at e; exact e
  have owd := h.wd q
  obtain ⟨ov, hov⟩ : ∃ ov, ol.getD q 0 = ov := ⟨_, rfl⟩
  rw [hov] at owd TL hg
  clear tl hf hn hws n8 hW hD hlm hlr hd hrel hpl hkn hqn D1 up1 hWD h hR hqp
  go_enter Try.func99, Try.ntmps99
  go_upto_region 4 with (fail)
  rw [HW.out, HD.out]
  clear c0 c3 hxl b1 b2 b3
  have hq1 : (0 : Int) ≤ (q : Int) := by omega
  have hq2 : (q : Int) < (st.seats.length : Int) := by omega
  have c0 := h1.top.cell (i := 0) rfl
  have c1 := h1.top.cell (i := 1) rfl
  have c2 := h1.top.cell (i := 2) rfl
  have c3 := h1.top.cell (i := 3) rfl
  have c4 := h1.top.cell (i := 4) rfl
  obtain ⟨cs, cd, htop⟩ := h1.seat.top
  have s0 := htop.cell (i := 0) rfl
  have s1 := h1.seat.st.cell (sts_get hq)
  rw [hzq] at s1
  have p1 := h1.prow.cell (ii_get (t := q) (by rw [h1.l1]; exact hq))
  rw [pcl_get, hp] at p1
  have o1 := h1.orow.cell (ii_get (t := q) hqo)
  rw [hov] at o1
  have hDm : ∀ i, fm x sx sb db pc ob i → i ≠ D := fun i hi e => by have := HLM.out i hi; omega
  have hDm1 : ∀ i, fm x sx sb db pc ob i → i ≠ D + 1 := fun i hi e => by have := HLM.out i hi; omega
  have nR : ∀ i, fm x sx sb db pc ob i → ¬ R i := fun i hi h => HDD.out i h hi
  have nx := nR x (by simp [fm])
  have no := nR ob (by simp [fm])
  have np := nR pc (by simp [fm])
  have nsx := nR sx (by simp [fm])
  have nsb := nR sb (by simp [fm])
  have nD : ¬ R D := fun h => by have := HLR.out D h; omega
  have nD1 : ¬ R (D + 1) := fun h => by have := HLR.out _ h; omega
  have HQO := Lib.hid hqo
  clear hz hzq hov nR htop hqo
  have hu1 : IntKind.i64.wrap (1 + ov) = 1 + ov := IntWalk.i64_in _ (by have := HKN.out; omega)
  have hu2 : IntKind.i64.wrap 1 = 1 := IntWalk.i64_in _ (by omega)
  have KA := Ref04.loadR W.drew (g1.drewN 1) HF.out HK64.out HWS.out q (1 + ov)
  rw [hg] at KA
  have HKA := Lib.hid KA
  clear KA hg
  go_wp2_with fail
  go_region_held3 (fun w' => w'.cell? ⟨x, 1, none⟩ = some (.int .i64 0) ∧ w'.cell? ⟨x, 4, none⟩ = some (.slice (some ⟨ob, 0, none⟩) st.seats.length st.seats.length) ∧ w'.cell? ⟨ob, q, none⟩ = some (.int .i64 ov)) ((first | exact ⟨c1, c4, o1⟩ | exact ⟨ec1, ec4, eo1⟩))
    ((go_at_call 102; refine HKA.out.mono ?_; rintro e w5 ⟨rfl, R', hR5, u5, hR5s⟩; have ec1 := cell_upd u5 c1 nx; have ec4 := cell_upd u5 c4 nx; have eo1 := cell_upd u5 o1 no))
  have A5 := (h1.keep ((Upd.refl (fun _ => False) W).drewN 1) (fun _ _ => id)).keep u5 (fun i hi h => HDD.out i h hi)
  have R5 := (R1.drewN 1).upd u5 nD1
  have Q5 := (R0.drewN 1).upd u5 nD
  have up5 : Upd (fun i => fm x sx sb db pc ob i ∨ R i) w w5 := (UP1.out.drewN 1).trans (u5.mono fun i _ h => .inr h)
  have g5 := hR5
  have HRS : Hid (∀ i, R' i → (R i ∨ w.heap.size + 2 ≤ i) ∧ i ≠ D + 1 ∧ i ≠ ob ∧ i ≠ pc ∧ i ≠ D) := Lib.hid fun i hi => by
    rcases hR5s i hi with h | h
    · exact ⟨.inl h, by have := HLR.out i h; omega, fun e => HDD.out i h (by rw [e]; simp [fm]), fun e => HDD.out i h (by rw [e]; simp [fm]), by have := HLR.out i h; omega⟩
    · have := HWD.out; have := HD.out; have := HLM.out ob (by simp [fm]); have := HLM.out pc (by simp [fm]); have h : W.heap.size ≤ i := h; exact ⟨.inr (by omega), by omega, by omega, by omega, by omega⟩
  clear h1 g1 R0 R1 c0 c1 c2 c3 c4 s0 s1 o1 p1 u5 HKA hR5 hR5s ec1 ec4 eo1 hu1 hu2
  go_upto_region 19 with (fail)
  have g0 := A5.top.cell (i := 0) rfl
  have g1' := R5.cell (i := 0) rfl
  obtain ⟨cs', cd', htop5⟩ := A5.seat.top
  have g2 := htop5.cell (i := 0) rfl
  have KE := rend_all _ _ _ _ _ _ _ (A5.seat.drewN 1) q 0
  rw [show fin st.seats (q : Int) 0 = (false, st.seats) from fin00 _ _, show b2i ((false, st.seats) : Bool × List (Int × Int)).1 = 0 from rfl] at KE
  have hxb : ¬ (x = sb ∨ x = db) := fun e => by rcases e with e | e; exact A5.e1.2.1 e; exact A5.e1.2.2.1 e
  have hsb : ¬ (sx = sb ∨ sx = db) := fun e => by rcases e with e | e; exact A5.seat.ne1 e; exact A5.seat.ne2 e
  have hDb : ¬ (D = sb ∨ D = db) := fun e => by rcases e with e | e; exact hDm sb (by simp [fm]) e.symm; exact hDm db (by simp [fm]) e.symm
  have hD1b : ¬ (D + 1 = sb ∨ D + 1 = db) := fun e => by rcases e with e | e; exact hDm1 sb (by simp [fm]) e.symm; exact hDm1 db (by simp [fm]) e.symm
  have hpn : pc ≠ D ∧ pc ≠ D + 1 := ⟨hDm pc (by simp [fm]), hDm1 pc (by simp [fm])⟩
  have HKE := Lib.hid KE
  have HPN := Lib.hid hpn
  have HGB : Hid (∀ i, R' i → ¬ (i = sb ∨ i = db)) := Lib.hid fun i hi e => by
    have hf : fm x sx sb db pc ob i := by rcases e with rfl | rfl <;> simp [fm]
    rcases (HRS.out i hi).1 with h | h
    · exact HDD.out i h hf
    · have := HLM.out i hf; have := HD.out; omega
  have HLEN : Hid ((st.seats).length = st.seats.length) := Lib.hid (by simp)
  clear KE htop5 hpn
  refine wp_region_held_drew (S := fun w' => w'.cell? ⟨x, 0, none⟩ = some (.pointer (some ⟨sx, 0, none⟩)) ∧ w'.cell? ⟨sx, 0, none⟩ = some (.slice (some ⟨sb, 0, none⟩) st.seats.length cs') ∧ w'.cell? ⟨D + 1, 0, none⟩ = some (.int .i64 0)) (by kernel_rfl) ⟨g0, g2, g1'⟩ (fun hHeld => ?_)
  refine wpAnyH_take (i := 0) (v := ?_) rfl (by kernel_rfl) (by kernel_rfl) (by kernel_rfl) (fun _ _ _ h => h) (Or.inl ⟨by rfl, ?_⟩) hHeld ?_
  rotate_left
  · (intro w' hSw; (try dsimp only at hSw); go_simp) <;> with_reducible rfl
  change wpAnyH _ _ _ _ _ _ _ (Act.put _ (some 149) _) _
  try simp only [Act.put, List.setIfInBounds_toArray, List.set_cons_zero, List.set_cons_succ]
  refine wpAnyH_take (i := 1) (v := ?_) rfl (by kernel_rfl) (by kernel_rfl) (by kernel_rfl) (fun _ _ _ h => h) (Or.inl ⟨by rfl, ?_⟩) hHeld ?_
  rotate_left
  · (intro w' hSw; (try dsimp only at hSw); go_simp) <;> with_reducible rfl
  change wpAnyH _ _ _ _ _ _ _ (Act.put _ (some 150) _) _
  try simp only [Act.put, List.setIfInBounds_toArray, List.set_cons_zero, List.set_cons_succ]
  refine wpAnyH_take (i := 2) (v := ?_) rfl (by kernel_rfl) (by kernel_rfl) (by kernel_rfl) (fun _ _ _ h => h) (Or.inl ⟨by rfl, ?_⟩) hHeld ?_
  rotate_left
  · (intro w' hSw; (try dsimp only at hSw); go_simp) <;> with_reducible rfl
  change wpAnyH _ _ _ _ _ _ _ (Act.put _ (some 151) _) _
  try simp only [Act.put, List.setIfInBounds_toArray, List.set_cons_zero, List.set_cons_succ]
  refine wpAnyH_take (i := 3) (v := ?_) rfl (by kernel_rfl) (by kernel_rfl) (by kernel_rfl) (fun _ _ _ h => h) (Or.inl ⟨by rfl, ?_⟩) hHeld ?_
  rotate_left
  · (intro w' hSw; (try dsimp only at hSw); go_simp) <;> with_reducible rfl
  change wpAnyH _ _ _ _ _ _ _ (Act.put _ (some 152) _) _
  try simp only [Act.put, List.setIfInBounds_toArray, List.set_cons_zero, List.set_cons_succ]
  refine wpAnyH_take (i := 4) (v := ?_) rfl (by kernel_rfl) (by kernel_rfl) (by kernel_rfl) (fun _ _ _ h => h) (Or.inl ⟨by rfl, ?_⟩) hHeld ?_
  rotate_left
  · (intro w' hSw; (try dsimp only at hSw); go_simp) <;> with_reducible rfl
  change wpAnyH _ _ _ _ _ _ _ (Act.put _ (some 153) _) _
  try simp only [Act.put, List.setIfInBounds_toArray, List.set_cons_zero, List.set_cons_succ]
  refine wpAnyH_take (i := 5) (v := ?_) rfl (by kernel_rfl) (by kernel_rfl) (by kernel_rfl) (fun _ _ _ h => h) (Or.inl ⟨by rfl, ?_⟩) hHeld ?_
  rotate_left
  · (intro w' hSw; (try dsimp only at hSw); go_simp) <;> with_reducible rfl
  change wpAnyH _ _ _ _ _ _ _ (Act.put _ (some 154) _) _
  try simp only [Act.put, List.setIfInBounds_toArray, List.set_cons_zero, List.set_cons_succ]
  refine wpAnyH_take (i := 6) (v := ?_) rfl (by kernel_rfl) (by kernel_rfl) (by kernel_rfl) (fun _ _ _ h => h) (Or.inl ⟨by rfl, ?_⟩) hHeld ?_
  rotate_left
  · (intro w' hSw; (try dsimp only at hSw); go_simp) <;> with_reducible rfl
  change wpAnyH _ _ _ _ _ _ _ (Act.put _ (some 155) _) _
  try simp only [Act.put, List.setIfInBounds_toArray, List.set_cons_zero, List.set_cons_succ]
  refine wpAnyH_ready (rs := [7]) (by kernel_rfl) (by simp) ?_
  refine AllReadyH.cons rfl (fun K hK => ?_) AllReadyH.nil
  go_simp
  refine HKE.out.mono ?_
  rintro e w8 ⟨rfl, hs8, u8⟩
  have e0 := cell_upd u8 g0 hxb
  have e2 := cell_upd u8 g2 hsb
  have e1 := cell_upd u8 g1' hD1b
  simp only []
  refine hK.out _ _ ⟨e0, e2, e1⟩ (fun hHeld => ?_)
  clear hK K
  try simp only [Act.put, List.setIfInBounds_toArray, List.set_cons_zero, List.set_cons_succ]
  refine wpAnyH_take (i := 8) (v := ?_) rfl (by kernel_rfl) (by kernel_rfl) (by kernel_rfl) (fun _ _ _ h => h) (Or.inl ⟨by rfl, ?_⟩) hHeld ?_
  rotate_left
  · (intro w' hSw; (try dsimp only at hSw); go_simp) <;> with_reducible rfl
  change wpAnyH _ _ _ _ _ _ _ (Act.put _ (some 157) _) _
  try simp only [Act.put, List.setIfInBounds_toArray, List.set_cons_zero, List.set_cons_succ]
  refine wpAnyH_take (i := 9) (v := ?_) rfl (by kernel_rfl) (by kernel_rfl) (by kernel_rfl) (fun _ _ _ h => h) (Or.inl ⟨by rfl, ?_⟩) hHeld ?_
  rotate_left
  · (intro w' hSw; (try dsimp only at hSw); go_simp) <;> with_reducible rfl
  change wpAnyH _ _ _ _ _ _ _ (Act.put _ (some 158) _) _
  try simp only [Act.put, List.setIfInBounds_toArray, List.set_cons_zero, List.set_cons_succ]
  refine wpAnyH_take (i := 10) (v := undef) rfl (by kernel_rfl) (by kernel_rfl) (by kernel_rfl) (fun _ _ _ h => h) (Or.inr ⟨by kernel_rfl, rfl⟩) hHeld ?_
  change wpAnyH _ _ _ _ _ _ _ (Act.put _ (some 159) _) _
  try simp only [Act.put, List.setIfInBounds_toArray, List.set_cons_zero, List.set_cons_succ]
  refine wpAnyH_take (i := 11) (v := undef) rfl (by kernel_rfl) (by kernel_rfl) (by kernel_rfl) (fun _ _ _ h => h) (Or.inr ⟨by kernel_rfl, rfl⟩) hHeld ?_
  change wpAnyH _ _ _ _ _ _ _ (Act.put _ (some 160) _) _
  try simp only [Act.put, List.setIfInBounds_toArray, List.set_cons_zero, List.set_cons_succ]
  refine wpAnyH_take (i := 12) (v := undef) rfl (by kernel_rfl) (by kernel_rfl) (by kernel_rfl) (fun _ _ _ h => h) (Or.inr ⟨by kernel_rfl, rfl⟩) hHeld ?_
  change wpAnyH _ _ _ _ _ _ _ (Act.put _ (some 161) _) _
  try simp only [Act.put, List.setIfInBounds_toArray, List.set_cons_zero, List.set_cons_succ]
  refine wpAnyH_take (i := 13) (v := undef) rfl (by kernel_rfl) (by kernel_rfl) (by kernel_rfl) (fun _ _ _ h => h) (Or.inr ⟨by kernel_rfl, rfl⟩) hHeld ?_
  change wpAnyH _ _ _ _ _ _ _ (Act.put _ (some 162) _) _
  try simp only [Act.put, List.setIfInBounds_toArray, List.set_cons_zero, List.set_cons_succ]
  refine wpAnyH_take (i := 14) (v := undef) rfl (by kernel_rfl) (by kernel_rfl) (by kernel_rfl) (fun _ _ _ h => h) (Or.inr ⟨by kernel_rfl, rfl⟩) hHeld ?_
  change wpAnyH _ _ _ _ _ _ _ (Act.put _ (some 163) _) _
  try simp only [Act.put, List.setIfInBounds_toArray, List.set_cons_zero, List.set_cons_succ]
  refine wpAnyH_take (i := 15) (v := undef) rfl (by kernel_rfl) (by kernel_rfl) (by kernel_rfl) (fun _ _ _ h => h) (Or.inr ⟨by kernel_rfl, rfl⟩) hHeld ?_
  change wpAnyH _ _ _ _ _ _ _ (Act.put _ (some 164) _) _
  try simp only [Act.put, List.setIfInBounds_toArray, List.set_cons_zero, List.set_cons_succ]
  refine wpAnyH_take (i := 16) (v := undef) rfl (by kernel_rfl) (by kernel_rfl) (by kernel_rfl) (fun _ _ _ h => h) (Or.inr ⟨by kernel_rfl, rfl⟩) hHeld ?_
  change wpAnyH _ _ _ _ _ _ _ (Act.put _ (some 165) _) _
  try simp only [Act.put, List.setIfInBounds_toArray, List.set_cons_zero, List.set_cons_succ]
  refine wpAnyH_take (i := 17) (v := undef) rfl (by kernel_rfl) (by kernel_rfl) (by kernel_rfl) (fun _ _ _ h => h) (Or.inr ⟨by kernel_rfl, rfl⟩) hHeld ?_
  change wpAnyH _ _ _ _ _ _ _ (Act.put _ (some 166) _) _
  try simp only [Act.put, List.setIfInBounds_toArray, List.set_cons_zero, List.set_cons_succ]
  refine wpAnyH_take (i := 18) (v := undef) rfl (by kernel_rfl) (by kernel_rfl) (by kernel_rfl) (fun _ _ _ h => h) (Or.inr ⟨by kernel_rfl, rfl⟩) hHeld ?_
  change wpAnyH _ _ _ _ _ _ _ (Act.put _ (some 167) _) _
  try simp only [Act.put, List.setIfInBounds_toArray, List.set_cons_zero, List.set_cons_succ]
  refine wpAnyH_take (i := 19) (v := undef) rfl (by kernel_rfl) (by kernel_rfl) (by kernel_rfl) (fun _ _ _ h => h) (Or.inr ⟨by kernel_rfl, rfl⟩) hHeld ?_
  change wpAnyH _ _ _ _ _ _ _ (Act.put _ (some 168) _) _
  try simp only [Act.put, List.setIfInBounds_toArray, List.set_cons_zero, List.set_cons_succ]
  refine wpAnyH_take (i := 20) (v := undef) rfl (by kernel_rfl) (by kernel_rfl) (by kernel_rfl) (fun _ _ _ h => h) (Or.inr ⟨by kernel_rfl, rfl⟩) hHeld ?_
  change wpAnyH _ _ _ _ _ _ _ (Act.put _ (some 169) _) _
  try simp only [Act.put, List.setIfInBounds_toArray, List.set_cons_zero, List.set_cons_succ]
  refine wpAnyH_take (i := 21) (v := ?_) rfl (by kernel_rfl) (by kernel_rfl) (by kernel_rfl) (fun _ _ _ h => h) (Or.inl ⟨by rfl, ?_⟩) hHeld ?_
  rotate_left
  · (intro w' hSw; (try dsimp only at hSw); go_simp) <;> with_reducible rfl
  change wpAnyH _ _ _ _ _ _ _ (Act.put _ (some 170) _) _
  try simp only [Act.put, List.setIfInBounds_toArray, List.set_cons_zero, List.set_cons_succ]
  refine wpAnyH_done (by kernel_rfl) ?_ _
  have A8 := (A5.keep ((Upd.refl (fun _ => False) _).drewN 1) (fun _ _ => id)).seats HLEN.out hs8 u8
  have R8 := (R5.drewN 1).upd u8 hD1b
  have Q8 := (Q5.drewN 1).upd u8 hDb
  have g8 := (g5.drewN 1).keep u8 (fun i hi => HGB.out i hi)
  have up8 : Upd (fun i => fm x sx sb db pc ob i ∨ R i) w w8 := (up5.drewN 1).trans (u8.mono fun i _ e => by rcases e with rfl | rfl <;> simp [fm])
  clear e0 e1 e2 g0 g1' g2 A5 R5 Q5 g5 up5 u8 hs8
  have y0 := R8.cell (i := 0) rfl
  have y1 := R8.cell (i := 1) rfl
  have y2 := R8.cell (i := 2) rfl
  have y3 := R8.cell (i := 3) rfl
  have z0 := Q8.cell (i := 0) rfl
  have z1 := Q8.cell (i := 1) rfl
  have z2 := Q8.cell (i := 2) rfl
  have z3 := Q8.cell (i := 3) rfl
  have k0 := Q8.frozen 0
  have k1 := Q8.frozen 1
  have k2 := Q8.frozen 2
  have k3 := Q8.frozen 3
  go_wp2_with fail
  have RE := did4 Q8 (.int .i64 0) (.int .i64 0) (.int .i64 0) (.int .i64 0)
  have UE := upd4 w8 D (.int .i64 0) (.int .i64 0) (.int .i64 0) (.int .i64 0)
  obtain ⟨wz, hwz⟩ : ∃ wz, (((w8.setCell ⟨D, 0, none⟩ (.int .i64 0)).setCell ⟨D, 1, none⟩ (.int .i64 0)).setCell ⟨D, 2, none⟩ (.int .i64 0)).setCell ⟨D, 3, none⟩ (.int .i64 0) = wz := ⟨_, rfl⟩
  rw [hwz] at RE UE ⊢
  have g0 := RE.cell (i := 0) rfl
  have g1 := RE.cell (i := 1) rfl
  have g2 := RE.cell (i := 2) rfl
  have g3 := RE.cell (i := 3) rfl
  refine bodyPost_ret (v := didm (0, false, false, false)) (by simp [results, Try.results99, go_sem, didm, b2i, g0, g1, g2, g3]) rfl ?_
  rw [TL.out.step]
  dsimp only
  refine ⟨rfl, ⟨_, by rw [TL.out.seats, TL.out.pl]; exact A8.keep UE (fun i hi e => hDm i hi e), TL.out.rel⟩, R', by rw [TL.out.ws, TL.out.ts]; exact g8.keep UE (fun i hi e => (HRS.out i hi).2.2.2.2 e), up8.then UE (fun i hi e => by have := HD.out; omega), fun i hi => ?_⟩
  rcases (HRS.out i hi).1 with h | h
  · exact .inl h
  · exact .inr (by omega)
set_option maxHeartbeats 16000000 in
set_option maxRecDepth 40000 in
theorem stepA1n {w : World} {st : St} {ol : List Int} {y n : Nat} {R : Nat → Prop} (h : MAt x sx sb db pc ob kn w st.seats (pcl st) ol) (hrel : Rel kn st ol) (hpl : st.pls.length = st.seats.length) (hn : st.seats.length = n) (n8 : n ≤ 8) (hkn : IsSize kn) (hR : Ref04.RO w y R n st.ws st.ts) (hd : ∀ i, R i → ¬ fm x sx sb db pc ob i) (hf : st.ts.length < 1000000) (hws : st.ws.length ≤ 100000) (q : Nat) (hq : q < st.seats.length) (now : Int) (hz : state st.seats (q : Int) = 1) (hp : (st.pls.getD q (0, 0)).2 = 1) (hg : ¬ rd n st.ws q (1 + ol.getD q 0) = 0) :
    Calls Try.prog 99 #[.pointer (some ⟨x, 0, none⟩), .pointer (some ⟨y, 0, none⟩), .int .i64 q, .int .i64 q, .int .i64 now] w fun e w' =>
      e = .returned (didm (Slots.step n 0 kn st (q : Int) (q : Int) now).1) ∧ (∃ ol', MAt x sx sb db pc ob kn w' (Slots.step n 0 kn st (q : Int) (q : Int) now).2.seats (pcl (Slots.step n 0 kn st (q : Int) (q : Int) now).2) ol' ∧ Rel kn (Slots.step n 0 kn st (q : Int) (q : Int) now).2 ol') ∧
      ∃ R', Ref04.RO w' y R' n (Slots.step n 0 kn st (q : Int) (q : Int) now).2.ws (Slots.step n 0 kn st (q : Int) (q : Int) now).2.ts ∧ Upd (fun i => fm x sx sb db pc ob i ∨ R i) w w' ∧ ∀ i, R' i → R i ∨ w.heap.size ≤ i := by
  have c0 := h.top.cell (i := 0) rfl
  have c3 := h.top.cell (i := 3) rfl
  have hxl := h.top.lt
  have D1 : Upd (fun _ => False) w ((w.alloc (.cells #[.int .i64 0, .int .i64 0, .int .i64 0, .int .i64 0] 139)).alloc (.cells #[.int .i64 0, .int .i64 0, .int .i64 0, .int .i64 0] 139)) := ((Upd.refl _ w).alloc _).alloc _
  have h1 := h.keep D1 (fun _ _ => id)
  have g1 := hR.keep D1 (fun _ _ => id)
  have R0 : Row ((w.alloc (.cells #[.int .i64 0, .int .i64 0, .int .i64 0, .int .i64 0] 139)).alloc (.cells #[.int .i64 0, .int .i64 0, .int .i64 0, .int .i64 0] 139)) w.heap.size [.int .i64 0, .int .i64 0, .int .i64 0, .int .i64 0] := (Row.new' rfl).alloc _
  have R1 : Row ((w.alloc (.cells #[.int .i64 0, .int .i64 0, .int .i64 0, .int .i64 0] 139)).alloc (.cells #[.int .i64 0, .int .i64 0, .int .i64 0, .int .i64 0] 139)) (w.heap.size + 1) [.int .i64 0, .int .i64 0, .int .i64 0, .int .i64 0] := Row.new' (by simp)
  have up1 : Upd (fun i => fm x sx sb db pc ob i ∨ R i) w ((w.alloc (.cells #[.int .i64 0, .int .i64 0, .int .i64 0, .int .i64 0] 139)).alloc (.cells #[.int .i64 0, .int .i64 0, .int .i64 0, .int .i64 0] 139)) := D1.mono fun _ _ z => z.elim
  have hlm := h.lt
  have hlr := hR.lt
  have b1 : decide ((q : Int) < 0) = false := by rw [decide_eq_false_iff_not]; omega
  have b2 : decide ((st.seats.length : Int) ≤ (q : Int)) = false := by rw [decide_eq_false_iff_not]; omega
  have b3 : decide (st.seats.length ≤ q) = false := by rw [decide_eq_false_iff_not]; omega
  have hqn : q < n := by omega
  have HF := Lib.hid hf
  have HN := Lib.hid hn
  have HK64 := Lib.hid (show n ≤ 64 by omega)
  have HWS := Lib.hid hws
  have HKN := Lib.hid (size_pos hkn)
  obtain ⟨D, hD⟩ : ∃ D, w.heap.size = D := ⟨_, rfl⟩
  have HD := Lib.hid hD
  obtain ⟨W, hW⟩ : ∃ W, (w.alloc (.cells #[.int .i64 0, .int .i64 0, .int .i64 0, .int .i64 0] 139)).alloc (.cells #[.int .i64 0, .int .i64 0, .int .i64 0, .int .i64 0] 139) = W := ⟨_, rfl⟩
  rw [hD] at R0 R1 hlm hlr
  rw [hW] at h1 g1 R0 R1 up1
  have HW := Lib.hid hW
  have HLM := Lib.hid hlm
  have HLR := Lib.hid hlr
  have HDD := Lib.hid hd
  have hWD : D + 2 = W.heap.size := by rw [← hW, ← hD]; simp
  have HWD := Lib.hid hWD
  have UP1 := Lib.hid up1
  have HQ := Lib.hid hq
  have hqo : q < ol.length := by rw [h.l2]; exact hq
  have hqp : q < st.pls.length := by rw [hpl]; exact hq
  obtain ⟨st2, tl⟩ := toldA1n (n := n) (now := now) hrel hqp hz hp hg
  have TL := Lib.hid tl
  have hzq : (st.seats.getD q (0, -1)).1 = 1 := by
    have e := hz
    unfold state at e
    rw [inB_mk hq, if_pos rfl, Int.toNat_natCast] at e; exact e
  have owd := h.wd q
  obtain ⟨ov, hov⟩ : ∃ ov, ol.getD q 0 = ov := ⟨_, rfl⟩
  rw [hov] at owd TL hg
  clear tl hf hn hws n8 hW hD hlm hlr hd hrel hpl hkn hqn D1 up1 hWD h hR hqp
  go_enter Try.func99, Try.ntmps99
  go_upto_region 4 with (fail)
  rw [HW.out, HD.out]
  clear c0 c3 hxl b1 b2 b3
  have hq1 : (0 : Int) ≤ (q : Int) := by omega
  have hq2 : (q : Int) < (st.seats.length : Int) := by omega
  have c0 := h1.top.cell (i := 0) rfl
  have c1 := h1.top.cell (i := 1) rfl
  have c2 := h1.top.cell (i := 2) rfl
  have c3 := h1.top.cell (i := 3) rfl
  have c4 := h1.top.cell (i := 4) rfl
  obtain ⟨cs, cd, htop⟩ := h1.seat.top
  have s0 := htop.cell (i := 0) rfl
  have s1 := h1.seat.st.cell (sts_get hq)
  rw [hzq] at s1
  have p1 := h1.prow.cell (ii_get (t := q) (by rw [h1.l1]; exact hq))
  rw [pcl_get, hp] at p1
  have o1 := h1.orow.cell (ii_get (t := q) hqo)
  rw [hov] at o1
  have hDm : ∀ i, fm x sx sb db pc ob i → i ≠ D := fun i hi e => by have := HLM.out i hi; omega
  have hDm1 : ∀ i, fm x sx sb db pc ob i → i ≠ D + 1 := fun i hi e => by have := HLM.out i hi; omega
  have nR : ∀ i, fm x sx sb db pc ob i → ¬ R i := fun i hi h => HDD.out i h hi
  have nx := nR x (by simp [fm])
  have no := nR ob (by simp [fm])
  have np := nR pc (by simp [fm])
  have nsx := nR sx (by simp [fm])
  have nsb := nR sb (by simp [fm])
  have nD : ¬ R D := fun h => by have := HLR.out D h; omega
  have nD1 : ¬ R (D + 1) := fun h => by have := HLR.out _ h; omega
  have HQO := Lib.hid hqo
  clear hz hzq hov nR htop hqo
  have hu1 : IntKind.i64.wrap (1 + ov) = 1 + ov := IntWalk.i64_in _ (by have := HKN.out; omega)
  have hu2 : IntKind.i64.wrap 1 = 1 := IntWalk.i64_in _ (by omega)
  obtain ⟨g, hgg⟩ : ∃ g, rd n st.ws q (1 + ov) = g := ⟨_, rfl⟩
  have KA := Ref04.loadR W.drew (g1.drewN 1) HF.out HK64.out HWS.out q (1 + ov)
  rw [hgg] at KA hg
  have hgn : (g != 0) = true := by simpa using hg
  have HKA := Lib.hid KA
  clear KA hg hgg
  go_wp2_with fail
  go_region_held3 (fun w' => w'.cell? ⟨x, 1, none⟩ = some (.int .i64 0) ∧ w'.cell? ⟨x, 4, none⟩ = some (.slice (some ⟨ob, 0, none⟩) st.seats.length st.seats.length) ∧ w'.cell? ⟨ob, q, none⟩ = some (.int .i64 ov)) ((first | exact ⟨c1, c4, o1⟩ | exact ⟨ec1, ec4, eo1⟩))
    ((go_at_call 102; refine HKA.out.mono ?_; rintro e w5 ⟨rfl, R', hR5, u5, hR5s⟩; have ec1 := cell_upd u5 c1 nx; have ec4 := cell_upd u5 c4 nx; have eo1 := cell_upd u5 o1 no))
  have A5 := (h1.keep ((Upd.refl (fun _ => False) W).drewN 1) (fun _ _ => id)).keep u5 (fun i hi h => HDD.out i h hi)
  have R5 := (R1.drewN 1).upd u5 nD1
  have Q5 := (R0.drewN 1).upd u5 nD
  have up5 : Upd (fun i => fm x sx sb db pc ob i ∨ R i) w w5 := (UP1.out.drewN 1).trans (u5.mono fun i _ h => .inr h)
  have g5 := hR5
  have HRS : Hid (∀ i, R' i → (R i ∨ w.heap.size + 2 ≤ i) ∧ i ≠ D + 1 ∧ i ≠ ob ∧ i ≠ pc ∧ i ≠ D) := Lib.hid fun i hi => by
    rcases hR5s i hi with h | h
    · exact ⟨.inl h, by have := HLR.out i h; omega, fun e => HDD.out i h (by rw [e]; simp [fm]), fun e => HDD.out i h (by rw [e]; simp [fm]), by have := HLR.out i h; omega⟩
    · have := HWD.out; have := HD.out; have := HLM.out ob (by simp [fm]); have := HLM.out pc (by simp [fm]); have h : W.heap.size ≤ i := h; exact ⟨.inr (by omega), by omega, by omega, by omega, by omega⟩
  clear h1 g1 R0 R1 c0 c1 c2 c3 c4 s0 s1 o1 p1 u5 HKA hR5 hR5s ec1 ec4 eo1 hu1 hu2
  have t2 := A5.top.cell (i := 3) rfl
  have t3 := A5.prow.cell (ii_get (t := q) (by rw [A5.l1]; exact HQ.out))
  have t4 := A5.prow.frozen q
  have U7 := Upd.one w5 pc q (.int .i64 2)
  have A7 := A5.setPc q 2
  have R7 := R5.upd U7 (fun e => hDm1 pc (by simp [fm]) e.symm)
  have Q7 := Q5.upd U7 (fun e => hDm pc (by simp [fm]) e.symm)
  have g7 := g5.keep U7 (fun i hi e => (HRS.out i hi).2.2.2.1 e)
  have up7 := up5.trans (U7.mono fun i _ e => (by rw [e]; simp [fm] : fm x sx sb db pc ob i ∨ R i))
  go_upto_region 19 with (fail)
  obtain ⟨w7, hw7⟩ : ∃ w', w5.setCell ⟨pc, q, none⟩ (.int .i64 2) = w' := ⟨_, rfl⟩
  rw [hw7] at A7 R7 Q7 g7 up7 ⊢
  clear t2 t3 t4 hgn hw7 A5 R5 Q5 g5 up5 U7
  have g0 := A7.top.cell (i := 0) rfl
  have g1' := R7.cell (i := 0) rfl
  obtain ⟨cs', cd', htop5⟩ := A7.seat.top
  have g2 := htop5.cell (i := 0) rfl
  have KE := rend_all _ _ _ _ _ _ _ (A7.seat.drewN 1) q 0
  rw [show fin st.seats (q : Int) 0 = (false, st.seats) from fin00 _ _, show b2i ((false, st.seats) : Bool × List (Int × Int)).1 = 0 from rfl] at KE
  have hxb : ¬ (x = sb ∨ x = db) := fun e => by rcases e with e | e; exact A7.e1.2.1 e; exact A7.e1.2.2.1 e
  have hsb : ¬ (sx = sb ∨ sx = db) := fun e => by rcases e with e | e; exact A7.seat.ne1 e; exact A7.seat.ne2 e
  have hDb : ¬ (D = sb ∨ D = db) := fun e => by rcases e with e | e; exact hDm sb (by simp [fm]) e.symm; exact hDm db (by simp [fm]) e.symm
  have hD1b : ¬ (D + 1 = sb ∨ D + 1 = db) := fun e => by rcases e with e | e; exact hDm1 sb (by simp [fm]) e.symm; exact hDm1 db (by simp [fm]) e.symm
  have hpn : pc ≠ D ∧ pc ≠ D + 1 := ⟨hDm pc (by simp [fm]), hDm1 pc (by simp [fm])⟩
  have HKE := Lib.hid KE
  have HPN := Lib.hid hpn
  have HGB : Hid (∀ i, R' i → ¬ (i = sb ∨ i = db)) := Lib.hid fun i hi e => by
    have hf : fm x sx sb db pc ob i := by rcases e with rfl | rfl <;> simp [fm]
    rcases (HRS.out i hi).1 with h | h
    · exact HDD.out i h hf
    · have := HLM.out i hf; have := HD.out; omega
  have HLEN : Hid ((st.seats).length = st.seats.length) := Lib.hid (by simp)
  clear KE htop5 hpn
  refine wp_region_held_drew (S := fun w' => w'.cell? ⟨x, 0, none⟩ = some (.pointer (some ⟨sx, 0, none⟩)) ∧ w'.cell? ⟨sx, 0, none⟩ = some (.slice (some ⟨sb, 0, none⟩) st.seats.length cs') ∧ w'.cell? ⟨D + 1, 0, none⟩ = some (.int .i64 0)) (by kernel_rfl) ⟨g0, g2, g1'⟩ (fun hHeld => ?_)
  refine wpAnyH_take (i := 0) (v := ?_) rfl (by kernel_rfl) (by kernel_rfl) (by kernel_rfl) (fun _ _ _ h => h) (Or.inl ⟨by rfl, ?_⟩) hHeld ?_
  rotate_left
  · (intro w' hSw; (try dsimp only at hSw); go_simp) <;> with_reducible rfl
  change wpAnyH _ _ _ _ _ _ _ (Act.put _ (some 149) _) _
  try simp only [Act.put, List.setIfInBounds_toArray, List.set_cons_zero, List.set_cons_succ]
  refine wpAnyH_take (i := 1) (v := ?_) rfl (by kernel_rfl) (by kernel_rfl) (by kernel_rfl) (fun _ _ _ h => h) (Or.inl ⟨by rfl, ?_⟩) hHeld ?_
  rotate_left
  · (intro w' hSw; (try dsimp only at hSw); go_simp) <;> with_reducible rfl
  change wpAnyH _ _ _ _ _ _ _ (Act.put _ (some 150) _) _
  try simp only [Act.put, List.setIfInBounds_toArray, List.set_cons_zero, List.set_cons_succ]
  refine wpAnyH_take (i := 2) (v := ?_) rfl (by kernel_rfl) (by kernel_rfl) (by kernel_rfl) (fun _ _ _ h => h) (Or.inl ⟨by rfl, ?_⟩) hHeld ?_
  rotate_left
  · (intro w' hSw; (try dsimp only at hSw); go_simp) <;> with_reducible rfl
  change wpAnyH _ _ _ _ _ _ _ (Act.put _ (some 151) _) _
  try simp only [Act.put, List.setIfInBounds_toArray, List.set_cons_zero, List.set_cons_succ]
  refine wpAnyH_take (i := 3) (v := ?_) rfl (by kernel_rfl) (by kernel_rfl) (by kernel_rfl) (fun _ _ _ h => h) (Or.inl ⟨by rfl, ?_⟩) hHeld ?_
  rotate_left
  · (intro w' hSw; (try dsimp only at hSw); go_simp) <;> with_reducible rfl
  change wpAnyH _ _ _ _ _ _ _ (Act.put _ (some 152) _) _
  try simp only [Act.put, List.setIfInBounds_toArray, List.set_cons_zero, List.set_cons_succ]
  refine wpAnyH_take (i := 4) (v := ?_) rfl (by kernel_rfl) (by kernel_rfl) (by kernel_rfl) (fun _ _ _ h => h) (Or.inl ⟨by rfl, ?_⟩) hHeld ?_
  rotate_left
  · (intro w' hSw; (try dsimp only at hSw); go_simp) <;> with_reducible rfl
  change wpAnyH _ _ _ _ _ _ _ (Act.put _ (some 153) _) _
  try simp only [Act.put, List.setIfInBounds_toArray, List.set_cons_zero, List.set_cons_succ]
  refine wpAnyH_take (i := 5) (v := ?_) rfl (by kernel_rfl) (by kernel_rfl) (by kernel_rfl) (fun _ _ _ h => h) (Or.inl ⟨by rfl, ?_⟩) hHeld ?_
  rotate_left
  · (intro w' hSw; (try dsimp only at hSw); go_simp) <;> with_reducible rfl
  change wpAnyH _ _ _ _ _ _ _ (Act.put _ (some 154) _) _
  try simp only [Act.put, List.setIfInBounds_toArray, List.set_cons_zero, List.set_cons_succ]
  refine wpAnyH_take (i := 6) (v := ?_) rfl (by kernel_rfl) (by kernel_rfl) (by kernel_rfl) (fun _ _ _ h => h) (Or.inl ⟨by rfl, ?_⟩) hHeld ?_
  rotate_left
  · (intro w' hSw; (try dsimp only at hSw); go_simp) <;> with_reducible rfl
  change wpAnyH _ _ _ _ _ _ _ (Act.put _ (some 155) _) _
  try simp only [Act.put, List.setIfInBounds_toArray, List.set_cons_zero, List.set_cons_succ]
  refine wpAnyH_ready (rs := [7]) (by kernel_rfl) (by simp) ?_
  refine AllReadyH.cons rfl (fun K hK => ?_) AllReadyH.nil
  go_simp
  refine HKE.out.mono ?_
  rintro e w8 ⟨rfl, hs8, u8⟩
  have e0 := cell_upd u8 g0 hxb
  have e2 := cell_upd u8 g2 hsb
  have e1 := cell_upd u8 g1' hD1b
  simp only []
  refine hK.out _ _ ⟨e0, e2, e1⟩ (fun hHeld => ?_)
  clear hK K
  try simp only [Act.put, List.setIfInBounds_toArray, List.set_cons_zero, List.set_cons_succ]
  refine wpAnyH_take (i := 8) (v := ?_) rfl (by kernel_rfl) (by kernel_rfl) (by kernel_rfl) (fun _ _ _ h => h) (Or.inl ⟨by rfl, ?_⟩) hHeld ?_
  rotate_left
  · (intro w' hSw; (try dsimp only at hSw); go_simp) <;> with_reducible rfl
  change wpAnyH _ _ _ _ _ _ _ (Act.put _ (some 157) _) _
  try simp only [Act.put, List.setIfInBounds_toArray, List.set_cons_zero, List.set_cons_succ]
  refine wpAnyH_take (i := 9) (v := ?_) rfl (by kernel_rfl) (by kernel_rfl) (by kernel_rfl) (fun _ _ _ h => h) (Or.inl ⟨by rfl, ?_⟩) hHeld ?_
  rotate_left
  · (intro w' hSw; (try dsimp only at hSw); go_simp) <;> with_reducible rfl
  change wpAnyH _ _ _ _ _ _ _ (Act.put _ (some 158) _) _
  try simp only [Act.put, List.setIfInBounds_toArray, List.set_cons_zero, List.set_cons_succ]
  refine wpAnyH_take (i := 10) (v := undef) rfl (by kernel_rfl) (by kernel_rfl) (by kernel_rfl) (fun _ _ _ h => h) (Or.inr ⟨by kernel_rfl, rfl⟩) hHeld ?_
  change wpAnyH _ _ _ _ _ _ _ (Act.put _ (some 159) _) _
  try simp only [Act.put, List.setIfInBounds_toArray, List.set_cons_zero, List.set_cons_succ]
  refine wpAnyH_take (i := 11) (v := undef) rfl (by kernel_rfl) (by kernel_rfl) (by kernel_rfl) (fun _ _ _ h => h) (Or.inr ⟨by kernel_rfl, rfl⟩) hHeld ?_
  change wpAnyH _ _ _ _ _ _ _ (Act.put _ (some 160) _) _
  try simp only [Act.put, List.setIfInBounds_toArray, List.set_cons_zero, List.set_cons_succ]
  refine wpAnyH_take (i := 12) (v := undef) rfl (by kernel_rfl) (by kernel_rfl) (by kernel_rfl) (fun _ _ _ h => h) (Or.inr ⟨by kernel_rfl, rfl⟩) hHeld ?_
  change wpAnyH _ _ _ _ _ _ _ (Act.put _ (some 161) _) _
  try simp only [Act.put, List.setIfInBounds_toArray, List.set_cons_zero, List.set_cons_succ]
  refine wpAnyH_take (i := 13) (v := undef) rfl (by kernel_rfl) (by kernel_rfl) (by kernel_rfl) (fun _ _ _ h => h) (Or.inr ⟨by kernel_rfl, rfl⟩) hHeld ?_
  change wpAnyH _ _ _ _ _ _ _ (Act.put _ (some 162) _) _
  try simp only [Act.put, List.setIfInBounds_toArray, List.set_cons_zero, List.set_cons_succ]
  refine wpAnyH_take (i := 14) (v := undef) rfl (by kernel_rfl) (by kernel_rfl) (by kernel_rfl) (fun _ _ _ h => h) (Or.inr ⟨by kernel_rfl, rfl⟩) hHeld ?_
  change wpAnyH _ _ _ _ _ _ _ (Act.put _ (some 163) _) _
  try simp only [Act.put, List.setIfInBounds_toArray, List.set_cons_zero, List.set_cons_succ]
  refine wpAnyH_take (i := 15) (v := undef) rfl (by kernel_rfl) (by kernel_rfl) (by kernel_rfl) (fun _ _ _ h => h) (Or.inr ⟨by kernel_rfl, rfl⟩) hHeld ?_
  change wpAnyH _ _ _ _ _ _ _ (Act.put _ (some 164) _) _
  try simp only [Act.put, List.setIfInBounds_toArray, List.set_cons_zero, List.set_cons_succ]
  refine wpAnyH_take (i := 16) (v := undef) rfl (by kernel_rfl) (by kernel_rfl) (by kernel_rfl) (fun _ _ _ h => h) (Or.inr ⟨by kernel_rfl, rfl⟩) hHeld ?_
  change wpAnyH _ _ _ _ _ _ _ (Act.put _ (some 165) _) _
  try simp only [Act.put, List.setIfInBounds_toArray, List.set_cons_zero, List.set_cons_succ]
  refine wpAnyH_take (i := 17) (v := undef) rfl (by kernel_rfl) (by kernel_rfl) (by kernel_rfl) (fun _ _ _ h => h) (Or.inr ⟨by kernel_rfl, rfl⟩) hHeld ?_
  change wpAnyH _ _ _ _ _ _ _ (Act.put _ (some 166) _) _
  try simp only [Act.put, List.setIfInBounds_toArray, List.set_cons_zero, List.set_cons_succ]
  refine wpAnyH_take (i := 18) (v := undef) rfl (by kernel_rfl) (by kernel_rfl) (by kernel_rfl) (fun _ _ _ h => h) (Or.inr ⟨by kernel_rfl, rfl⟩) hHeld ?_
  change wpAnyH _ _ _ _ _ _ _ (Act.put _ (some 167) _) _
  try simp only [Act.put, List.setIfInBounds_toArray, List.set_cons_zero, List.set_cons_succ]
  refine wpAnyH_take (i := 19) (v := undef) rfl (by kernel_rfl) (by kernel_rfl) (by kernel_rfl) (fun _ _ _ h => h) (Or.inr ⟨by kernel_rfl, rfl⟩) hHeld ?_
  change wpAnyH _ _ _ _ _ _ _ (Act.put _ (some 168) _) _
  try simp only [Act.put, List.setIfInBounds_toArray, List.set_cons_zero, List.set_cons_succ]
  refine wpAnyH_take (i := 20) (v := undef) rfl (by kernel_rfl) (by kernel_rfl) (by kernel_rfl) (fun _ _ _ h => h) (Or.inr ⟨by kernel_rfl, rfl⟩) hHeld ?_
  change wpAnyH _ _ _ _ _ _ _ (Act.put _ (some 169) _) _
  try simp only [Act.put, List.setIfInBounds_toArray, List.set_cons_zero, List.set_cons_succ]
  refine wpAnyH_take (i := 21) (v := ?_) rfl (by kernel_rfl) (by kernel_rfl) (by kernel_rfl) (fun _ _ _ h => h) (Or.inl ⟨by rfl, ?_⟩) hHeld ?_
  rotate_left
  · (intro w' hSw; (try dsimp only at hSw); go_simp) <;> with_reducible rfl
  change wpAnyH _ _ _ _ _ _ _ (Act.put _ (some 170) _) _
  try simp only [Act.put, List.setIfInBounds_toArray, List.set_cons_zero, List.set_cons_succ]
  refine wpAnyH_done (by kernel_rfl) ?_ _
  have A8 := (A7.keep ((Upd.refl (fun _ => False) _).drewN 1) (fun _ _ => id)).seats HLEN.out hs8 u8
  have R8 := (R7.drewN 1).upd u8 hD1b
  have Q8 := (Q7.drewN 1).upd u8 hDb
  have g8 := (g7.drewN 1).keep u8 (fun i hi => HGB.out i hi)
  have up8 : Upd (fun i => fm x sx sb db pc ob i ∨ R i) w w8 := (up7.drewN 1).trans (u8.mono fun i _ e => by rcases e with rfl | rfl <;> simp [fm])
  clear e0 e1 e2 g0 g1' g2 A7 R7 Q7 g7 up7 u8 hs8
  have y0 := R8.cell (i := 0) rfl
  have y1 := R8.cell (i := 1) rfl
  have y2 := R8.cell (i := 2) rfl
  have y3 := R8.cell (i := 3) rfl
  have z0 := Q8.cell (i := 0) rfl
  have z1 := Q8.cell (i := 1) rfl
  have z2 := Q8.cell (i := 2) rfl
  have z3 := Q8.cell (i := 3) rfl
  have k0 := Q8.frozen 0
  have k1 := Q8.frozen 1
  have k2 := Q8.frozen 2
  have k3 := Q8.frozen 3
  go_wp2_with fail
  have RE := did4 Q8 (.int .i64 0) (.int .i64 0) (.int .i64 0) (.int .i64 0)
  have UE := upd4 w8 D (.int .i64 0) (.int .i64 0) (.int .i64 0) (.int .i64 0)
  obtain ⟨wz, hwz⟩ : ∃ wz, (((w8.setCell ⟨D, 0, none⟩ (.int .i64 0)).setCell ⟨D, 1, none⟩ (.int .i64 0)).setCell ⟨D, 2, none⟩ (.int .i64 0)).setCell ⟨D, 3, none⟩ (.int .i64 0) = wz := ⟨_, rfl⟩
  rw [hwz] at RE UE ⊢
  have g0 := RE.cell (i := 0) rfl
  have g1 := RE.cell (i := 1) rfl
  have g2 := RE.cell (i := 2) rfl
  have g3 := RE.cell (i := 3) rfl
  refine bodyPost_ret (v := didm (0, false, false, false)) (by simp [results, Try.results99, go_sem, didm, b2i, g0, g1, g2, g3]) rfl ?_
  rw [TL.out.step]
  dsimp only
  refine ⟨rfl, ⟨_, by rw [TL.out.seats, TL.out.pl]; exact A8.keep UE (fun i hi e => hDm i hi e), TL.out.rel⟩, R', by rw [TL.out.ws, TL.out.ts]; exact g8.keep UE (fun i hi e => (HRS.out i hi).2.2.2.2 e), up8.then UE (fun i hi e => by have := HD.out; omega), fun i hi => ?_⟩
  rcases (HRS.out i hi).1 with h | h
  · exact .inl h
  · exact .inr (by omega)
set_option maxHeartbeats 16000000 in
set_option maxRecDepth 40000 in
theorem stepA2 {w : World} {st : St} {ol : List Int} {y n : Nat} {R : Nat → Prop} (h : MAt x sx sb db pc ob kn w st.seats (pcl st) ol) (hrel : Rel kn st ol) (hpl : st.pls.length = st.seats.length) (hn : st.seats.length = n) (n8 : n ≤ 8) (hkn : IsSize kn) (hR : Ref04.RO w y R n st.ws st.ts) (hd : ∀ i, R i → ¬ fm x sx sb db pc ob i) (hf : st.ts.length < 1000000) (hws : st.ws.length ≤ 100000) (q : Nat) (hq : q < st.seats.length) (now : Int) (hz : state st.seats (q : Int) = 1) (hp : (st.pls.getD q (0, 0)).2 = 2) :
    Calls Try.prog 99 #[.pointer (some ⟨x, 0, none⟩), .pointer (some ⟨y, 0, none⟩), .int .i64 q, .int .i64 q, .int .i64 now] w fun e w' =>
      e = .returned (didm (Slots.step n 0 kn st (q : Int) (q : Int) now).1) ∧ (∃ ol', MAt x sx sb db pc ob kn w' (Slots.step n 0 kn st (q : Int) (q : Int) now).2.seats (pcl (Slots.step n 0 kn st (q : Int) (q : Int) now).2) ol' ∧ Rel kn (Slots.step n 0 kn st (q : Int) (q : Int) now).2 ol') ∧
      ∃ R', Ref04.RO w' y R' n (Slots.step n 0 kn st (q : Int) (q : Int) now).2.ws (Slots.step n 0 kn st (q : Int) (q : Int) now).2.ts ∧ Upd (fun i => fm x sx sb db pc ob i ∨ R i) w w' ∧ ∀ i, R' i → R i ∨ w.heap.size ≤ i := by
  have c0 := h.top.cell (i := 0) rfl
  have c3 := h.top.cell (i := 3) rfl
  have hxl := h.top.lt
  have D1 : Upd (fun _ => False) w ((w.alloc (.cells #[.int .i64 0, .int .i64 0, .int .i64 0, .int .i64 0] 139)).alloc (.cells #[.int .i64 0, .int .i64 0, .int .i64 0, .int .i64 0] 139)) := ((Upd.refl _ w).alloc _).alloc _
  have h1 := h.keep D1 (fun _ _ => id)
  have g1 := hR.keep D1 (fun _ _ => id)
  have R0 : Row ((w.alloc (.cells #[.int .i64 0, .int .i64 0, .int .i64 0, .int .i64 0] 139)).alloc (.cells #[.int .i64 0, .int .i64 0, .int .i64 0, .int .i64 0] 139)) w.heap.size [.int .i64 0, .int .i64 0, .int .i64 0, .int .i64 0] := (Row.new' rfl).alloc _
  have R1 : Row ((w.alloc (.cells #[.int .i64 0, .int .i64 0, .int .i64 0, .int .i64 0] 139)).alloc (.cells #[.int .i64 0, .int .i64 0, .int .i64 0, .int .i64 0] 139)) (w.heap.size + 1) [.int .i64 0, .int .i64 0, .int .i64 0, .int .i64 0] := Row.new' (by simp)
  have up1 : Upd (fun i => fm x sx sb db pc ob i ∨ R i) w ((w.alloc (.cells #[.int .i64 0, .int .i64 0, .int .i64 0, .int .i64 0] 139)).alloc (.cells #[.int .i64 0, .int .i64 0, .int .i64 0, .int .i64 0] 139)) := D1.mono fun _ _ z => z.elim
  have hlm := h.lt
  have hlr := hR.lt
  have b1 : decide ((q : Int) < 0) = false := by rw [decide_eq_false_iff_not]; omega
  have b2 : decide ((st.seats.length : Int) ≤ (q : Int)) = false := by rw [decide_eq_false_iff_not]; omega
  have b3 : decide (st.seats.length ≤ q) = false := by rw [decide_eq_false_iff_not]; omega
  have hqn : q < n := by omega
  have HF := Lib.hid hf
  have HN := Lib.hid hn
  have HK64 := Lib.hid (show n ≤ 64 by omega)
  have HWS := Lib.hid hws
  have HKN := Lib.hid (size_pos hkn)
  obtain ⟨D, hD⟩ : ∃ D, w.heap.size = D := ⟨_, rfl⟩
  have HD := Lib.hid hD
  obtain ⟨W, hW⟩ : ∃ W, (w.alloc (.cells #[.int .i64 0, .int .i64 0, .int .i64 0, .int .i64 0] 139)).alloc (.cells #[.int .i64 0, .int .i64 0, .int .i64 0, .int .i64 0] 139) = W := ⟨_, rfl⟩
  rw [hD] at R0 R1 hlm hlr
  rw [hW] at h1 g1 R0 R1 up1
  have HW := Lib.hid hW
  have HLM := Lib.hid hlm
  have HLR := Lib.hid hlr
  have HDD := Lib.hid hd
  have hWD : D + 2 = W.heap.size := by rw [← hW, ← hD]; simp
  have HWD := Lib.hid hWD
  have UP1 := Lib.hid up1
  have HQ := Lib.hid hq
  have hqo : q < ol.length := by rw [h.l2]; exact hq
  have hqp : q < st.pls.length := by rw [hpl]; exact hq
  obtain ⟨st2, tl⟩ := toldA2 (n := n) (now := now) hrel hz hp
  have TL := Lib.hid tl
  have HFI := Lib.hid (fin_at 1 1 hz 2 rfl (by decide))
  have hzq : (st.seats.getD q (0, -1)).1 = 1 := by
    have e := hz
    unfold state at e
    rw [inB_mk hq, if_pos rfl, Int.toNat_natCast] at e; exact e
  have owd := h.wd q
  obtain ⟨ov, hov⟩ : ∃ ov, ol.getD q 0 = ov := ⟨_, rfl⟩
  rw [hov] at owd TL
  clear tl hf hn hws n8 hW hD hlm hlr hd hrel hpl hkn hqn D1 up1 hWD h hR hqp
  go_enter Try.func99, Try.ntmps99
  go_upto_region 4 with (fail)
  rw [HW.out, HD.out]
  clear c0 c3 hxl b1 b2 b3
  have hq1 : (0 : Int) ≤ (q : Int) := by omega
  have hq2 : (q : Int) < (st.seats.length : Int) := by omega
  have c0 := h1.top.cell (i := 0) rfl
  have c1 := h1.top.cell (i := 1) rfl
  have c2 := h1.top.cell (i := 2) rfl
  have c3 := h1.top.cell (i := 3) rfl
  have c4 := h1.top.cell (i := 4) rfl
  obtain ⟨cs, cd, htop⟩ := h1.seat.top
  have s0 := htop.cell (i := 0) rfl
  have s1 := h1.seat.st.cell (sts_get hq)
  rw [hzq] at s1
  have p1 := h1.prow.cell (ii_get (t := q) (by rw [h1.l1]; exact hq))
  rw [pcl_get, hp] at p1
  have o1 := h1.orow.cell (ii_get (t := q) hqo)
  rw [hov] at o1
  have hDm : ∀ i, fm x sx sb db pc ob i → i ≠ D := fun i hi e => by have := HLM.out i hi; omega
  have hDm1 : ∀ i, fm x sx sb db pc ob i → i ≠ D + 1 := fun i hi e => by have := HLM.out i hi; omega
  have nR : ∀ i, fm x sx sb db pc ob i → ¬ R i := fun i hi h => HDD.out i h hi
  have nx := nR x (by simp [fm])
  have no := nR ob (by simp [fm])
  have np := nR pc (by simp [fm])
  have nsx := nR sx (by simp [fm])
  have nsb := nR sb (by simp [fm])
  have nD : ¬ R D := fun h => by have := HLR.out D h; omega
  have nD1 : ¬ R (D + 1) := fun h => by have := HLR.out _ h; omega
  have HQO := Lib.hid hqo
  clear hz hzq hov nR htop hqo
  have hu1 : IntKind.i64.wrap (1 + ov) = 1 + ov := IntWalk.i64_in _ (by have := HKN.out; omega)
  have hu2 : IntKind.i64.wrap 1 = 1 := IntWalk.i64_in _ (by omega)
  have KA := Ref04.storeR W.drew (g1.drewN 1) HF.out HK64.out HWS.out q (1 + ov) 0
  have HKA := Lib.hid KA
  clear KA
  go_wp2_with fail
  go_region_held3 (fun w' => w'.cell? ⟨x, 1, none⟩ = some (.int .i64 0) ∧ w'.cell? ⟨x, 4, none⟩ = some (.slice (some ⟨ob, 0, none⟩) st.seats.length st.seats.length) ∧ w'.cell? ⟨ob, q, none⟩ = some (.int .i64 ov)) ((first | exact ⟨c1, c4, o1⟩ | exact ⟨ec1, ec4, eo1⟩))
    ((go_at_call 100; refine HKA.out.mono ?_; rintro e w5 ⟨rfl, R', hR5, u5, hR5s⟩; have ec1 := cell_upd u5 c1 nx; have ec4 := cell_upd u5 c4 nx; have eo1 := cell_upd u5 o1 no))
  have A5 := (h1.keep ((Upd.refl (fun _ => False) W).drewN 1) (fun _ _ => id)).keep u5 (fun i hi h => HDD.out i h hi)
  have R5 := (R1.drewN 1).upd u5 nD1
  have Q5 := (R0.drewN 1).upd u5 nD
  have up5 : Upd (fun i => fm x sx sb db pc ob i ∨ R i) w w5 := (UP1.out.drewN 1).trans (u5.mono fun i _ h => .inr h)
  have g5 := hR5
  have HRS : Hid (∀ i, R' i → (R i ∨ w.heap.size + 2 ≤ i) ∧ i ≠ D + 1 ∧ i ≠ ob ∧ i ≠ pc ∧ i ≠ D) := Lib.hid fun i hi => by
    rcases hR5s i hi with h | h
    · exact ⟨.inl h, by have := HLR.out i h; omega, fun e => HDD.out i h (by rw [e]; simp [fm]), fun e => HDD.out i h (by rw [e]; simp [fm]), by have := HLR.out i h; omega⟩
    · have := HWD.out; have := HD.out; have := HLM.out ob (by simp [fm]); have := HLM.out pc (by simp [fm]); have h : W.heap.size ≤ i := h; exact ⟨.inr (by omega), by omega, by omega, by omega, by omega⟩
  clear h1 g1 R0 R1 c0 c1 c2 c3 c4 s0 s1 o1 p1 u5 HKA hR5 hR5s ec1 ec4 eo1 hu1 hu2
  have y0 := R5.cell (i := 0) rfl
  have z0 := R5.frozen 0
  have U7 := Upd.one w5 (D + 1) 0 (.int .i64 1)
  have A7 := A5.keep U7 (fun i hi e => hDm1 i hi e)
  have R7 := R5.set 0 (.int .i64 1)
  have Q7 := Q5.upd U7 (by omega)
  have g7 := g5.keep U7 (fun i hi e => (HRS.out i hi).2.1 e)
  have up7 := up5.then U7 (fun i hi e => by have := HD.out; omega)
  go_upto_region 19 with (fail)
  obtain ⟨w7, hw7⟩ : ∃ w', w5.setCell ⟨D + 1, 0, none⟩ (.int .i64 1) = w' := ⟨_, rfl⟩
  rw [hw7] at A7 R7 Q7 g7 up7 ⊢
  clear y0 z0 hw7 A5 R5 Q5 g5 up5 U7
  have g0 := A7.top.cell (i := 0) rfl
  have g1' := R7.cell (i := 0) rfl
  obtain ⟨cs', cd', htop5⟩ := A7.seat.top
  have g2 := htop5.cell (i := 0) rfl
  have KE := rend_all _ _ _ _ _ _ _ (A7.seat.drewN 1) q 1
  rw [show fin st.seats (q : Int) 1 = (true, st.seats.set q (2, -1)) from HFI.out, show b2i ((true, st.seats.set q (2, -1)) : Bool × List (Int × Int)).1 = 1 from rfl] at KE
  have hxb : ¬ (x = sb ∨ x = db) := fun e => by rcases e with e | e; exact A7.e1.2.1 e; exact A7.e1.2.2.1 e
  have hsb : ¬ (sx = sb ∨ sx = db) := fun e => by rcases e with e | e; exact A7.seat.ne1 e; exact A7.seat.ne2 e
  have hDb : ¬ (D = sb ∨ D = db) := fun e => by rcases e with e | e; exact hDm sb (by simp [fm]) e.symm; exact hDm db (by simp [fm]) e.symm
  have hD1b : ¬ (D + 1 = sb ∨ D + 1 = db) := fun e => by rcases e with e | e; exact hDm1 sb (by simp [fm]) e.symm; exact hDm1 db (by simp [fm]) e.symm
  have hpn : pc ≠ D ∧ pc ≠ D + 1 := ⟨hDm pc (by simp [fm]), hDm1 pc (by simp [fm])⟩
  have HKE := Lib.hid KE
  have HPN := Lib.hid hpn
  have HGB : Hid (∀ i, R' i → ¬ (i = sb ∨ i = db)) := Lib.hid fun i hi e => by
    have hf : fm x sx sb db pc ob i := by rcases e with rfl | rfl <;> simp [fm]
    rcases (HRS.out i hi).1 with h | h
    · exact HDD.out i h hf
    · have := HLM.out i hf; have := HD.out; omega
  have HLEN : Hid ((st.seats.set q (2, -1)).length = st.seats.length) := Lib.hid (by simp)
  clear KE htop5 hpn
  refine wp_region_held_drew (S := fun w' => w'.cell? ⟨x, 0, none⟩ = some (.pointer (some ⟨sx, 0, none⟩)) ∧ w'.cell? ⟨sx, 0, none⟩ = some (.slice (some ⟨sb, 0, none⟩) st.seats.length cs') ∧ w'.cell? ⟨D + 1, 0, none⟩ = some (.int .i64 1)) (by kernel_rfl) ⟨g0, g2, g1'⟩ (fun hHeld => ?_)
  refine wpAnyH_take (i := 0) (v := ?_) rfl (by kernel_rfl) (by kernel_rfl) (by kernel_rfl) (fun _ _ _ h => h) (Or.inl ⟨by rfl, ?_⟩) hHeld ?_
  rotate_left
  · (intro w' hSw; (try dsimp only at hSw); go_simp) <;> with_reducible rfl
  change wpAnyH _ _ _ _ _ _ _ (Act.put _ (some 149) _) _
  try simp only [Act.put, List.setIfInBounds_toArray, List.set_cons_zero, List.set_cons_succ]
  refine wpAnyH_take (i := 1) (v := ?_) rfl (by kernel_rfl) (by kernel_rfl) (by kernel_rfl) (fun _ _ _ h => h) (Or.inl ⟨by rfl, ?_⟩) hHeld ?_
  rotate_left
  · (intro w' hSw; (try dsimp only at hSw); go_simp) <;> with_reducible rfl
  change wpAnyH _ _ _ _ _ _ _ (Act.put _ (some 150) _) _
  try simp only [Act.put, List.setIfInBounds_toArray, List.set_cons_zero, List.set_cons_succ]
  refine wpAnyH_take (i := 2) (v := ?_) rfl (by kernel_rfl) (by kernel_rfl) (by kernel_rfl) (fun _ _ _ h => h) (Or.inl ⟨by rfl, ?_⟩) hHeld ?_
  rotate_left
  · (intro w' hSw; (try dsimp only at hSw); go_simp) <;> with_reducible rfl
  change wpAnyH _ _ _ _ _ _ _ (Act.put _ (some 151) _) _
  try simp only [Act.put, List.setIfInBounds_toArray, List.set_cons_zero, List.set_cons_succ]
  refine wpAnyH_take (i := 3) (v := ?_) rfl (by kernel_rfl) (by kernel_rfl) (by kernel_rfl) (fun _ _ _ h => h) (Or.inl ⟨by rfl, ?_⟩) hHeld ?_
  rotate_left
  · (intro w' hSw; (try dsimp only at hSw); go_simp) <;> with_reducible rfl
  change wpAnyH _ _ _ _ _ _ _ (Act.put _ (some 152) _) _
  try simp only [Act.put, List.setIfInBounds_toArray, List.set_cons_zero, List.set_cons_succ]
  refine wpAnyH_take (i := 4) (v := ?_) rfl (by kernel_rfl) (by kernel_rfl) (by kernel_rfl) (fun _ _ _ h => h) (Or.inl ⟨by rfl, ?_⟩) hHeld ?_
  rotate_left
  · (intro w' hSw; (try dsimp only at hSw); go_simp) <;> with_reducible rfl
  change wpAnyH _ _ _ _ _ _ _ (Act.put _ (some 153) _) _
  try simp only [Act.put, List.setIfInBounds_toArray, List.set_cons_zero, List.set_cons_succ]
  refine wpAnyH_take (i := 5) (v := ?_) rfl (by kernel_rfl) (by kernel_rfl) (by kernel_rfl) (fun _ _ _ h => h) (Or.inl ⟨by rfl, ?_⟩) hHeld ?_
  rotate_left
  · (intro w' hSw; (try dsimp only at hSw); go_simp) <;> with_reducible rfl
  change wpAnyH _ _ _ _ _ _ _ (Act.put _ (some 154) _) _
  try simp only [Act.put, List.setIfInBounds_toArray, List.set_cons_zero, List.set_cons_succ]
  refine wpAnyH_take (i := 6) (v := ?_) rfl (by kernel_rfl) (by kernel_rfl) (by kernel_rfl) (fun _ _ _ h => h) (Or.inl ⟨by rfl, ?_⟩) hHeld ?_
  rotate_left
  · (intro w' hSw; (try dsimp only at hSw); go_simp) <;> with_reducible rfl
  change wpAnyH _ _ _ _ _ _ _ (Act.put _ (some 155) _) _
  try simp only [Act.put, List.setIfInBounds_toArray, List.set_cons_zero, List.set_cons_succ]
  refine wpAnyH_ready (rs := [7]) (by kernel_rfl) (by simp) ?_
  refine AllReadyH.cons rfl (fun K hK => ?_) AllReadyH.nil
  go_simp
  refine HKE.out.mono ?_
  rintro e w8 ⟨rfl, hs8, u8⟩
  have e0 := cell_upd u8 g0 hxb
  have e2 := cell_upd u8 g2 hsb
  have e1 := cell_upd u8 g1' hD1b
  have y6 := hs8.st.cell (sts_get (k := q) (by simpa using HQ.out))
  rw [show (st.seats.set q (2, -1)).getD q (0, -1) = (2, -1) by simp [List.getD, List.getElem?_set_self HQ.out]] at y6
  simp only []
  refine hK.out _ _ ⟨e0, e2, e1⟩ (fun hHeld => ?_)
  clear hK K
  try simp only [Act.put, List.setIfInBounds_toArray, List.set_cons_zero, List.set_cons_succ]
  refine wpAnyH_take (i := 8) (v := ?_) rfl (by kernel_rfl) (by kernel_rfl) (by kernel_rfl) (fun _ _ _ h => h) (Or.inl ⟨by rfl, ?_⟩) hHeld ?_
  rotate_left
  · (intro w' hSw; (try dsimp only at hSw); go_simp) <;> with_reducible rfl
  change wpAnyH _ _ _ _ _ _ _ (Act.put _ (some 157) _) _
  try simp only [Act.put, List.setIfInBounds_toArray, List.set_cons_zero, List.set_cons_succ]
  refine wpAnyH_take (i := 9) (v := ?_) rfl (by kernel_rfl) (by kernel_rfl) (by kernel_rfl) (fun _ _ _ h => h) (Or.inl ⟨by rfl, ?_⟩) hHeld ?_
  rotate_left
  · (intro w' hSw; (try dsimp only at hSw); go_simp) <;> with_reducible rfl
  change wpAnyH _ _ _ _ _ _ _ (Act.put _ (some 158) _) _
  try simp only [Act.put, List.setIfInBounds_toArray, List.set_cons_zero, List.set_cons_succ]
  refine wpAnyH_take (i := 10) (v := ?_) rfl (by kernel_rfl) (by kernel_rfl) (by kernel_rfl) (fun _ _ _ h => h) (Or.inl ⟨by rfl, ?_⟩) hHeld ?_
  rotate_left
  · (intro w' hSw; (try dsimp only at hSw); go_simp) <;> with_reducible rfl
  change wpAnyH _ _ _ _ _ _ _ (Act.put _ (some 159) _) _
  try simp only [Act.put, List.setIfInBounds_toArray, List.set_cons_zero, List.set_cons_succ]
  refine wpAnyH_take (i := 11) (v := ?_) rfl (by kernel_rfl) (by kernel_rfl) (by kernel_rfl) (fun _ _ _ h => h) (Or.inl ⟨by rfl, ?_⟩) hHeld ?_
  rotate_left
  · (intro w' hSw; (try dsimp only at hSw); go_simp) <;> with_reducible rfl
  change wpAnyH _ _ _ _ _ _ _ (Act.put _ (some 160) _) _
  try simp only [Act.put, List.setIfInBounds_toArray, List.set_cons_zero, List.set_cons_succ]
  refine wpAnyH_take (i := 12) (v := ?_) rfl (by kernel_rfl) (by kernel_rfl) (by kernel_rfl) (fun _ _ _ h => h) (Or.inl ⟨by rfl, ?_⟩) hHeld ?_
  rotate_left
  · (intro w' hSw; (try dsimp only at hSw); go_simp) <;> with_reducible rfl
  change wpAnyH _ _ _ _ _ _ _ (Act.put _ (some 161) _) _
  try simp only [Act.put, List.setIfInBounds_toArray, List.set_cons_zero, List.set_cons_succ]
  refine wpAnyH_take (i := 13) (v := ?_) rfl (by kernel_rfl) (by kernel_rfl) (by kernel_rfl) (fun _ _ _ h => h) (Or.inl ⟨by rfl, ?_⟩) hHeld ?_
  rotate_left
  · (intro w' hSw; (try dsimp only at hSw); go_simp) <;> with_reducible rfl
  change wpAnyH _ _ _ _ _ _ _ (Act.put _ (some 162) _) _
  try simp only [Act.put, List.setIfInBounds_toArray, List.set_cons_zero, List.set_cons_succ]
  refine wpAnyH_take (i := 14) (v := ?_) rfl (by kernel_rfl) (by kernel_rfl) (by kernel_rfl) (fun _ _ _ h => h) (Or.inl ⟨by rfl, ?_⟩) hHeld ?_
  rotate_left
  · (intro w' hSw; (try dsimp only at hSw); go_simp) <;> with_reducible rfl
  change wpAnyH _ _ _ _ _ _ _ (Act.put _ (some 163) _) _
  try simp only [Act.put, List.setIfInBounds_toArray, List.set_cons_zero, List.set_cons_succ]
  refine wpAnyH_take (i := 15) (v := ?_) rfl (by kernel_rfl) (by kernel_rfl) (by kernel_rfl) (fun _ _ _ h => h) (Or.inl ⟨by rfl, ?_⟩) hHeld ?_
  rotate_left
  · (intro w' hSw; (try dsimp only at hSw); go_simp) <;> with_reducible rfl
  change wpAnyH _ _ _ _ _ _ _ (Act.put _ (some 164) _) _
  try simp only [Act.put, List.setIfInBounds_toArray, List.set_cons_zero, List.set_cons_succ]
  refine wpAnyH_take (i := 16) (v := ?_) rfl (by kernel_rfl) (by kernel_rfl) (by kernel_rfl) (fun _ _ _ h => h) (Or.inl ⟨by rfl, ?_⟩) hHeld ?_
  rotate_left
  · (intro w' hSw; (try dsimp only at hSw); go_simp) <;> with_reducible rfl
  change wpAnyH _ _ _ _ _ _ _ (Act.put _ (some 165) _) _
  try simp only [Act.put, List.setIfInBounds_toArray, List.set_cons_zero, List.set_cons_succ]
  refine wpAnyH_take (i := 17) (v := ?_) rfl (by kernel_rfl) (by kernel_rfl) (by kernel_rfl) (fun _ _ _ h => h) (Or.inl ⟨by rfl, ?_⟩) hHeld ?_
  rotate_left
  · (intro w' hSw; (try dsimp only at hSw); go_simp) <;> with_reducible rfl
  change wpAnyH _ _ _ _ _ _ _ (Act.put _ (some 166) _) _
  try simp only [Act.put, List.setIfInBounds_toArray, List.set_cons_zero, List.set_cons_succ]
  refine wpAnyH_take (i := 18) (v := ?_) rfl (by kernel_rfl) (by kernel_rfl) (by kernel_rfl) (fun _ _ _ h => h) (Or.inl ⟨by rfl, ?_⟩) hHeld ?_
  rotate_left
  · (intro w' hSw; (try dsimp only at hSw); go_simp) <;> with_reducible rfl
  change wpAnyH _ _ _ _ _ _ _ (Act.put _ (some 167) _) _
  try simp only [Act.put, List.setIfInBounds_toArray, List.set_cons_zero, List.set_cons_succ]
  refine wpAnyH_ready (rs := [19]) (by kernel_rfl) (by simp) ?_
  refine AllReadyH.cons rfl (fun K hK => ?_) AllReadyH.nil
  go_simp
  refine hK.out _ _ hHeld (fun hHeld => ?_)
  clear hK K
  try simp only [Act.put, List.setIfInBounds_toArray, List.set_cons_zero, List.set_cons_succ]
  refine wpAnyH_take (i := 20) (v := ?_) rfl (by kernel_rfl) (by kernel_rfl) (by kernel_rfl) (fun _ _ _ h => h) (Or.inl ⟨by rfl, ?_⟩) hHeld ?_
  rotate_left
  · (intro w' hSw; (try dsimp only at hSw); go_simp) <;> with_reducible rfl
  change wpAnyH _ _ _ _ _ _ _ (Act.put _ (some 169) _) _
  try simp only [Act.put, List.setIfInBounds_toArray, List.set_cons_zero, List.set_cons_succ]
  refine wpAnyH_take (i := 21) (v := ?_) rfl (by kernel_rfl) (by kernel_rfl) (by kernel_rfl) (fun _ _ _ h => h) (Or.inl ⟨by rfl, ?_⟩) hHeld ?_
  rotate_left
  · (intro w' hSw; (try dsimp only at hSw); go_simp) <;> with_reducible rfl
  change wpAnyH _ _ _ _ _ _ _ (Act.put _ (some 170) _) _
  try simp only [Act.put, List.setIfInBounds_toArray, List.set_cons_zero, List.set_cons_succ]
  refine wpAnyH_done (by kernel_rfl) ?_ _
  have A8 := (A7.keep ((Upd.refl (fun _ => False) _).drewN 1) (fun _ _ => id)).seats HLEN.out hs8 u8
  have R8 := (R7.drewN 1).upd u8 hD1b
  have Q8 := (Q7.drewN 1).upd u8 hDb
  have g8 := (g7.drewN 1).keep u8 (fun i hi => HGB.out i hi)
  have up8 : Upd (fun i => fm x sx sb db pc ob i ∨ R i) w w8 := (up7.drewN 1).trans (u8.mono fun i _ e => by rcases e with rfl | rfl <;> simp [fm])
  clear e0 e1 e2 g0 g1' g2 A7 R7 Q7 g7 up7 u8 hs8 y6
  have y0 := R8.cell (i := 0) rfl
  have y1 := R8.cell (i := 1) rfl
  have y2 := R8.cell (i := 2) rfl
  have y3 := R8.cell (i := 3) rfl
  have z0 := Q8.cell (i := 0) rfl
  have z1 := Q8.cell (i := 1) rfl
  have z2 := Q8.cell (i := 2) rfl
  have z3 := Q8.cell (i := 3) rfl
  have k0 := Q8.frozen 0
  have k1 := Q8.frozen 1
  have k2 := Q8.frozen 2
  have k3 := Q8.frozen 3
  go_wp2_with fail
  have RE := did4 Q8 (.int .i64 1) (.int .i64 0) (.int .i64 0) (.int .i64 0)
  have UE := upd4 w8 D (.int .i64 1) (.int .i64 0) (.int .i64 0) (.int .i64 0)
  obtain ⟨wz, hwz⟩ : ∃ wz, (((w8.setCell ⟨D, 0, none⟩ (.int .i64 1)).setCell ⟨D, 1, none⟩ (.int .i64 0)).setCell ⟨D, 2, none⟩ (.int .i64 0)).setCell ⟨D, 3, none⟩ (.int .i64 0) = wz := ⟨_, rfl⟩
  rw [hwz] at RE UE ⊢
  have g0 := RE.cell (i := 0) rfl
  have g1 := RE.cell (i := 1) rfl
  have g2 := RE.cell (i := 2) rfl
  have g3 := RE.cell (i := 3) rfl
  refine bodyPost_ret (v := didm (1, false, false, false)) (by simp [results, Try.results99, go_sem, didm, b2i, g0, g1, g2, g3]) rfl ?_
  rw [TL.out.step]
  dsimp only
  refine ⟨rfl, ⟨_, by rw [TL.out.seats, TL.out.pl]; exact A8.keep UE (fun i hi e => hDm i hi e), TL.out.rel⟩, R', by rw [TL.out.ws, TL.out.ts]; exact g8.keep UE (fun i hi e => (HRS.out i hi).2.2.2.2 e), up8.then UE (fun i hi e => by have := HD.out; omega), fun i hi => ?_⟩
  rcases (HRS.out i hi).1 with h | h
  · exact .inl h
  · exact .inr (by omega)
set_option maxHeartbeats 16000000 in
set_option maxRecDepth 40000 in
theorem stepB {w : World} {st : St} {ol : List Int} {y n : Nat} {R : Nat → Prop} (h : MAt x sx sb db pc ob kn w st.seats (pcl st) ol) (hrel : Rel kn st ol) (hok : Ok st.pls) (hpl : st.pls.length = st.seats.length) (hn : st.seats.length = n) (n8 : n ≤ 8) (hkn : IsSize kn) (hR : Ref04.RO w y R n st.ws st.ts) (hd : ∀ i, R i → ¬ fm x sx sb db pc ob i) (hf : st.ts.length < 1000000) (hws : st.ws.length ≤ 100000) (q : Nat) (hq : q < st.seats.length) (now : Int) (hz : state st.seats (q : Int) = 3) (hp : (st.pls.getD q (0, 0)).2 = 2) :
    Calls Try.prog 99 #[.pointer (some ⟨x, 0, none⟩), .pointer (some ⟨y, 0, none⟩), .int .i64 q, .int .i64 q, .int .i64 now] w fun e w' =>
      e = .returned (didm (Slots.step n 0 kn st (q : Int) (q : Int) now).1) ∧ (∃ ol', MAt x sx sb db pc ob kn w' (Slots.step n 0 kn st (q : Int) (q : Int) now).2.seats (pcl (Slots.step n 0 kn st (q : Int) (q : Int) now).2) ol' ∧ Rel kn (Slots.step n 0 kn st (q : Int) (q : Int) now).2 ol') ∧
      ∃ R', Ref04.RO w' y R' n (Slots.step n 0 kn st (q : Int) (q : Int) now).2.ws (Slots.step n 0 kn st (q : Int) (q : Int) now).2.ts ∧ Upd (fun i => fm x sx sb db pc ob i ∨ R i) w w' ∧ ∀ i, R' i → R i ∨ w.heap.size ≤ i := by
  have c0 := h.top.cell (i := 0) rfl
  have c3 := h.top.cell (i := 3) rfl
  have hxl := h.top.lt
  have D1 : Upd (fun _ => False) w ((w.alloc (.cells #[.int .i64 0, .int .i64 0, .int .i64 0, .int .i64 0] 139)).alloc (.cells #[.int .i64 0, .int .i64 0, .int .i64 0, .int .i64 0] 139)) := ((Upd.refl _ w).alloc _).alloc _
  have h1 := h.keep D1 (fun _ _ => id)
  have g1 := hR.keep D1 (fun _ _ => id)
  have R0 : Row ((w.alloc (.cells #[.int .i64 0, .int .i64 0, .int .i64 0, .int .i64 0] 139)).alloc (.cells #[.int .i64 0, .int .i64 0, .int .i64 0, .int .i64 0] 139)) w.heap.size [.int .i64 0, .int .i64 0, .int .i64 0, .int .i64 0] := (Row.new' rfl).alloc _
  have R1 : Row ((w.alloc (.cells #[.int .i64 0, .int .i64 0, .int .i64 0, .int .i64 0] 139)).alloc (.cells #[.int .i64 0, .int .i64 0, .int .i64 0, .int .i64 0] 139)) (w.heap.size + 1) [.int .i64 0, .int .i64 0, .int .i64 0, .int .i64 0] := Row.new' (by simp)
  have up1 : Upd (fun i => fm x sx sb db pc ob i ∨ R i) w ((w.alloc (.cells #[.int .i64 0, .int .i64 0, .int .i64 0, .int .i64 0] 139)).alloc (.cells #[.int .i64 0, .int .i64 0, .int .i64 0, .int .i64 0] 139)) := D1.mono fun _ _ z => z.elim
  have hlm := h.lt
  have hlr := hR.lt
  have b1 : decide ((q : Int) < 0) = false := by rw [decide_eq_false_iff_not]; omega
  have b2 : decide ((st.seats.length : Int) ≤ (q : Int)) = false := by rw [decide_eq_false_iff_not]; omega
  have b3 : decide (st.seats.length ≤ q) = false := by rw [decide_eq_false_iff_not]; omega
  have hqn : q < n := by omega
  have HF := Lib.hid hf
  have HN := Lib.hid hn
  have HK64 := Lib.hid (show n ≤ 64 by omega)
  have HWS := Lib.hid hws
  have HKN := Lib.hid (size_pos hkn)
  obtain ⟨D, hD⟩ : ∃ D, w.heap.size = D := ⟨_, rfl⟩
  have HD := Lib.hid hD
  obtain ⟨W, hW⟩ : ∃ W, (w.alloc (.cells #[.int .i64 0, .int .i64 0, .int .i64 0, .int .i64 0] 139)).alloc (.cells #[.int .i64 0, .int .i64 0, .int .i64 0, .int .i64 0] 139) = W := ⟨_, rfl⟩
  rw [hD] at R0 R1 hlm hlr
  rw [hW] at h1 g1 R0 R1 up1
  have HW := Lib.hid hW
  have HLM := Lib.hid hlm
  have HLR := Lib.hid hlr
  have HDD := Lib.hid hd
  have hWD : D + 2 = W.heap.size := by rw [← hW, ← hD]; simp
  have HWD := Lib.hid hWD
  have UP1 := Lib.hid up1
  have HQ := Lib.hid hq
  have hqo : q < ol.length := by rw [h.l2]; exact hq
  have hqp : q < st.pls.length := by rw [hpl]; exact hq
  obtain ⟨st2, tl⟩ := toldB (n := n) (now := now) hrel hqp hkn hok hz hp
  have TL := Lib.hid tl
  have HFI := Lib.hid (fin_at 3 3 hz 0 rfl (by decide))
  have hzq : (st.seats.getD q (0, -1)).1 = 3 := by
    have e := hz
    unfold state at e
    rw [inB_mk hq, if_pos rfl, Int.toNat_natCast] at e; exact e
  have HZQ := Lib.hid hzq
  have owd := h.wd q
  obtain ⟨ov, hov⟩ : ∃ ov, ol.getD q 0 = ov := ⟨_, rfl⟩
  rw [hov] at owd TL
  clear tl hf hn hws n8 hW hD hlm hlr hd hrel hok hpl hkn hqn D1 up1 hWD h hR hqp
  go_enter Try.func99, Try.ntmps99
  go_upto_region 4 with (fail)
  rw [HW.out, HD.out]
  clear c0 c3 hxl b1 b2 b3
  have hq1 : (0 : Int) ≤ (q : Int) := by omega
  have hq2 : (q : Int) < (st.seats.length : Int) := by omega
  have c0 := h1.top.cell (i := 0) rfl
  have c1 := h1.top.cell (i := 1) rfl
  have c2 := h1.top.cell (i := 2) rfl
  have c3 := h1.top.cell (i := 3) rfl
  have c4 := h1.top.cell (i := 4) rfl
  obtain ⟨cs, cd, htop⟩ := h1.seat.top
  have s0 := htop.cell (i := 0) rfl
  have s1 := h1.seat.st.cell (sts_get hq)
  rw [hzq] at s1
  have p1 := h1.prow.cell (ii_get (t := q) (by rw [h1.l1]; exact hq))
  rw [pcl_get, hp] at p1
  have o1 := h1.orow.cell (ii_get (t := q) hqo)
  rw [hov] at o1
  have hDm : ∀ i, fm x sx sb db pc ob i → i ≠ D := fun i hi e => by have := HLM.out i hi; omega
  have hDm1 : ∀ i, fm x sx sb db pc ob i → i ≠ D + 1 := fun i hi e => by have := HLM.out i hi; omega
  have nR : ∀ i, fm x sx sb db pc ob i → ¬ R i := fun i hi h => HDD.out i h hi
  have nx := nR x (by simp [fm])
  have no := nR ob (by simp [fm])
  have np := nR pc (by simp [fm])
  have nsx := nR sx (by simp [fm])
  have nsb := nR sb (by simp [fm])
  have nD : ¬ R D := fun h => by have := HLR.out D h; omega
  have nD1 : ¬ R (D + 1) := fun h => by have := HLR.out _ h; omega
  have HQO := Lib.hid hqo
  clear hz hzq hov nR htop hqo
  have hu0 : IntKind.i64.wrap (ov + 1) = ov + 1 := IntWalk.i64_in _ (by have := HKN.out; omega)
  obtain ⟨r, hr⟩ : ∃ r, (ov + 1) % kn = r := ⟨_, rfl⟩
  rw [hr] at TL
  have hr0 : 0 ≤ r ∧ r < kn := by
    have := HKN.out
    rw [← hr]
    exact ⟨Int.emod_nonneg _ (by omega), Int.emod_lt_of_pos _ (by omega)⟩
  have hmod : Int.tmod (ov + 1) kn = r := by rw [Int.tmod_eq_emod_of_nonneg (by omega)]; exact hr
  have hu1 : IntKind.i64.wrap (1 + r) = 1 + r := IntWalk.i64_in _ (by have := HKN.out; omega)
  have hu2 : IntKind.i64.wrap 1 = 1 := IntWalk.i64_in _ (by omega)
  have hk0 : ¬ (kn = 0) := by have := HKN.out; omega
  have hk1 : (1 : Int) ≤ kn := HKN.out.1
  have KA := Ref04.storeR W.drew (g1.drewN 1) HF.out HK64.out HWS.out q (1 + r) 1
  have HKA := Lib.hid KA
  clear KA hr0
  go_wp2_with fail
  go_region_held3 (fun w' => w'.cell? ⟨x, 1, none⟩ = some (.int .i64 0) ∧ w'.cell? ⟨x, 2, none⟩ = some (.int .i64 kn) ∧ w'.cell? ⟨x, 4, none⟩ = some (.slice (some ⟨ob, 0, none⟩) st.seats.length st.seats.length) ∧ w'.cell? ⟨ob, q, none⟩ = some (.int .i64 ov)) ((first | exact ⟨c1, c2, c4, o1⟩ | exact ⟨ec1, ec2, ec4, eo1⟩))
    ((go_at_call 100; refine HKA.out.mono ?_; rintro e w5 ⟨rfl, R', hR5, u5, hR5s⟩; have es0 := cell_upd u5 s0 nsx; have es1 := cell_upd u5 s1 nsb; have ec0 := cell_upd u5 c0 nx; have ec1 := cell_upd u5 c1 nx; have ec2 := cell_upd u5 c2 nx; have ec4 := cell_upd u5 c4 nx; have eo1 := cell_upd u5 o1 no))
  have A5 := (h1.keep ((Upd.refl (fun _ => False) W).drewN 1) (fun _ _ => id)).keep u5 (fun i hi h => HDD.out i h hi)
  have R5 := (R1.drewN 1).upd u5 nD1
  have Q5 := (R0.drewN 1).upd u5 nD
  have up5 : Upd (fun i => fm x sx sb db pc ob i ∨ R i) w w5 := (UP1.out.drewN 1).trans (u5.mono fun i _ h => .inr h)
  have g5 := hR5
  have HRS : Hid (∀ i, R' i → (R i ∨ w.heap.size + 2 ≤ i) ∧ i ≠ D + 1 ∧ i ≠ ob ∧ i ≠ pc ∧ i ≠ D) := Lib.hid fun i hi => by
    rcases hR5s i hi with h | h
    · exact ⟨.inl h, by have := HLR.out i h; omega, fun e => HDD.out i h (by rw [e]; simp [fm]), fun e => HDD.out i h (by rw [e]; simp [fm]), by have := HLR.out i h; omega⟩
    · have := HWD.out; have := HD.out; have := HLM.out ob (by simp [fm]); have := HLM.out pc (by simp [fm]); have h : W.heap.size ≤ i := h; exact ⟨.inr (by omega), by omega, by omega, by omega, by omega⟩
  clear h1 g1 R0 R1 c0 c1 c2 c3 c4 s0 s1 o1 p1 u5 HKA hR5 hR5s ec1 ec2 ec4 eo1 hu1 hu2 hk0 hk1 hmod hr hu0 ec0 es0 es1
  have y0 := R5.cell (i := 0) rfl
  have z0 := R5.frozen 0
  have U7 := Upd.one w5 (D + 1) 0 (.int .i64 3)
  have A7 := A5.keep U7 (fun i hi e => hDm1 i hi e)
  have R7 := R5.set 0 (.int .i64 3)
  have Q7 := Q5.upd U7 (by omega)
  have g7 := g5.keep U7 (fun i hi e => (HRS.out i hi).2.1 e)
  have up7 := up5.then U7 (fun i hi e => by have := HD.out; omega)
  go_upto_region 7 with (fail)
  obtain ⟨w7, hw7⟩ : ∃ w', w5.setCell ⟨D + 1, 0, none⟩ (.int .i64 3) = w' := ⟨_, rfl⟩
  rw [hw7] at A7 R7 Q7 g7 up7 ⊢
  clear y0 z0 hw7 A5 R5 Q5 g5 up5 U7
  have c0 := A7.top.cell (i := 0) rfl
  obtain ⟨cs7, cd7, htop7⟩ := A7.seat.top
  have s0 := htop7.cell (i := 0) rfl
  have s1 := A7.seat.st.cell (sts_get HQ.out)
  rw [HZQ.out] at s1
  clear htop7
  go_upto_region 19 with (fail)
  clear c0 s0 s1
  have g0 := A7.top.cell (i := 0) rfl
  have g1' := R7.cell (i := 0) rfl
  obtain ⟨cs', cd', htop5⟩ := A7.seat.top
  have g2 := htop5.cell (i := 0) rfl
  have KE := rend_all _ _ _ _ _ _ _ (A7.seat.drewN 1) q 3
  rw [show fin st.seats (q : Int) 3 = (true, st.seats.set q (0, -1)) from HFI.out, show b2i ((true, st.seats.set q (0, -1)) : Bool × List (Int × Int)).1 = 1 from rfl] at KE
  have hxb : ¬ (x = sb ∨ x = db) := fun e => by rcases e with e | e; exact A7.e1.2.1 e; exact A7.e1.2.2.1 e
  have hsb : ¬ (sx = sb ∨ sx = db) := fun e => by rcases e with e | e; exact A7.seat.ne1 e; exact A7.seat.ne2 e
  have hDb : ¬ (D = sb ∨ D = db) := fun e => by rcases e with e | e; exact hDm sb (by simp [fm]) e.symm; exact hDm db (by simp [fm]) e.symm
  have hD1b : ¬ (D + 1 = sb ∨ D + 1 = db) := fun e => by rcases e with e | e; exact hDm1 sb (by simp [fm]) e.symm; exact hDm1 db (by simp [fm]) e.symm
  have hpn : pc ≠ D ∧ pc ≠ D + 1 := ⟨hDm pc (by simp [fm]), hDm1 pc (by simp [fm])⟩
  have HKE := Lib.hid KE
  have HPN := Lib.hid hpn
  have HGB : Hid (∀ i, R' i → ¬ (i = sb ∨ i = db)) := Lib.hid fun i hi e => by
    have hf : fm x sx sb db pc ob i := by rcases e with rfl | rfl <;> simp [fm]
    rcases (HRS.out i hi).1 with h | h
    · exact HDD.out i h hf
    · have := HLM.out i hf; have := HD.out; omega
  have HLEN : Hid ((st.seats.set q (0, -1)).length = st.seats.length) := Lib.hid (by simp)
  clear KE htop5 hpn
  refine wp_region_held_drew (S := fun w' => w'.cell? ⟨x, 0, none⟩ = some (.pointer (some ⟨sx, 0, none⟩)) ∧ w'.cell? ⟨sx, 0, none⟩ = some (.slice (some ⟨sb, 0, none⟩) st.seats.length cs') ∧ w'.cell? ⟨D + 1, 0, none⟩ = some (.int .i64 3)) (by kernel_rfl) ⟨g0, g2, g1'⟩ (fun hHeld => ?_)
  refine wpAnyH_take (i := 0) (v := ?_) rfl (by kernel_rfl) (by kernel_rfl) (by kernel_rfl) (fun _ _ _ h => h) (Or.inl ⟨by rfl, ?_⟩) hHeld ?_
  rotate_left
  · (intro w' hSw; (try dsimp only at hSw); go_simp) <;> with_reducible rfl
  change wpAnyH _ _ _ _ _ _ _ (Act.put _ (some 149) _) _
  try simp only [Act.put, List.setIfInBounds_toArray, List.set_cons_zero, List.set_cons_succ]
  refine wpAnyH_take (i := 1) (v := ?_) rfl (by kernel_rfl) (by kernel_rfl) (by kernel_rfl) (fun _ _ _ h => h) (Or.inl ⟨by rfl, ?_⟩) hHeld ?_
  rotate_left
  · (intro w' hSw; (try dsimp only at hSw); go_simp) <;> with_reducible rfl
  change wpAnyH _ _ _ _ _ _ _ (Act.put _ (some 150) _) _
  try simp only [Act.put, List.setIfInBounds_toArray, List.set_cons_zero, List.set_cons_succ]
  refine wpAnyH_take (i := 2) (v := ?_) rfl (by kernel_rfl) (by kernel_rfl) (by kernel_rfl) (fun _ _ _ h => h) (Or.inl ⟨by rfl, ?_⟩) hHeld ?_
  rotate_left
  · (intro w' hSw; (try dsimp only at hSw); go_simp) <;> with_reducible rfl
  change wpAnyH _ _ _ _ _ _ _ (Act.put _ (some 151) _) _
  try simp only [Act.put, List.setIfInBounds_toArray, List.set_cons_zero, List.set_cons_succ]
  refine wpAnyH_take (i := 3) (v := ?_) rfl (by kernel_rfl) (by kernel_rfl) (by kernel_rfl) (fun _ _ _ h => h) (Or.inl ⟨by rfl, ?_⟩) hHeld ?_
  rotate_left
  · (intro w' hSw; (try dsimp only at hSw); go_simp) <;> with_reducible rfl
  change wpAnyH _ _ _ _ _ _ _ (Act.put _ (some 152) _) _
  try simp only [Act.put, List.setIfInBounds_toArray, List.set_cons_zero, List.set_cons_succ]
  refine wpAnyH_take (i := 4) (v := ?_) rfl (by kernel_rfl) (by kernel_rfl) (by kernel_rfl) (fun _ _ _ h => h) (Or.inl ⟨by rfl, ?_⟩) hHeld ?_
  rotate_left
  · (intro w' hSw; (try dsimp only at hSw); go_simp) <;> with_reducible rfl
  change wpAnyH _ _ _ _ _ _ _ (Act.put _ (some 153) _) _
  try simp only [Act.put, List.setIfInBounds_toArray, List.set_cons_zero, List.set_cons_succ]
  refine wpAnyH_take (i := 5) (v := ?_) rfl (by kernel_rfl) (by kernel_rfl) (by kernel_rfl) (fun _ _ _ h => h) (Or.inl ⟨by rfl, ?_⟩) hHeld ?_
  rotate_left
  · (intro w' hSw; (try dsimp only at hSw); go_simp) <;> with_reducible rfl
  change wpAnyH _ _ _ _ _ _ _ (Act.put _ (some 154) _) _
  try simp only [Act.put, List.setIfInBounds_toArray, List.set_cons_zero, List.set_cons_succ]
  refine wpAnyH_take (i := 6) (v := ?_) rfl (by kernel_rfl) (by kernel_rfl) (by kernel_rfl) (fun _ _ _ h => h) (Or.inl ⟨by rfl, ?_⟩) hHeld ?_
  rotate_left
  · (intro w' hSw; (try dsimp only at hSw); go_simp) <;> with_reducible rfl
  change wpAnyH _ _ _ _ _ _ _ (Act.put _ (some 155) _) _
  try simp only [Act.put, List.setIfInBounds_toArray, List.set_cons_zero, List.set_cons_succ]
  refine wpAnyH_ready (rs := [7]) (by kernel_rfl) (by simp) ?_
  refine AllReadyH.cons rfl (fun K hK => ?_) AllReadyH.nil
  go_simp
  refine HKE.out.mono ?_
  rintro e w8 ⟨rfl, hs8, u8⟩
  have e0 := cell_upd u8 g0 hxb
  have e2 := cell_upd u8 g2 hsb
  have e1 := cell_upd u8 g1' hD1b
  have y6 := hs8.st.cell (sts_get (k := q) (by simpa using HQ.out))
  rw [show (st.seats.set q (0, -1)).getD q (0, -1) = (0, -1) by simp [List.getD, List.getElem?_set_self HQ.out]] at y6
  simp only []
  refine hK.out _ _ ⟨e0, e2, e1⟩ (fun hHeld => ?_)
  clear hK K
  try simp only [Act.put, List.setIfInBounds_toArray, List.set_cons_zero, List.set_cons_succ]
  refine wpAnyH_take (i := 8) (v := ?_) rfl (by kernel_rfl) (by kernel_rfl) (by kernel_rfl) (fun _ _ _ h => h) (Or.inl ⟨by rfl, ?_⟩) hHeld ?_
  rotate_left
  · (intro w' hSw; (try dsimp only at hSw); go_simp) <;> with_reducible rfl
  change wpAnyH _ _ _ _ _ _ _ (Act.put _ (some 157) _) _
  try simp only [Act.put, List.setIfInBounds_toArray, List.set_cons_zero, List.set_cons_succ]
  refine wpAnyH_take (i := 9) (v := ?_) rfl (by kernel_rfl) (by kernel_rfl) (by kernel_rfl) (fun _ _ _ h => h) (Or.inl ⟨by rfl, ?_⟩) hHeld ?_
  rotate_left
  · (intro w' hSw; (try dsimp only at hSw); go_simp) <;> with_reducible rfl
  change wpAnyH _ _ _ _ _ _ _ (Act.put _ (some 158) _) _
  try simp only [Act.put, List.setIfInBounds_toArray, List.set_cons_zero, List.set_cons_succ]
  refine wpAnyH_take (i := 10) (v := ?_) rfl (by kernel_rfl) (by kernel_rfl) (by kernel_rfl) (fun _ _ _ h => h) (Or.inl ⟨by rfl, ?_⟩) hHeld ?_
  rotate_left
  · (intro w' hSw; (try dsimp only at hSw); go_simp) <;> with_reducible rfl
  change wpAnyH _ _ _ _ _ _ _ (Act.put _ (some 159) _) _
  try simp only [Act.put, List.setIfInBounds_toArray, List.set_cons_zero, List.set_cons_succ]
  refine wpAnyH_take (i := 11) (v := ?_) rfl (by kernel_rfl) (by kernel_rfl) (by kernel_rfl) (fun _ _ _ h => h) (Or.inl ⟨by rfl, ?_⟩) hHeld ?_
  rotate_left
  · (intro w' hSw; (try dsimp only at hSw); go_simp) <;> with_reducible rfl
  change wpAnyH _ _ _ _ _ _ _ (Act.put _ (some 160) _) _
  try simp only [Act.put, List.setIfInBounds_toArray, List.set_cons_zero, List.set_cons_succ]
  refine wpAnyH_take (i := 12) (v := ?_) rfl (by kernel_rfl) (by kernel_rfl) (by kernel_rfl) (fun _ _ _ h => h) (Or.inl ⟨by rfl, ?_⟩) hHeld ?_
  rotate_left
  · (intro w' hSw; (try dsimp only at hSw); go_simp) <;> with_reducible rfl
  change wpAnyH _ _ _ _ _ _ _ (Act.put _ (some 161) _) _
  try simp only [Act.put, List.setIfInBounds_toArray, List.set_cons_zero, List.set_cons_succ]
  refine wpAnyH_take (i := 13) (v := ?_) rfl (by kernel_rfl) (by kernel_rfl) (by kernel_rfl) (fun _ _ _ h => h) (Or.inl ⟨by rfl, ?_⟩) hHeld ?_
  rotate_left
  · (intro w' hSw; (try dsimp only at hSw); go_simp) <;> with_reducible rfl
  change wpAnyH _ _ _ _ _ _ _ (Act.put _ (some 162) _) _
  try simp only [Act.put, List.setIfInBounds_toArray, List.set_cons_zero, List.set_cons_succ]
  refine wpAnyH_take (i := 14) (v := ?_) rfl (by kernel_rfl) (by kernel_rfl) (by kernel_rfl) (fun _ _ _ h => h) (Or.inl ⟨by rfl, ?_⟩) hHeld ?_
  rotate_left
  · (intro w' hSw; (try dsimp only at hSw); go_simp) <;> with_reducible rfl
  change wpAnyH _ _ _ _ _ _ _ (Act.put _ (some 163) _) _
  try simp only [Act.put, List.setIfInBounds_toArray, List.set_cons_zero, List.set_cons_succ]
  refine wpAnyH_take (i := 15) (v := ?_) rfl (by kernel_rfl) (by kernel_rfl) (by kernel_rfl) (fun _ _ _ h => h) (Or.inl ⟨by rfl, ?_⟩) hHeld ?_
  rotate_left
  · (intro w' hSw; (try dsimp only at hSw); go_simp) <;> with_reducible rfl
  change wpAnyH _ _ _ _ _ _ _ (Act.put _ (some 164) _) _
  try simp only [Act.put, List.setIfInBounds_toArray, List.set_cons_zero, List.set_cons_succ]
  refine wpAnyH_take (i := 16) (v := ?_) rfl (by kernel_rfl) (by kernel_rfl) (by kernel_rfl) (fun _ _ _ h => h) (Or.inl ⟨by rfl, ?_⟩) hHeld ?_
  rotate_left
  · (intro w' hSw; (try dsimp only at hSw); go_simp) <;> with_reducible rfl
  change wpAnyH _ _ _ _ _ _ _ (Act.put _ (some 165) _) _
  try simp only [Act.put, List.setIfInBounds_toArray, List.set_cons_zero, List.set_cons_succ]
  refine wpAnyH_take (i := 17) (v := ?_) rfl (by kernel_rfl) (by kernel_rfl) (by kernel_rfl) (fun _ _ _ h => h) (Or.inl ⟨by rfl, ?_⟩) hHeld ?_
  rotate_left
  · (intro w' hSw; (try dsimp only at hSw); go_simp) <;> with_reducible rfl
  change wpAnyH _ _ _ _ _ _ _ (Act.put _ (some 166) _) _
  try simp only [Act.put, List.setIfInBounds_toArray, List.set_cons_zero, List.set_cons_succ]
  refine wpAnyH_take (i := 18) (v := ?_) rfl (by kernel_rfl) (by kernel_rfl) (by kernel_rfl) (fun _ _ _ h => h) (Or.inl ⟨by rfl, ?_⟩) hHeld ?_
  rotate_left
  · (intro w' hSw; (try dsimp only at hSw); go_simp) <;> with_reducible rfl
  change wpAnyH _ _ _ _ _ _ _ (Act.put _ (some 167) _) _
  try simp only [Act.put, List.setIfInBounds_toArray, List.set_cons_zero, List.set_cons_succ]
  refine wpAnyH_ready (rs := [19]) (by kernel_rfl) (by simp) ?_
  refine AllReadyH.cons rfl (fun K hK => ?_) AllReadyH.nil
  go_simp
  refine hK.out _ _ hHeld (fun hHeld => ?_)
  clear hK K
  try simp only [Act.put, List.setIfInBounds_toArray, List.set_cons_zero, List.set_cons_succ]
  refine wpAnyH_take (i := 20) (v := ?_) rfl (by kernel_rfl) (by kernel_rfl) (by kernel_rfl) (fun _ _ _ h => h) (Or.inl ⟨by rfl, ?_⟩) hHeld ?_
  rotate_left
  · (intro w' hSw; (try dsimp only at hSw); go_simp) <;> with_reducible rfl
  change wpAnyH _ _ _ _ _ _ _ (Act.put _ (some 169) _) _
  try simp only [Act.put, List.setIfInBounds_toArray, List.set_cons_zero, List.set_cons_succ]
  refine wpAnyH_take (i := 21) (v := ?_) rfl (by kernel_rfl) (by kernel_rfl) (by kernel_rfl) (fun _ _ _ h => h) (Or.inl ⟨by rfl, ?_⟩) hHeld ?_
  rotate_left
  · (intro w' hSw; (try dsimp only at hSw); go_simp) <;> with_reducible rfl
  change wpAnyH _ _ _ _ _ _ _ (Act.put _ (some 170) _) _
  try simp only [Act.put, List.setIfInBounds_toArray, List.set_cons_zero, List.set_cons_succ]
  refine wpAnyH_done (by kernel_rfl) ?_ _
  have A8 := (A7.keep ((Upd.refl (fun _ => False) _).drewN 1) (fun _ _ => id)).seats HLEN.out hs8 u8
  have R8 := (R7.drewN 1).upd u8 hD1b
  have Q8 := (Q7.drewN 1).upd u8 hDb
  have g8 := (g7.drewN 1).keep u8 (fun i hi => HGB.out i hi)
  have up8 : Upd (fun i => fm x sx sb db pc ob i ∨ R i) w w8 := (up7.drewN 1).trans (u8.mono fun i _ e => by rcases e with rfl | rfl <;> simp [fm])
  clear e0 e1 e2 g0 g1' g2 A7 R7 Q7 g7 up7 u8 hs8 y6
  have t3 := A8.top.cell (i := 3) rfl
  rw [HLEN.out] at t3
  have t4 := A8.prow.cell (ii_get (t := q) (by rw [A8.l1, HLEN.out]; exact HQ.out))
  have t5 := A8.prow.frozen q
  have U9 := Upd.one w8 pc q (.int .i64 0)
  have A9 := A8.setPc q 0
  have R9 := R8.upd U9 (fun e => hDm1 pc (by simp [fm]) e.symm)
  have Q9 := Q8.upd U9 (fun e => hDm pc (by simp [fm]) e.symm)
  have g9 := g8.keep U9 (fun i hi e => (HRS.out i hi).2.2.2.1 e)
  have up9 := up8.trans (U9.mono fun i _ e => (by rw [e]; simp [fm] : fm x sx sb db pc ob i ∨ R i))
  go_upto_region 21 with (fail)
  obtain ⟨w9, hw9⟩ : ∃ w', w8.setCell ⟨pc, q, none⟩ (.int .i64 0) = w' := ⟨_, rfl⟩
  rw [hw9] at A9 R9 Q9 g9 up9 ⊢
  clear t3 t4 t5 hw9 A8 R8 Q8 g8 up8 U9
  have y0 := R9.cell (i := 0) rfl
  have y1 := R9.cell (i := 1) rfl
  have y2 := R9.cell (i := 2) rfl
  have y3 := R9.cell (i := 3) rfl
  have z0 := Q9.cell (i := 0) rfl
  have z1 := Q9.cell (i := 1) rfl
  have z2 := Q9.cell (i := 2) rfl
  have z3 := Q9.cell (i := 3) rfl
  have k0 := Q9.frozen 0
  have k1 := Q9.frozen 1
  have k2 := Q9.frozen 2
  have k3 := Q9.frozen 3
  go_wp2_with fail
  have RE := did4 Q9 (.int .i64 3) (.int .i64 0) (.int .i64 0) (.int .i64 0)
  have UE := upd4 w9 D (.int .i64 3) (.int .i64 0) (.int .i64 0) (.int .i64 0)
  obtain ⟨wz, hwz⟩ : ∃ wz, (((w9.setCell ⟨D, 0, none⟩ (.int .i64 3)).setCell ⟨D, 1, none⟩ (.int .i64 0)).setCell ⟨D, 2, none⟩ (.int .i64 0)).setCell ⟨D, 3, none⟩ (.int .i64 0) = wz := ⟨_, rfl⟩
  rw [hwz] at RE UE ⊢
  have g0 := RE.cell (i := 0) rfl
  have g1 := RE.cell (i := 1) rfl
  have g2 := RE.cell (i := 2) rfl
  have g3 := RE.cell (i := 3) rfl
  refine bodyPost_ret (v := didm (3, false, false, false)) (by simp [results, Try.results99, go_sem, didm, b2i, g0, g1, g2, g3]) rfl ?_
  rw [TL.out.step]
  dsimp only
  refine ⟨rfl, ⟨_, by rw [TL.out.seats, TL.out.pl]; exact A9.keep UE (fun i hi e => hDm i hi e), TL.out.rel⟩, R', by rw [TL.out.ws, TL.out.ts]; exact g9.keep UE (fun i hi e => (HRS.out i hi).2.2.2.2 e), up9.then UE (fun i hi e => by have := HD.out; omega), fun i hi => ?_⟩
  rcases (HRS.out i hi).1 with h | h
  · exact .inl h
  · exact .inr (by omega)
set_option maxHeartbeats 16000000 in
set_option maxRecDepth 40000 in
theorem stepC {w : World} {st : St} {ol : List Int} {y n : Nat} {R : Nat → Prop} (h : MAt x sx sb db pc ob kn w st.seats (pcl st) ol) (hrel : Rel kn st ol) (hpl : st.pls.length = st.seats.length) (hn : st.seats.length = n) (n8 : n ≤ 8) (hkn : IsSize kn) (hR : Ref04.RO w y R n st.ws st.ts) (hd : ∀ i, R i → ¬ fm x sx sb db pc ob i) (hf : st.ts.length < 1000000) (hws : st.ws.length ≤ 100000) (q : Nat) (hq : q < st.seats.length) (now : Int) (z : Int) (hz : state st.seats (q : Int) = z) (hz1 : z ≠ 1) (hz3 : z ≠ 3) :
    Calls Try.prog 99 #[.pointer (some ⟨x, 0, none⟩), .pointer (some ⟨y, 0, none⟩), .int .i64 q, .int .i64 q, .int .i64 now] w fun e w' =>
      e = .returned (didm (Slots.step n 0 kn st (q : Int) (q : Int) now).1) ∧ (∃ ol', MAt x sx sb db pc ob kn w' (Slots.step n 0 kn st (q : Int) (q : Int) now).2.seats (pcl (Slots.step n 0 kn st (q : Int) (q : Int) now).2) ol' ∧ Rel kn (Slots.step n 0 kn st (q : Int) (q : Int) now).2 ol') ∧
      ∃ R', Ref04.RO w' y R' n (Slots.step n 0 kn st (q : Int) (q : Int) now).2.ws (Slots.step n 0 kn st (q : Int) (q : Int) now).2.ts ∧ Upd (fun i => fm x sx sb db pc ob i ∨ R i) w w' ∧ ∀ i, R' i → R i ∨ w.heap.size ≤ i := by
  have c0 := h.top.cell (i := 0) rfl
  have c3 := h.top.cell (i := 3) rfl
  have hxl := h.top.lt
  have D1 : Upd (fun _ => False) w ((w.alloc (.cells #[.int .i64 0, .int .i64 0, .int .i64 0, .int .i64 0] 139)).alloc (.cells #[.int .i64 0, .int .i64 0, .int .i64 0, .int .i64 0] 139)) := ((Upd.refl _ w).alloc _).alloc _
  have h1 := h.keep D1 (fun _ _ => id)
  have g1 := hR.keep D1 (fun _ _ => id)
  have R0 : Row ((w.alloc (.cells #[.int .i64 0, .int .i64 0, .int .i64 0, .int .i64 0] 139)).alloc (.cells #[.int .i64 0, .int .i64 0, .int .i64 0, .int .i64 0] 139)) w.heap.size [.int .i64 0, .int .i64 0, .int .i64 0, .int .i64 0] := (Row.new' rfl).alloc _
  have R1 : Row ((w.alloc (.cells #[.int .i64 0, .int .i64 0, .int .i64 0, .int .i64 0] 139)).alloc (.cells #[.int .i64 0, .int .i64 0, .int .i64 0, .int .i64 0] 139)) (w.heap.size + 1) [.int .i64 0, .int .i64 0, .int .i64 0, .int .i64 0] := Row.new' (by simp)
  have up1 : Upd (fun i => fm x sx sb db pc ob i ∨ R i) w ((w.alloc (.cells #[.int .i64 0, .int .i64 0, .int .i64 0, .int .i64 0] 139)).alloc (.cells #[.int .i64 0, .int .i64 0, .int .i64 0, .int .i64 0] 139)) := D1.mono fun _ _ z => z.elim
  have hlm := h.lt
  have hlr := hR.lt
  have b1 : decide ((q : Int) < 0) = false := by rw [decide_eq_false_iff_not]; omega
  have b2 : decide ((st.seats.length : Int) ≤ (q : Int)) = false := by rw [decide_eq_false_iff_not]; omega
  have b3 : decide (st.seats.length ≤ q) = false := by rw [decide_eq_false_iff_not]; omega
  have hqn : q < n := by omega
  have HF := Lib.hid hf
  have HN := Lib.hid hn
  have HK64 := Lib.hid (show n ≤ 64 by omega)
  have HWS := Lib.hid hws
  have HKN := Lib.hid (size_pos hkn)
  obtain ⟨D, hD⟩ : ∃ D, w.heap.size = D := ⟨_, rfl⟩
  have HD := Lib.hid hD
  obtain ⟨W, hW⟩ : ∃ W, (w.alloc (.cells #[.int .i64 0, .int .i64 0, .int .i64 0, .int .i64 0] 139)).alloc (.cells #[.int .i64 0, .int .i64 0, .int .i64 0, .int .i64 0] 139) = W := ⟨_, rfl⟩
  rw [hD] at R0 R1 hlm hlr
  rw [hW] at h1 g1 R0 R1 up1
  have HW := Lib.hid hW
  have HLM := Lib.hid hlm
  have HLR := Lib.hid hlr
  have HDD := Lib.hid hd
  have hWD : D + 2 = W.heap.size := by rw [← hW, ← hD]; simp
  have HWD := Lib.hid hWD
  have UP1 := Lib.hid up1
  have HQ := Lib.hid hq
  have hqo : q < ol.length := by rw [h.l2]; exact hq
  have hqp : q < st.pls.length := by rw [hpl]; exact hq
  obtain ⟨st2, tl⟩ := toldC (n := n) (now := now) hrel (by rw [hz]; exact hz1) (by rw [hz]; exact hz3)
  have TL := Lib.hid tl
  have hzq : (st.seats.getD q (0, -1)).1 = z := by
    have e := hz
    unfold state at e
    rw [inB_mk hq, if_pos rfl, Int.toNat_natCast] at e; exact e
  have owd := h.wd q
  obtain ⟨ov, hov⟩ : ∃ ov, ol.getD q 0 = ov := ⟨_, rfl⟩
  rw [hov] at owd
  clear tl hf hn hws n8 hW hD hlm hlr hd hrel hpl hkn hqn D1 up1 hWD h hR hqp
  go_enter Try.func99, Try.ntmps99
  go_upto_region 4 with (fail)
  rw [HW.out, HD.out]
  clear c0 c3 hxl b1 b2 b3
  have hq1 : (0 : Int) ≤ (q : Int) := by omega
  have hq2 : (q : Int) < (st.seats.length : Int) := by omega
  have c0 := h1.top.cell (i := 0) rfl
  have c1 := h1.top.cell (i := 1) rfl
  have c2 := h1.top.cell (i := 2) rfl
  have c3 := h1.top.cell (i := 3) rfl
  have c4 := h1.top.cell (i := 4) rfl
  obtain ⟨cs, cd, htop⟩ := h1.seat.top
  have s0 := htop.cell (i := 0) rfl
  have s1 := h1.seat.st.cell (sts_get hq)
  rw [hzq] at s1
  have p1 := h1.prow.cell (ii_get (t := q) (by rw [h1.l1]; exact hq))
  rw [pcl_get] at p1
  have o1 := h1.orow.cell (ii_get (t := q) hqo)
  rw [hov] at o1
  have hDm : ∀ i, fm x sx sb db pc ob i → i ≠ D := fun i hi e => by have := HLM.out i hi; omega
  have hDm1 : ∀ i, fm x sx sb db pc ob i → i ≠ D + 1 := fun i hi e => by have := HLM.out i hi; omega
  have nR : ∀ i, fm x sx sb db pc ob i → ¬ R i := fun i hi h => HDD.out i h hi
  have nx := nR x (by simp [fm])
  have no := nR ob (by simp [fm])
  have np := nR pc (by simp [fm])
  have nsx := nR sx (by simp [fm])
  have nsb := nR sb (by simp [fm])
  have nD : ¬ R D := fun h => by have := HLR.out D h; omega
  have nD1 : ¬ R (D + 1) := fun h => by have := HLR.out _ h; omega
  have HQO := Lib.hid hqo
  clear hz hzq hov nR htop hqo
  have e1 : (z == 3) = false := by simpa using hz3
  have e2 : (z == 1) = false := by simpa using hz1
  have HRS : Hid (∀ i, R i → (R i ∨ w.heap.size + 2 ≤ i) ∧ i ≠ D + 1 ∧ i ≠ ob ∧ i ≠ pc ∧ i ≠ D) := Lib.hid fun i hi => ⟨.inl hi, by have := HLR.out i hi; omega, fun e => HDD.out i hi (by rw [e]; simp [fm]), fun e => HDD.out i hi (by rw [e]; simp [fm]), by have := HLR.out i hi; omega⟩
  have up5 := UP1.out
  clear hz1 hz3
  go_upto_region 19 with (fail)
  clear c0 c1 c2 c3 c4 s0 s1 o1 p1
  have g0 := h1.top.cell (i := 0) rfl
  have g1' := R1.cell (i := 0) rfl
  obtain ⟨cs', cd', htop5⟩ := h1.seat.top
  have g2 := htop5.cell (i := 0) rfl
  have KE := rend_all _ _ _ _ _ _ _ (h1.seat.drewN 1) q 0
  rw [show fin st.seats (q : Int) 0 = (false, st.seats) from fin00 _ _, show b2i ((false, st.seats) : Bool × List (Int × Int)).1 = 0 from rfl] at KE
  have hxb : ¬ (x = sb ∨ x = db) := fun e => by rcases e with e | e; exact h1.e1.2.1 e; exact h1.e1.2.2.1 e
  have hsb : ¬ (sx = sb ∨ sx = db) := fun e => by rcases e with e | e; exact h1.seat.ne1 e; exact h1.seat.ne2 e
  have hDb : ¬ (D = sb ∨ D = db) := fun e => by rcases e with e | e; exact hDm sb (by simp [fm]) e.symm; exact hDm db (by simp [fm]) e.symm
  have hD1b : ¬ (D + 1 = sb ∨ D + 1 = db) := fun e => by rcases e with e | e; exact hDm1 sb (by simp [fm]) e.symm; exact hDm1 db (by simp [fm]) e.symm
  have hpn : pc ≠ D ∧ pc ≠ D + 1 := ⟨hDm pc (by simp [fm]), hDm1 pc (by simp [fm])⟩
  have HKE := Lib.hid KE
  have HPN := Lib.hid hpn
  have HGB : Hid (∀ i, R i → ¬ (i = sb ∨ i = db)) := Lib.hid fun i hi e => by
    have hf : fm x sx sb db pc ob i := by rcases e with rfl | rfl <;> simp [fm]
    rcases (HRS.out i hi).1 with h | h
    · exact HDD.out i h hf
    · have := HLM.out i hf; have := HD.out; omega
  have HLEN : Hid ((st.seats).length = st.seats.length) := Lib.hid (by simp)
  clear KE htop5 hpn
  refine wp_region_held_drew (S := fun w' => w'.cell? ⟨x, 0, none⟩ = some (.pointer (some ⟨sx, 0, none⟩)) ∧ w'.cell? ⟨sx, 0, none⟩ = some (.slice (some ⟨sb, 0, none⟩) st.seats.length cs') ∧ w'.cell? ⟨D + 1, 0, none⟩ = some (.int .i64 0)) (by kernel_rfl) ⟨g0, g2, g1'⟩ (fun hHeld => ?_)
  refine wpAnyH_take (i := 0) (v := ?_) rfl (by kernel_rfl) (by kernel_rfl) (by kernel_rfl) (fun _ _ _ h => h) (Or.inl ⟨by rfl, ?_⟩) hHeld ?_
  rotate_left
  · (intro w' hSw; (try dsimp only at hSw); go_simp) <;> with_reducible rfl
  change wpAnyH _ _ _ _ _ _ _ (Act.put _ (some 149) _) _
  try simp only [Act.put, List.setIfInBounds_toArray, List.set_cons_zero, List.set_cons_succ]
  refine wpAnyH_take (i := 1) (v := ?_) rfl (by kernel_rfl) (by kernel_rfl) (by kernel_rfl) (fun _ _ _ h => h) (Or.inl ⟨by rfl, ?_⟩) hHeld ?_
  rotate_left
  · (intro w' hSw; (try dsimp only at hSw); go_simp) <;> with_reducible rfl
  change wpAnyH _ _ _ _ _ _ _ (Act.put _ (some 150) _) _
  try simp only [Act.put, List.setIfInBounds_toArray, List.set_cons_zero, List.set_cons_succ]
  refine wpAnyH_take (i := 2) (v := ?_) rfl (by kernel_rfl) (by kernel_rfl) (by kernel_rfl) (fun _ _ _ h => h) (Or.inl ⟨by rfl, ?_⟩) hHeld ?_
  rotate_left
  · (intro w' hSw; (try dsimp only at hSw); go_simp) <;> with_reducible rfl
  change wpAnyH _ _ _ _ _ _ _ (Act.put _ (some 151) _) _
  try simp only [Act.put, List.setIfInBounds_toArray, List.set_cons_zero, List.set_cons_succ]
  refine wpAnyH_take (i := 3) (v := ?_) rfl (by kernel_rfl) (by kernel_rfl) (by kernel_rfl) (fun _ _ _ h => h) (Or.inl ⟨by rfl, ?_⟩) hHeld ?_
  rotate_left
  · (intro w' hSw; (try dsimp only at hSw); go_simp) <;> with_reducible rfl
  change wpAnyH _ _ _ _ _ _ _ (Act.put _ (some 152) _) _
  try simp only [Act.put, List.setIfInBounds_toArray, List.set_cons_zero, List.set_cons_succ]
  refine wpAnyH_take (i := 4) (v := ?_) rfl (by kernel_rfl) (by kernel_rfl) (by kernel_rfl) (fun _ _ _ h => h) (Or.inl ⟨by rfl, ?_⟩) hHeld ?_
  rotate_left
  · (intro w' hSw; (try dsimp only at hSw); go_simp) <;> with_reducible rfl
  change wpAnyH _ _ _ _ _ _ _ (Act.put _ (some 153) _) _
  try simp only [Act.put, List.setIfInBounds_toArray, List.set_cons_zero, List.set_cons_succ]
  refine wpAnyH_take (i := 5) (v := ?_) rfl (by kernel_rfl) (by kernel_rfl) (by kernel_rfl) (fun _ _ _ h => h) (Or.inl ⟨by rfl, ?_⟩) hHeld ?_
  rotate_left
  · (intro w' hSw; (try dsimp only at hSw); go_simp) <;> with_reducible rfl
  change wpAnyH _ _ _ _ _ _ _ (Act.put _ (some 154) _) _
  try simp only [Act.put, List.setIfInBounds_toArray, List.set_cons_zero, List.set_cons_succ]
  refine wpAnyH_take (i := 6) (v := ?_) rfl (by kernel_rfl) (by kernel_rfl) (by kernel_rfl) (fun _ _ _ h => h) (Or.inl ⟨by rfl, ?_⟩) hHeld ?_
  rotate_left
  · (intro w' hSw; (try dsimp only at hSw); go_simp) <;> with_reducible rfl
  change wpAnyH _ _ _ _ _ _ _ (Act.put _ (some 155) _) _
  try simp only [Act.put, List.setIfInBounds_toArray, List.set_cons_zero, List.set_cons_succ]
  refine wpAnyH_ready (rs := [7]) (by kernel_rfl) (by simp) ?_
  refine AllReadyH.cons rfl (fun K hK => ?_) AllReadyH.nil
  go_simp
  refine HKE.out.mono ?_
  rintro e w8 ⟨rfl, hs8, u8⟩
  have e0 := cell_upd u8 g0 hxb
  have e2 := cell_upd u8 g2 hsb
  have e1 := cell_upd u8 g1' hD1b
  simp only []
  refine hK.out _ _ ⟨e0, e2, e1⟩ (fun hHeld => ?_)
  clear hK K
  try simp only [Act.put, List.setIfInBounds_toArray, List.set_cons_zero, List.set_cons_succ]
  refine wpAnyH_take (i := 8) (v := ?_) rfl (by kernel_rfl) (by kernel_rfl) (by kernel_rfl) (fun _ _ _ h => h) (Or.inl ⟨by rfl, ?_⟩) hHeld ?_
  rotate_left
  · (intro w' hSw; (try dsimp only at hSw); go_simp) <;> with_reducible rfl
  change wpAnyH _ _ _ _ _ _ _ (Act.put _ (some 157) _) _
  try simp only [Act.put, List.setIfInBounds_toArray, List.set_cons_zero, List.set_cons_succ]
  refine wpAnyH_take (i := 9) (v := ?_) rfl (by kernel_rfl) (by kernel_rfl) (by kernel_rfl) (fun _ _ _ h => h) (Or.inl ⟨by rfl, ?_⟩) hHeld ?_
  rotate_left
  · (intro w' hSw; (try dsimp only at hSw); go_simp) <;> with_reducible rfl
  change wpAnyH _ _ _ _ _ _ _ (Act.put _ (some 158) _) _
  try simp only [Act.put, List.setIfInBounds_toArray, List.set_cons_zero, List.set_cons_succ]
  refine wpAnyH_take (i := 10) (v := undef) rfl (by kernel_rfl) (by kernel_rfl) (by kernel_rfl) (fun _ _ _ h => h) (Or.inr ⟨by kernel_rfl, rfl⟩) hHeld ?_
  change wpAnyH _ _ _ _ _ _ _ (Act.put _ (some 159) _) _
  try simp only [Act.put, List.setIfInBounds_toArray, List.set_cons_zero, List.set_cons_succ]
  refine wpAnyH_take (i := 11) (v := undef) rfl (by kernel_rfl) (by kernel_rfl) (by kernel_rfl) (fun _ _ _ h => h) (Or.inr ⟨by kernel_rfl, rfl⟩) hHeld ?_
  change wpAnyH _ _ _ _ _ _ _ (Act.put _ (some 160) _) _
  try simp only [Act.put, List.setIfInBounds_toArray, List.set_cons_zero, List.set_cons_succ]
  refine wpAnyH_take (i := 12) (v := undef) rfl (by kernel_rfl) (by kernel_rfl) (by kernel_rfl) (fun _ _ _ h => h) (Or.inr ⟨by kernel_rfl, rfl⟩) hHeld ?_
  change wpAnyH _ _ _ _ _ _ _ (Act.put _ (some 161) _) _
  try simp only [Act.put, List.setIfInBounds_toArray, List.set_cons_zero, List.set_cons_succ]
  refine wpAnyH_take (i := 13) (v := undef) rfl (by kernel_rfl) (by kernel_rfl) (by kernel_rfl) (fun _ _ _ h => h) (Or.inr ⟨by kernel_rfl, rfl⟩) hHeld ?_
  change wpAnyH _ _ _ _ _ _ _ (Act.put _ (some 162) _) _
  try simp only [Act.put, List.setIfInBounds_toArray, List.set_cons_zero, List.set_cons_succ]
  refine wpAnyH_take (i := 14) (v := undef) rfl (by kernel_rfl) (by kernel_rfl) (by kernel_rfl) (fun _ _ _ h => h) (Or.inr ⟨by kernel_rfl, rfl⟩) hHeld ?_
  change wpAnyH _ _ _ _ _ _ _ (Act.put _ (some 163) _) _
  try simp only [Act.put, List.setIfInBounds_toArray, List.set_cons_zero, List.set_cons_succ]
  refine wpAnyH_take (i := 15) (v := undef) rfl (by kernel_rfl) (by kernel_rfl) (by kernel_rfl) (fun _ _ _ h => h) (Or.inr ⟨by kernel_rfl, rfl⟩) hHeld ?_
  change wpAnyH _ _ _ _ _ _ _ (Act.put _ (some 164) _) _
  try simp only [Act.put, List.setIfInBounds_toArray, List.set_cons_zero, List.set_cons_succ]
  refine wpAnyH_take (i := 16) (v := undef) rfl (by kernel_rfl) (by kernel_rfl) (by kernel_rfl) (fun _ _ _ h => h) (Or.inr ⟨by kernel_rfl, rfl⟩) hHeld ?_
  change wpAnyH _ _ _ _ _ _ _ (Act.put _ (some 165) _) _
  try simp only [Act.put, List.setIfInBounds_toArray, List.set_cons_zero, List.set_cons_succ]
  refine wpAnyH_take (i := 17) (v := undef) rfl (by kernel_rfl) (by kernel_rfl) (by kernel_rfl) (fun _ _ _ h => h) (Or.inr ⟨by kernel_rfl, rfl⟩) hHeld ?_
  change wpAnyH _ _ _ _ _ _ _ (Act.put _ (some 166) _) _
  try simp only [Act.put, List.setIfInBounds_toArray, List.set_cons_zero, List.set_cons_succ]
  refine wpAnyH_take (i := 18) (v := undef) rfl (by kernel_rfl) (by kernel_rfl) (by kernel_rfl) (fun _ _ _ h => h) (Or.inr ⟨by kernel_rfl, rfl⟩) hHeld ?_
  change wpAnyH _ _ _ _ _ _ _ (Act.put _ (some 167) _) _
  try simp only [Act.put, List.setIfInBounds_toArray, List.set_cons_zero, List.set_cons_succ]
  refine wpAnyH_take (i := 19) (v := undef) rfl (by kernel_rfl) (by kernel_rfl) (by kernel_rfl) (fun _ _ _ h => h) (Or.inr ⟨by kernel_rfl, rfl⟩) hHeld ?_
  change wpAnyH _ _ _ _ _ _ _ (Act.put _ (some 168) _) _
  try simp only [Act.put, List.setIfInBounds_toArray, List.set_cons_zero, List.set_cons_succ]
  refine wpAnyH_take (i := 20) (v := undef) rfl (by kernel_rfl) (by kernel_rfl) (by kernel_rfl) (fun _ _ _ h => h) (Or.inr ⟨by kernel_rfl, rfl⟩) hHeld ?_
  change wpAnyH _ _ _ _ _ _ _ (Act.put _ (some 169) _) _
  try simp only [Act.put, List.setIfInBounds_toArray, List.set_cons_zero, List.set_cons_succ]
  refine wpAnyH_take (i := 21) (v := ?_) rfl (by kernel_rfl) (by kernel_rfl) (by kernel_rfl) (fun _ _ _ h => h) (Or.inl ⟨by rfl, ?_⟩) hHeld ?_
  rotate_left
  · (intro w' hSw; (try dsimp only at hSw); go_simp) <;> with_reducible rfl
  change wpAnyH _ _ _ _ _ _ _ (Act.put _ (some 170) _) _
  try simp only [Act.put, List.setIfInBounds_toArray, List.set_cons_zero, List.set_cons_succ]
  refine wpAnyH_done (by kernel_rfl) ?_ _
  have A8 := (h1.keep ((Upd.refl (fun _ => False) _).drewN 1) (fun _ _ => id)).seats HLEN.out hs8 u8
  have R8 := (R1.drewN 1).upd u8 hD1b
  have Q8 := (R0.drewN 1).upd u8 hDb
  have g8 := (g1.drewN 1).keep u8 (fun i hi => HGB.out i hi)
  have up8 : Upd (fun i => fm x sx sb db pc ob i ∨ R i) w w8 := (up5.drewN 1).trans (u8.mono fun i _ e => by rcases e with rfl | rfl <;> simp [fm])
  clear e0 e1 e2 g0 g1' g2 h1 R1 R0 g1 up5 u8 hs8
  have y0 := R8.cell (i := 0) rfl
  have y1 := R8.cell (i := 1) rfl
  have y2 := R8.cell (i := 2) rfl
  have y3 := R8.cell (i := 3) rfl
  have z0 := Q8.cell (i := 0) rfl
  have z1 := Q8.cell (i := 1) rfl
  have z2 := Q8.cell (i := 2) rfl
  have z3 := Q8.cell (i := 3) rfl
  have k0 := Q8.frozen 0
  have k1 := Q8.frozen 1
  have k2 := Q8.frozen 2
  have k3 := Q8.frozen 3
  go_wp2_with fail
  have RE := did4 Q8 (.int .i64 0) (.int .i64 0) (.int .i64 0) (.int .i64 0)
  have UE := upd4 w8 D (.int .i64 0) (.int .i64 0) (.int .i64 0) (.int .i64 0)
  obtain ⟨wz, hwz⟩ : ∃ wz, (((w8.setCell ⟨D, 0, none⟩ (.int .i64 0)).setCell ⟨D, 1, none⟩ (.int .i64 0)).setCell ⟨D, 2, none⟩ (.int .i64 0)).setCell ⟨D, 3, none⟩ (.int .i64 0) = wz := ⟨_, rfl⟩
  rw [hwz] at RE UE ⊢
  have g0 := RE.cell (i := 0) rfl
  have g1 := RE.cell (i := 1) rfl
  have g2 := RE.cell (i := 2) rfl
  have g3 := RE.cell (i := 3) rfl
  refine bodyPost_ret (v := didm (0, false, false, false)) (by simp [results, Try.results99, go_sem, didm, b2i, g0, g1, g2, g3]) rfl ?_
  rw [TL.out.step]
  dsimp only
  refine ⟨rfl, ⟨_, by rw [TL.out.seats, TL.out.pl]; exact A8.keep UE (fun i hi e => hDm i hi e), TL.out.rel⟩, R, by rw [TL.out.ws, TL.out.ts]; exact g8.keep UE (fun i hi e => (HRS.out i hi).2.2.2.2 e), up8.then UE (fun i hi e => by have := HD.out; omega), fun i hi => ?_⟩
  rcases (HRS.out i hi).1 with h | h
  · exact .inl h
  · exact .inr (by omega)
set_option maxHeartbeats 8000000 in
set_option maxRecDepth 40000 in
theorem stepX {w : World} {st : St} {ol : List Int} {y n : Nat} {R : Nat → Prop} (h : MAt x sx sb db pc ob kn w st.seats (pcl st) ol) (hrel : Rel kn st ol) (hR : Ref04.RO w y R n st.ws st.ts) (t now : Int) (hin : inB t st.seats.length = false) :
    Calls Try.prog 99 #[.pointer (some ⟨x, 0, none⟩), .pointer (some ⟨y, 0, none⟩), .int .i64 t, .int .i64 t, .int .i64 now] w fun e w' =>
      e = .returned (didm (Slots.step n 0 kn st t t now).1) ∧ (∃ ol', MAt x sx sb db pc ob kn w' (Slots.step n 0 kn st t t now).2.seats (pcl (Slots.step n 0 kn st t t now).2) ol' ∧ Rel kn (Slots.step n 0 kn st t t now).2 ol') ∧
      ∃ R', Ref04.RO w' y R' n (Slots.step n 0 kn st t t now).2.ws (Slots.step n 0 kn st t t now).2.ts ∧ Upd (fun i => fm x sx sb db pc ob i ∨ R i) w w' ∧ ∀ i, R' i → R i ∨ w.heap.size ≤ i := by
  have c0 := h.top.cell (i := 0) rfl
  have c3 := h.top.cell (i := 3) rfl
  have hxl := h.top.lt
  have hz : state st.seats t = 0 := by unfold state; rw [hin]; rfl
  have idle : Slots.step n 0 kn st t t now = ((0, false, false, false), st) := by
    have E : midS n 0 kn st t t = ((0, false, false, false), st) := by unfold midS; rw [if_neg (by rw [hz]; decide), if_neg (by rw [hz]; decide)]
    unfold Slots.step
    rw [E]
    dsimp only
    rw [fin_none]
  rw [idle]
  clear idle
  have fin0 : ∀ w', Below w.heap.size w w' → (∃ ol', MAt x sx sb db pc ob kn w' st.seats (pcl st) ol' ∧ Rel kn st ol') ∧ ∃ R', Ref04.RO w' y R' n st.ws st.ts ∧ Upd (fun i => fm x sx sb db pc ob i ∨ R i) w w' ∧ ∀ i, R' i → R i ∨ w.heap.size ≤ i := fun w' hB =>
    ⟨⟨ol, h.keep (Upd.of_below (S := fun _ => False) hB) (fun _ _ => id), hrel⟩, R, hR.below hB, Upd.of_below hB, fun i hi => .inl hi⟩
  have FIN := Lib.hid fin0
  have hb : ∀ o : Obj, Below w.heap.size w (w.alloc o) := fun o => (Below.refl _ _).alloc (Nat.le_refl _) _
  clear fin0 h hR hz hrel
  by_cases t0 : t < 0
  · go_enter Try.func99, Try.ntmps99
    go_wp2_with fail
    refine bodyPost_ret (v := didm (0, false, false, false)) (by simp [results, Try.results99, go_sem, didm, b2i]) rfl ?_
    exact ⟨rfl, FIN.out _ (hb _)⟩
  · have t1 : (st.seats.length : Int) ≤ t := by simp [inB] at hin; omega
    have t0' : decide (t < 0) = false := by simpa using t0
    clear hin
    go_enter Try.func99, Try.ntmps99
    go_wp2_with fail
    refine bodyPost_ret (v := didm (0, false, false, false)) (by simp [results, Try.results99, go_sem, didm, b2i]) rfl ?_
    exact ⟨rfl, FIN.out _ (hb _)⟩
theorem stepR {w : World} {st : St} {ol : List Int} {y n : Nat} {R : Nat → Prop} (h : MAt x sx sb db pc ob kn w st.seats (pcl st) ol) (hrel : Rel kn st ol) (hheld : Held st) (hok : Ok st.pls) (hpl : st.pls.length = st.seats.length) (hn : st.seats.length = n) (n8 : n ≤ 8) (hkn : IsSize kn) (hR : Ref04.RO w y R n st.ws st.ts) (hd : ∀ i, R i → ¬ fm x sx sb db pc ob i) (hf : st.ts.length < 1000000) (hws : st.ws.length ≤ 100000) (hwd : Mem.Wd st.ws) (t now : Int) :
    Calls Try.prog 99 #[.pointer (some ⟨x, 0, none⟩), .pointer (some ⟨y, 0, none⟩), .int .i64 t, .int .i64 t, .int .i64 now] w fun e w' =>
      e = .returned (didm (Slots.step n 0 kn st t t now).1) ∧ (∃ ol', MAt x sx sb db pc ob kn w' (Slots.step n 0 kn st t t now).2.seats (pcl (Slots.step n 0 kn st t t now).2) ol' ∧ Rel kn (Slots.step n 0 kn st t t now).2 ol') ∧
      ∃ R', Ref04.RO w' y R' n (Slots.step n 0 kn st t t now).2.ws (Slots.step n 0 kn st t t now).2.ts ∧ Upd (fun i => fm x sx sb db pc ob i ∨ R i) w w' ∧ ∀ i, R' i → R i ∨ w.heap.size ≤ i := by
  cases hin : inB t st.seats.length with
  | false => exact stepX h hrel hR t now hin
  | true =>
    obtain ⟨q, rfl, hq⟩ := inB_nat hin
    obtain ⟨_, h3⟩ := hok q (by rw [hpl]; exact hq)
    by_cases z1 : state st.seats (q : Int) = 1
    · rcases h3 with e | e | e
      · exact stepA0 h hrel hpl hn n8 hkn hR hd hf hws q hq now z1 e hwd
      · by_cases hg : rd n st.ws q (1 + ol.getD q 0) = 0
        · exact stepA1z h hrel hpl hn n8 hkn hR hd hf hws q hq now z1 e hg
        · exact stepA1n h hrel hpl hn n8 hkn hR hd hf hws q hq now z1 e hg
      · exact stepA2 h hrel hpl hn n8 hkn hR hd hf hws q hq now z1 e
    · by_cases z3 : state st.seats (q : Int) = 3
      · exact stepB h hrel hok hpl hn n8 hkn hR hd hf hws q hq now z3 (hheld q (.inr (by rw [← state_nat]; exact z3)))
      · exact stepC h hrel hpl hn n8 hkn hR hd hf hws q hq now _ rfl z1 z3
end Go.Proofs.Ytamchnaifmoklaa.Ref11
