/- The document's queue lock of queues: a step of a call for the lock, by value: the same as the program's. -/
import Derived.Test.YtmiidiijhhjabaaRef15
import Derived.Deep.RegionHeld3
namespace Go.Proofs.Ytmiidiijhhjabaa.Ref15
open Go Go.RowKit Go.Proofs.Ytmiidiijhhjabaa.Heap Go.Proofs.Ytmiidiijhhjabaa.Open Go.Proofs.Ytmiidiijhhjabaa.Seat Go.Proofs.Ytmiidiijhhjabaa.Mach Go.Proofs.Ytmiidiijhhjabaa.Has Go.Proofs.Ytmiidiijhhjabaa.Ref09 Go.Proofs.Ytmiidiijhhjabaa.Modl Go.Proofs.Ytmiidiijhhjabaa.SeatP Go.Proofs.Ytmiidiijhhjabaa.StepU Go.Proofs.Ytmiidiijhhjabaa.Hier
variable {b : Bk}
theorem pls_same (l : List P) (t : Nat) (h : t < l.length) : l.set t (l.getD t p0) = l := by
  rw [List.getD, List.getElem?_eq_getElem h]; simp
set_option maxHeartbeats 16000000 in
set_option maxRecDepth 20000 in
theorem lock0 {w : World} {st : St} {y n q : Nat} {R : Nat → Prop} (h : MAt b w st.seats st.pls) (hR : Ref04.RO w y R n st.ws st.ts) (hd : ∀ i, R i → ¬ fm b i) (hf : st.ts.length < 1000000) (n8 : n ≤ 8) (hn : st.seats.length = n) (hws : st.ws.length ≤ 100000) (hwd : Mem.Wd st.ws) (hq : q < st.seats.length) (hs : (st.pls.getD q p0).s = 0) :
    Calls Try.prog 109 #[.pointer (some ⟨b.x, 0, none⟩), .pointer (some ⟨y, 0, none⟩), .int .i64 q, .int .i64 q] w fun e w' =>
      e = .returned (didm (lockS n 0 st q q).1) ∧ MAt b w' st.seats (lockS n 0 st q q).2.pls ∧
      ∃ R', Ref04.RO w' y R' n (lockS n 0 st q q).2.ws (lockS n 0 st q q).2.ts ∧ Upd (fun i => fm b i ∨ R i) w w' ∧ ∀ i, R' i → R i ∨ w.heap.size ≤ i := by
  have hp : q < st.pls.length := by rw [h.l1]; exact hq
  have hok := h.ok q hp
  obtain ⟨⟨kc, kn, ka, kl, kw, ks⟩, hx⟩ : ∃ x, st.pls.getD q p0 = x := ⟨_, rfl⟩
  rw [hx] at hok hs
  obtain ⟨o1, o2, o3, o4, o5, o6⟩ := hok
  dsimp only at o1 o2 o3 o4 o5 o6 hs
  subst hs
  have c2 := h.top.cell (i := 2) rfl
  have c3 := h.top.cell (i := 3) rfl
  have k1 := h.krow.cell (col_get hp)
  have s1 := h.prow.cell (col_get hp)
  rw [hx] at k1 s1
  dsimp only at k1 s1
  have hlx := h.lt b.x (fm_all b).1
  have hlk := h.lt b.kb (fm_all b).2.2.2.2.1
  have hlp := h.lt b.pc (fm_all b).2.2.2.2.2.1
  have hlm := h.lt
  have hlr := hR.lt
  have D1 : Upd (fun _ => False) w ((w.alloc (.cells #[.int .i64 0, .int .i64 0, .int .i64 0, .int .i64 0] 130)).alloc (.cells #[.int .i64 0, .int .i64 0, .int .i64 0, .int .i64 0] 130)) := ((Upd.refl _ w).alloc _).alloc _
  have h1 := h.keep D1 (fun _ _ => id)
  have g1 := hR.keep D1 (fun _ _ => id)
  have R0 : Row ((w.alloc (.cells #[.int .i64 0, .int .i64 0, .int .i64 0, .int .i64 0] 130)).alloc (.cells #[.int .i64 0, .int .i64 0, .int .i64 0, .int .i64 0] 130)) w.heap.size [.int .i64 0, .int .i64 0, .int .i64 0, .int .i64 0] := (Row.new' rfl).alloc _
  have R1 : Row ((w.alloc (.cells #[.int .i64 0, .int .i64 0, .int .i64 0, .int .i64 0] 130)).alloc (.cells #[.int .i64 0, .int .i64 0, .int .i64 0, .int .i64 0] 130)) (w.heap.size + 1) [.int .i64 0, .int .i64 0, .int .i64 0, .int .i64 0] := Row.new' (by simp)
  have up1 : Upd (fun i => fm b i ∨ R i) w ((w.alloc (.cells #[.int .i64 0, .int .i64 0, .int .i64 0, .int .i64 0] 130)).alloc (.cells #[.int .i64 0, .int .i64 0, .int .i64 0, .int .i64 0] 130)) := D1.mono fun _ _ z => z.elim
  have hq1 : (0 : Int) ≤ (q : Int) := by omega
  have hq2 : (q : Int) < (st.seats.length : Int) := by omega
  obtain ⟨D, hD⟩ : ∃ D, w.heap.size = D := ⟨_, rfl⟩
  have HD := Lib.hid hD
  obtain ⟨W, hW⟩ : ∃ W, (w.alloc (.cells #[.int .i64 0, .int .i64 0, .int .i64 0, .int .i64 0] 130)).alloc (.cells #[.int .i64 0, .int .i64 0, .int .i64 0, .int .i64 0] 130) = W := ⟨_, rfl⟩
  rw [hW] at h1 g1 R0 R1 up1
  rw [hD] at R0 R1 hlm hlr
  have HW := Lib.hid hW
  have HLM := Lib.hid hlm
  have HLR := Lib.hid hlr
  have HX := Lib.hid hx
  have HR := Lib.hid hR
  have hWD : W.heap.size = D + 2 := by rw [← hW, ← hD]; simp
  have HWD := Lib.hid hWD
  have nx : ¬ R b.x := fun h => hd _ h (fm_all b).1
  have nn : ¬ R b.nb := fun h => hd _ h (fm_all b).2.2.2.2.2.2.1
  have na : ¬ R b.ab := fun h => hd _ h (fm_all b).2.2.2.2.2.2.2.1
  have no : ¬ R b.ob := fun h => hd _ h (fm_all b).2.2.2.2.2.2.2.2.1
  have nw : ¬ R b.wb := fun h => hd _ h (fm_all b).2.2.2.2.2.2.2.2.2
  have nD : ¬ R D := fun h => by have := HLR.out D h; omega
  have nD1 : ¬ R (D + 1) := fun h => by have := HLR.out _ h; omega
  have HF := Lib.hid hf
  have HK64 := Lib.hid (show n ≤ 64 by omega)
  have HWS := Lib.hid hws
  have HDD := Lib.hid hd
  have HWDD := Lib.hid hwd
  have ne1 : IntKind.i64.wrap (0 + 1) = 0 + 1 := rfl
  clear hlm hlr hR D1 hW hD hd hf hws h hx hWD hn hwd
  have c1a := h1.top.cell (i := 1) rfl
  have c4a := h1.top.cell (i := 4) rfl
  have n1a := h1.nrow.cell (col_get hp)
  rw [HX.out] at n1a
  dsimp only at n1a
  have hnA : nodeA 0 kn = 8 + kn := by unfold nodeA; omega
  have hu1 : IntKind.i64.wrap (8 + kn) = 8 + kn := IntWalk.i64_in _ (by omega)
  have hu2 : IntKind.i64.wrap 8 = 8 := rfl
  have KA := Ref04.storeR W.drew (g1.drewN 1) HF.out HK64.out HWS.out q (8 + kn) (kc * 4 + 2)
  have HKA := Lib.hid KA
  have hcl : Pack.clamp kc = kc := by unfold Pack.clamp; rw [if_neg (by omega), if_neg (by omega)]
  have HKW := Lib.hid (fun (w : World) => Pack.word_to kc 1 0 (.inr rfl) (.inl rfl) w (kc * 4 + 2) (by rw [hcl]; omega))
  clear hcl KA
  have h1d := h1.keep ((Upd.refl (fun _ => False) W).drewN 1) (fun _ _ => id)
  go_enter Try.func109, Try.ntmps109
  go_upto_block 0 with (fail)
  rw [HW.out, HD.out]
  clear c2 c3 k1 s1 hlx hlk hlp
  go_wp2_with fail
  go_region_held3 (fun w' => w'.cell? ⟨b.x, 1, none⟩ = some (.int .i64 0) ∧ w'.cell? ⟨b.x, 4, none⟩ = some (.slice (some ⟨b.nb, 0, none⟩) st.seats.length b.cn) ∧ w'.cell? ⟨b.nb, q, none⟩ = some (.int .i64 kn)) ((first | exact ⟨c1a, c4a, n1a⟩ | exact ⟨c1e, c4e, n1e⟩))
      ((first
        | (go_at_call 46; refine (HKW.out _).mono ?_; rintro e w' ⟨rfl, rfl⟩)
        | (go_at_call 114; refine HKA.out.mono ?_; rintro e w5 ⟨rfl, R', hR5, u5, hR5s⟩; have c1e := cell_upd u5 c1a nx; have c4e := cell_upd u5 c4a nx; have n1e := cell_upd u5 n1a nn)))
  have HS : Hid (∀ i, R' i → (R i ∨ D ≤ i) ∧ i ≠ D ∧ i ≠ D + 1 ∧ ¬ fm b i) := Lib.hid fun i hi => by
    rcases hR5s i hi with h | h
    · exact ⟨.inl h, by have := HLR.out i h; omega, by have := HLR.out i h; omega, HDD.out i h⟩
    · have := HWD.out
      have h : W.heap.size ≤ i := h
      exact ⟨.inr (by omega), by omega, by omega, fun e => by have := HLM.out i e; omega⟩
  have A5 := h1d.keep u5 (fun i hi h => HDD.out i h hi)
  have R5 := (R1.drewN 1).upd u5 nD1
  have Q5 := (R0.drewN 1).upd u5 nD
  have up5 : Upd (fun i => fm b i ∨ R i) w w5 := (up1.drewN 1).trans (u5.mono fun i _ h => .inr h)
  have g5 := hR5
  have dm : ∀ i, fm b i → i ≠ D ∧ i ≠ D + 1 := fun i hi => by have := HLM.out i hi; exact ⟨by omega, by omega⟩
  clear c1a c4a n1a c1e c4e n1e
  have t3 := A5.top.cell (i := 3) rfl
  have p3 := A5.prow.cell (col_get (t := q) (by rw [A5.l1]; exact hq))
  rw [HX.out] at p3
  dsimp only at p3
  have p4 := A5.prow.frozen q
  have A7 := A5.setPc q hq ⟨kc, kn, ka, kl, kw, 1⟩ (by rw [HX.out]) ⟨o1, o2, o3, o4, o5, (show (0 : Int) ≤ 1 ∧ (1 : Int) ≤ 7 by decide)⟩
  have U7 := Upd.one w5 b.pc q (.int .i64 1)
  have R7 := R5.upd U7 (fun e => (dm b.pc (fm_all b).2.2.2.2.2.1).2 e.symm)
  have Q7 := Q5.upd U7 (fun e => (dm b.pc (fm_all b).2.2.2.2.2.1).1 e.symm)
  have g7 := g5.keep U7 (fun i hi e => (HS.out i hi).2.2.2 (e ▸ (fm_all b).2.2.2.2.2.1))
  have up7 := up5.trans (U7.mono fun i _ e => .inl (e ▸ (fm_all b).2.2.2.2.2.1))
  go_upto_region 38 with (fail)
  obtain ⟨w7, hw7⟩ : ∃ w', w5.setCell ⟨b.pc, q, none⟩ (.int .i64 1) = w' := ⟨_, rfl⟩
  rw [hw7] at A7 R7 Q7 g7 up7 ⊢
  clear hw7 A5 R5 Q5 g5 up5 U7
  clear t3 p3 p4
  have r0 := R7.cell (i := 0) rfl
  have s0 := Q7.cell (i := 0) rfl
  have z0 := Q7.frozen 0
  have r1 := R7.cell (i := 1) rfl
  have s1 := Q7.cell (i := 1) rfl
  have z1 := Q7.frozen 1
  have r2 := R7.cell (i := 2) rfl
  have s2 := Q7.cell (i := 2) rfl
  have z2 := Q7.frozen 2
  have r3 := R7.cell (i := 3) rfl
  have s3 := Q7.cell (i := 3) rfl
  have z3 := Q7.frozen 3
  go_wp2_with fail
  have E : lockS n 0 st q q = ((0, false, false, false), { st with pls := st.pls.set q ⟨kc, kn, ka, kl, kw, 1⟩, ws := wrt n st.ws q (8 + kn) (kc * 4 + 2), ts := Cache.after n st.ws.length st.ts q (8 + kn) true }) := by
    unfold lockS; rw [HX.out]; dsimp only; rw [if_pos rfl, hnA]
  have U9 : Upd (fun i => i = D) w7 ((((w7.setCell ⟨D, 0, none⟩ (.int .i64 0)).setCell ⟨D, 1, none⟩ (.int .i64 0)).setCell ⟨D, 2, none⟩ (.int .i64 0)).setCell ⟨D, 3, none⟩ (.int .i64 0)) := (((Upd.one _ _ _ _).trans (Upd.one _ _ _ _)).trans (Upd.one _ _ _ _)).trans (Upd.one _ _ _ _)
  have RF := (((Q7.set 0 (.int .i64 0)).set 1 (.int .i64 0)).set 2 (.int .i64 0)).set 3 (.int .i64 0)
  have f0 := RF.cell (i := 0) rfl
  have f1 := RF.cell (i := 1) rfl
  have f2 := RF.cell (i := 2) rfl
  have f3 := RF.cell (i := 3) rfl
  have A99 := A7.keep U9 (fun i hi => (dm i hi).1)
  have g99 := g7.keep U9 (fun i hi e => (HS.out i hi).2.1 e)
  have up99 := up7.then U9 (fun i hi e => by have := HD.out; omega)
  obtain ⟨w9, hw9⟩ : ∃ w9, ((((w7.setCell ⟨D, 0, none⟩ (.int .i64 0)).setCell ⟨D, 1, none⟩ (.int .i64 0)).setCell ⟨D, 2, none⟩ (.int .i64 0)).setCell ⟨D, 3, none⟩ (.int .i64 0)) = w9 := ⟨_, rfl⟩
  rw [hw9] at f0 f1 f2 f3 A99 g99 up99 ⊢
  refine bodyPost_ret (v := didm (0, false, false, false)) (by simp [results, Try.results109, go_sem, didm, b2i, f0, f1, f2, f3]) rfl ?_
  rw [E]
  exact ⟨rfl, A99, R', g99, up99, fun i hi => (by rw [HD.out]; exact (HS.out i hi).1)⟩
set_option maxHeartbeats 16000000 in
set_option maxRecDepth 20000 in
theorem lock1 {w : World} {st : St} {y n q : Nat} {R : Nat → Prop} (h : MAt b w st.seats st.pls) (hR : Ref04.RO w y R n st.ws st.ts) (hd : ∀ i, R i → ¬ fm b i) (hf : st.ts.length < 1000000) (n8 : n ≤ 8) (hn : st.seats.length = n) (hws : st.ws.length ≤ 100000) (hwd : Mem.Wd st.ws) (hq : q < st.seats.length) (hs : (st.pls.getD q p0).s = 1) :
    Calls Try.prog 109 #[.pointer (some ⟨b.x, 0, none⟩), .pointer (some ⟨y, 0, none⟩), .int .i64 q, .int .i64 q] w fun e w' =>
      e = .returned (didm (lockS n 0 st q q).1) ∧ MAt b w' st.seats (lockS n 0 st q q).2.pls ∧
      ∃ R', Ref04.RO w' y R' n (lockS n 0 st q q).2.ws (lockS n 0 st q q).2.ts ∧ Upd (fun i => fm b i ∨ R i) w w' ∧ ∀ i, R' i → R i ∨ w.heap.size ≤ i := by
  have hp : q < st.pls.length := by rw [h.l1]; exact hq
  have hok := h.ok q hp
  obtain ⟨⟨kc, kn, ka, kl, kw, ks⟩, hx⟩ : ∃ x, st.pls.getD q p0 = x := ⟨_, rfl⟩
  rw [hx] at hok hs
  obtain ⟨o1, o2, o3, o4, o5, o6⟩ := hok
  dsimp only at o1 o2 o3 o4 o5 o6 hs
  subst hs
  have c2 := h.top.cell (i := 2) rfl
  have c3 := h.top.cell (i := 3) rfl
  have k1 := h.krow.cell (col_get hp)
  have s1 := h.prow.cell (col_get hp)
  rw [hx] at k1 s1
  dsimp only at k1 s1
  have hlx := h.lt b.x (fm_all b).1
  have hlk := h.lt b.kb (fm_all b).2.2.2.2.1
  have hlp := h.lt b.pc (fm_all b).2.2.2.2.2.1
  have hlm := h.lt
  have hlr := hR.lt
  have D1 : Upd (fun _ => False) w ((w.alloc (.cells #[.int .i64 0, .int .i64 0, .int .i64 0, .int .i64 0] 130)).alloc (.cells #[.int .i64 0, .int .i64 0, .int .i64 0, .int .i64 0] 130)) := ((Upd.refl _ w).alloc _).alloc _
  have h1 := h.keep D1 (fun _ _ => id)
  have g1 := hR.keep D1 (fun _ _ => id)
  have R0 : Row ((w.alloc (.cells #[.int .i64 0, .int .i64 0, .int .i64 0, .int .i64 0] 130)).alloc (.cells #[.int .i64 0, .int .i64 0, .int .i64 0, .int .i64 0] 130)) w.heap.size [.int .i64 0, .int .i64 0, .int .i64 0, .int .i64 0] := (Row.new' rfl).alloc _
  have R1 : Row ((w.alloc (.cells #[.int .i64 0, .int .i64 0, .int .i64 0, .int .i64 0] 130)).alloc (.cells #[.int .i64 0, .int .i64 0, .int .i64 0, .int .i64 0] 130)) (w.heap.size + 1) [.int .i64 0, .int .i64 0, .int .i64 0, .int .i64 0] := Row.new' (by simp)
  have up1 : Upd (fun i => fm b i ∨ R i) w ((w.alloc (.cells #[.int .i64 0, .int .i64 0, .int .i64 0, .int .i64 0] 130)).alloc (.cells #[.int .i64 0, .int .i64 0, .int .i64 0, .int .i64 0] 130)) := D1.mono fun _ _ z => z.elim
  have hq1 : (0 : Int) ≤ (q : Int) := by omega
  have hq2 : (q : Int) < (st.seats.length : Int) := by omega
  obtain ⟨D, hD⟩ : ∃ D, w.heap.size = D := ⟨_, rfl⟩
  have HD := Lib.hid hD
  obtain ⟨W, hW⟩ : ∃ W, (w.alloc (.cells #[.int .i64 0, .int .i64 0, .int .i64 0, .int .i64 0] 130)).alloc (.cells #[.int .i64 0, .int .i64 0, .int .i64 0, .int .i64 0] 130) = W := ⟨_, rfl⟩
  rw [hW] at h1 g1 R0 R1 up1
  rw [hD] at R0 R1 hlm hlr
  have HW := Lib.hid hW
  have HLM := Lib.hid hlm
  have HLR := Lib.hid hlr
  have HX := Lib.hid hx
  have HR := Lib.hid hR
  have hWD : W.heap.size = D + 2 := by rw [← hW, ← hD]; simp
  have HWD := Lib.hid hWD
  have nx : ¬ R b.x := fun h => hd _ h (fm_all b).1
  have nn : ¬ R b.nb := fun h => hd _ h (fm_all b).2.2.2.2.2.2.1
  have na : ¬ R b.ab := fun h => hd _ h (fm_all b).2.2.2.2.2.2.2.1
  have no : ¬ R b.ob := fun h => hd _ h (fm_all b).2.2.2.2.2.2.2.2.1
  have nw : ¬ R b.wb := fun h => hd _ h (fm_all b).2.2.2.2.2.2.2.2.2
  have nD : ¬ R D := fun h => by have := HLR.out D h; omega
  have nD1 : ¬ R (D + 1) := fun h => by have := HLR.out _ h; omega
  have HF := Lib.hid hf
  have HK64 := Lib.hid (show n ≤ 64 by omega)
  have HWS := Lib.hid hws
  have HDD := Lib.hid hd
  have HWDD := Lib.hid hwd
  have ne1 : IntKind.i64.wrap (1 + 1) = 1 + 1 := rfl
  clear hlm hlr hR D1 hW hD hd hf hws h hx hWD hn hwd
  have c1a := h1.top.cell (i := 1) rfl
  have c4a := h1.top.cell (i := 4) rfl
  have c5a := h1.top.cell (i := 5) rfl
  have n1a := h1.nrow.cell (col_get hp)
  rw [HX.out] at n1a
  dsimp only at n1a
  have hnA : ownA 0 kc = 1 + kc := by unfold ownA; omega
  have hu1 : IntKind.i64.wrap (1 + kc) = 1 + kc := IntWalk.i64_in _ (by omega)
  have hu2 : IntKind.i64.wrap 1 = 1 := rfl
  obtain ⟨g, hg⟩ : ∃ g, rd n st.ws q (1 + kc) = g := ⟨_, rfl⟩
  have hgw := rd_wd HWDD.out n q (1 + kc)
  rw [hg] at hgw
  have KA := Ref04.swapR W.drew (g1.drewN 1) HF.out HK64.out HWS.out q (1 + kc) kn
  rw [hg] at KA
  have HKA := Lib.hid KA
  have hgi : IntKind.i64.wrap g = g := IntWalk.i64_in _ (by omega)
  have hu3 : IntKind.u32.wrap kn = kn := by rw [show IntKind.u32.wrap kn = kn % 4294967296 from rfl]; omega
  clear KA
  have h1d := h1.keep ((Upd.refl (fun _ => False) W).drewN 1) (fun _ _ => id)
  have a0 := h1.arow.cell (col_get hp)
  go_enter Try.func109, Try.ntmps109
  go_upto_block 0 with (fail)
  rw [HW.out, HD.out]
  clear c2 c3 k1 s1 hlx hlk hlp
  go_wp2_with fail
  go_region_held3 (fun w' => w'.cell? ⟨b.x, 1, none⟩ = some (.int .i64 0) ∧ w'.cell? ⟨b.x, 4, none⟩ = some (.slice (some ⟨b.nb, 0, none⟩) st.seats.length b.cn) ∧ w'.cell? ⟨b.x, 5, none⟩ = some (.slice (some ⟨b.ab, 0, none⟩) st.seats.length st.seats.length) ∧ w'.cell? ⟨b.nb, q, none⟩ = some (.int .i64 kn)) ((first | exact ⟨c1a, c4a, c5a, n1a⟩ | exact ⟨c1e, c4e, c5e, n1e⟩ | exact ⟨c1f, c4f, c5f, n1f⟩))
      ((first
        | (go_at_call 115; refine HKA.out.mono ?_; rintro e w5 ⟨rfl, R', hR5, u5, hR5s⟩; have c1e := cell_upd u5 c1a nx; have c4e := cell_upd u5 c4a nx; have c5e := cell_upd u5 c5a nx; have n1e := cell_upd u5 n1a nn; have A5' := h1d.keep u5 (fun i hi h => HDD.out i h hi); have m5 := cell_upd u5 a0 na; have fz5 := A5'.arow.frozen q; have A6' := A5'.setAh q hq ⟨kc, kn, g, kl, kw, 1⟩ (by rw [HX.out]) ⟨o1, o2, hgw, o4, o5, o6⟩; have c1f := A6'.top.cell (i := 1) rfl; have c4f := A6'.top.cell (i := 4) rfl; have c5f := A6'.top.cell (i := 5) rfl; have n1f := A6'.nrow.cell (col_get (t := q) (by rw [A6'.l1]; exact hq)); rw [pl_set _ _ hp, if_pos rfl] at n1f; dsimp only at n1f)))
  have HS : Hid (∀ i, R' i → (R i ∨ D ≤ i) ∧ i ≠ D ∧ i ≠ D + 1 ∧ ¬ fm b i) := Lib.hid fun i hi => by
    rcases hR5s i hi with h | h
    · exact ⟨.inl h, by have := HLR.out i h; omega, by have := HLR.out i h; omega, HDD.out i h⟩
    · have := HWD.out
      have h : W.heap.size ≤ i := h
      exact ⟨.inr (by omega), by omega, by omega, fun e => by have := HLM.out i e; omega⟩
  have A5 := h1d.keep u5 (fun i hi h => HDD.out i h hi)
  have R5 := (R1.drewN 1).upd u5 nD1
  have Q5 := (R0.drewN 1).upd u5 nD
  have up5 : Upd (fun i => fm b i ∨ R i) w w5 := (up1.drewN 1).trans (u5.mono fun i _ h => .inr h)
  have g5 := hR5
  have dm : ∀ i, fm b i → i ≠ D ∧ i ≠ D + 1 := fun i hi => by have := HLM.out i hi; exact ⟨by omega, by omega⟩
  clear c1a c4a c5a n1a c1e c4e c5e n1e c1f c4f c5f n1f A5' A6' m5 fz5 a0
  have A6 := A5.setAh q hq ⟨kc, kn, g, kl, kw, 1⟩ (by rw [HX.out]) ⟨o1, o2, hgw, o4, o5, o6⟩
  have U6 := Upd.one w5 b.ab q (.int .i64 g)
  have R6 := R5.upd U6 (fun e => (dm b.ab (fm_all b).2.2.2.2.2.2.2.1).2 e.symm)
  have Q6 := Q5.upd U6 (fun e => (dm b.ab (fm_all b).2.2.2.2.2.2.2.1).1 e.symm)
  have g6 := g5.keep U6 (fun i hi e => (HS.out i hi).2.2.2 (e ▸ (fm_all b).2.2.2.2.2.2.2.1))
  have up6 := up5.trans (U6.mono fun i _ e => .inl (e ▸ (fm_all b).2.2.2.2.2.2.2.1))
  obtain ⟨w6, hw6⟩ : ∃ w', w5.setCell ⟨b.ab, q, none⟩ (.int .i64 g) = w' := ⟨_, rfl⟩
  rw [hw6] at A6 R6 Q6 g6 up6 ⊢
  clear hw6 A5 R5 Q5 g5 up5 U6
  have y1 := R6.cell (i := 1) rfl
  have y2 := R6.frozen 1
  have U7 := Upd.one w6 (D + 1) 1 (.int .i64 1)
  have A7 := A6.keep U7 (fun i hi e => (dm i hi).2 e)
  have R7 := R6.set 1 (.int .i64 1)
  have Q7 := Q6.upd U7 (by omega)
  have g7 := g6.keep U7 (fun i hi e => (HS.out i hi).2.2.1 e)
  have up7 := up6.then U7 (fun i hi e => by have := HD.out; omega)
  have x5 := A7.top.cell (i := 5) rfl
  have x6 := A7.arow.cell (col_get (t := q) (by rw [A7.l1]; exact hq))
  rw [pl_set _ _ hp, if_pos rfl] at x6
  dsimp only at x6
  by_cases hgn : g = 0
  · subst hgn
    go_upto_region 37 with (fail)
    obtain ⟨w7, hw7⟩ : ∃ w', w6.setCell ⟨D + 1, 1, none⟩ (.int .i64 1) = w' := ⟨_, rfl⟩
    rw [hw7] at A7 R7 Q7 g7 up7 ⊢
    clear hw7 A6 R6 Q6 g6 up6 U7
    clear y1 y2 x5 x6
    have t3 := A7.top.cell (i := 3) rfl
    have p3 := A7.prow.cell (col_get (t := q) (by rw [A7.l1]; exact hq))
    rw [pl_set _ _ hp, if_pos rfl] at p3
    dsimp only at p3
    have p4 := A7.prow.frozen q
    have A8 := A7.setPc q hq ⟨kc, kn, 0, kl, kw, 3⟩ (by rw [pl_set _ _ hp, if_pos rfl]) ⟨o1, o2, hgw, o4, o5, (show (0 : Int) ≤ 3 ∧ (3 : Int) ≤ 7 by decide)⟩
    have U8 := Upd.one w7 b.pc q (.int .i64 3)
    have R8 := R7.upd U8 (fun e => (dm b.pc (fm_all b).2.2.2.2.2.1).2 e.symm)
    have Q8 := Q7.upd U8 (fun e => (dm b.pc (fm_all b).2.2.2.2.2.1).1 e.symm)
    have g8 := g7.keep U8 (fun i hi e => (HS.out i hi).2.2.2 (e ▸ (fm_all b).2.2.2.2.2.1))
    have up8 := up7.trans (U8.mono fun i _ e => .inl (e ▸ (fm_all b).2.2.2.2.2.1))
    go_upto_region 38 with (fail)
    obtain ⟨w8, hw8⟩ : ∃ w', w7.setCell ⟨b.pc, q, none⟩ (.int .i64 3) = w' := ⟨_, rfl⟩
    rw [hw8] at A8 R8 Q8 g8 up8 ⊢
    clear hw8 A7 R7 Q7 g7 up7 U8
    clear t3 p3 p4
    have r0 := R8.cell (i := 0) rfl
    have s0 := Q8.cell (i := 0) rfl
    have z0 := Q8.frozen 0
    have r1 := R8.cell (i := 1) rfl
    have s1 := Q8.cell (i := 1) rfl
    have z1 := Q8.frozen 1
    have r2 := R8.cell (i := 2) rfl
    have s2 := Q8.cell (i := 2) rfl
    have z2 := Q8.frozen 2
    have r3 := R8.cell (i := 3) rfl
    have s3 := Q8.cell (i := 3) rfl
    have z3 := Q8.frozen 3
    go_wp2_with fail
    have E : lockS n 0 st q q = ((0, true, false, false), { st with pls := st.pls.set q ⟨kc, kn, 0, kl, kw, 3⟩, ws := wrt n st.ws q (1 + kc) kn, ts := Cache.after n st.ws.length st.ts q (1 + kc) true }) := by
      unfold lockS; rw [HX.out]; dsimp only; rw [if_neg (show ¬ ((1 : Int) = 0) by decide), if_pos rfl, hnA, hg, if_pos rfl]
    have U9 : Upd (fun i => i = D) w8 ((((w8.setCell ⟨D, 0, none⟩ (.int .i64 0)).setCell ⟨D, 1, none⟩ (.int .i64 1)).setCell ⟨D, 2, none⟩ (.int .i64 0)).setCell ⟨D, 3, none⟩ (.int .i64 0)) := (((Upd.one _ _ _ _).trans (Upd.one _ _ _ _)).trans (Upd.one _ _ _ _)).trans (Upd.one _ _ _ _)
    have RF := (((Q8.set 0 (.int .i64 0)).set 1 (.int .i64 1)).set 2 (.int .i64 0)).set 3 (.int .i64 0)
    have f0 := RF.cell (i := 0) rfl
    have f1 := RF.cell (i := 1) rfl
    have f2 := RF.cell (i := 2) rfl
    have f3 := RF.cell (i := 3) rfl
    have A99 := A8.keep U9 (fun i hi => (dm i hi).1)
    have g99 := g8.keep U9 (fun i hi e => (HS.out i hi).2.1 e)
    have up99 := up8.then U9 (fun i hi e => by have := HD.out; omega)
    obtain ⟨w9, hw9⟩ : ∃ w9, ((((w8.setCell ⟨D, 0, none⟩ (.int .i64 0)).setCell ⟨D, 1, none⟩ (.int .i64 1)).setCell ⟨D, 2, none⟩ (.int .i64 0)).setCell ⟨D, 3, none⟩ (.int .i64 0)) = w9 := ⟨_, rfl⟩
    rw [hw9] at f0 f1 f2 f3 A99 g99 up99 ⊢
    refine bodyPost_ret (v := didm (0, true, false, false)) (by simp [results, Try.results109, go_sem, didm, b2i, f0, f1, f2, f3]) rfl ?_
    rw [E]
    rw [List.set_set] at A99
    exact ⟨rfl, A99, R', g99, up99, fun i hi => (by rw [HD.out]; exact (HS.out i hi).1)⟩
  · have hgn' : (g == 0) = false := by simpa using hgn
    go_upto_region 37 with (fail)
    obtain ⟨w7, hw7⟩ : ∃ w', w6.setCell ⟨D + 1, 1, none⟩ (.int .i64 1) = w' := ⟨_, rfl⟩
    rw [hw7] at A7 R7 Q7 g7 up7 ⊢
    clear hw7 A6 R6 Q6 g6 up6 U7
    clear y1 y2 x5 x6
    have t3 := A7.top.cell (i := 3) rfl
    have p3 := A7.prow.cell (col_get (t := q) (by rw [A7.l1]; exact hq))
    rw [pl_set _ _ hp, if_pos rfl] at p3
    dsimp only at p3
    have p4 := A7.prow.frozen q
    have A8 := A7.setPc q hq ⟨kc, kn, g, kl, kw, 2⟩ (by rw [pl_set _ _ hp, if_pos rfl]) ⟨o1, o2, hgw, o4, o5, (show (0 : Int) ≤ 2 ∧ (2 : Int) ≤ 7 by decide)⟩
    have U8 := Upd.one w7 b.pc q (.int .i64 2)
    have R8 := R7.upd U8 (fun e => (dm b.pc (fm_all b).2.2.2.2.2.1).2 e.symm)
    have Q8 := Q7.upd U8 (fun e => (dm b.pc (fm_all b).2.2.2.2.2.1).1 e.symm)
    have g8 := g7.keep U8 (fun i hi e => (HS.out i hi).2.2.2 (e ▸ (fm_all b).2.2.2.2.2.1))
    have up8 := up7.trans (U8.mono fun i _ e => .inl (e ▸ (fm_all b).2.2.2.2.2.1))
    go_upto_region 38 with (fail)
    obtain ⟨w8, hw8⟩ : ∃ w', w7.setCell ⟨b.pc, q, none⟩ (.int .i64 2) = w' := ⟨_, rfl⟩
    rw [hw8] at A8 R8 Q8 g8 up8 ⊢
    clear hw8 A7 R7 Q7 g7 up7 U8
    clear t3 p3 p4
    have r0 := R8.cell (i := 0) rfl
    have s0 := Q8.cell (i := 0) rfl
    have z0 := Q8.frozen 0
    have r1 := R8.cell (i := 1) rfl
    have s1 := Q8.cell (i := 1) rfl
    have z1 := Q8.frozen 1
    have r2 := R8.cell (i := 2) rfl
    have s2 := Q8.cell (i := 2) rfl
    have z2 := Q8.frozen 2
    have r3 := R8.cell (i := 3) rfl
    have s3 := Q8.cell (i := 3) rfl
    have z3 := Q8.frozen 3
    go_wp2_with fail
    have E : lockS n 0 st q q = ((0, true, false, false), { st with pls := st.pls.set q ⟨kc, kn, g, kl, kw, 2⟩, ws := wrt n st.ws q (1 + kc) kn, ts := Cache.after n st.ws.length st.ts q (1 + kc) true }) := by
      unfold lockS; rw [HX.out]; dsimp only; rw [if_neg (show ¬ ((1 : Int) = 0) by decide), if_pos rfl, hnA, hg, if_neg hgn]
    have U9 : Upd (fun i => i = D) w8 ((((w8.setCell ⟨D, 0, none⟩ (.int .i64 0)).setCell ⟨D, 1, none⟩ (.int .i64 1)).setCell ⟨D, 2, none⟩ (.int .i64 0)).setCell ⟨D, 3, none⟩ (.int .i64 0)) := (((Upd.one _ _ _ _).trans (Upd.one _ _ _ _)).trans (Upd.one _ _ _ _)).trans (Upd.one _ _ _ _)
    have RF := (((Q8.set 0 (.int .i64 0)).set 1 (.int .i64 1)).set 2 (.int .i64 0)).set 3 (.int .i64 0)
    have f0 := RF.cell (i := 0) rfl
    have f1 := RF.cell (i := 1) rfl
    have f2 := RF.cell (i := 2) rfl
    have f3 := RF.cell (i := 3) rfl
    have A99 := A8.keep U9 (fun i hi => (dm i hi).1)
    have g99 := g8.keep U9 (fun i hi e => (HS.out i hi).2.1 e)
    have up99 := up8.then U9 (fun i hi e => by have := HD.out; omega)
    obtain ⟨w9, hw9⟩ : ∃ w9, ((((w8.setCell ⟨D, 0, none⟩ (.int .i64 0)).setCell ⟨D, 1, none⟩ (.int .i64 1)).setCell ⟨D, 2, none⟩ (.int .i64 0)).setCell ⟨D, 3, none⟩ (.int .i64 0)) = w9 := ⟨_, rfl⟩
    rw [hw9] at f0 f1 f2 f3 A99 g99 up99 ⊢
    refine bodyPost_ret (v := didm (0, true, false, false)) (by simp [results, Try.results109, go_sem, didm, b2i, f0, f1, f2, f3]) rfl ?_
    rw [E]
    rw [List.set_set] at A99
    exact ⟨rfl, A99, R', g99, up99, fun i hi => (by rw [HD.out]; exact (HS.out i hi).1)⟩
set_option maxHeartbeats 16000000 in
set_option maxRecDepth 20000 in
theorem lock2 {w : World} {st : St} {y n q : Nat} {R : Nat → Prop} (h : MAt b w st.seats st.pls) (hR : Ref04.RO w y R n st.ws st.ts) (hd : ∀ i, R i → ¬ fm b i) (hf : st.ts.length < 1000000) (n8 : n ≤ 8) (hn : st.seats.length = n) (hws : st.ws.length ≤ 100000) (hwd : Mem.Wd st.ws) (hq : q < st.seats.length) (hs : (st.pls.getD q p0).s = 2) :
    Calls Try.prog 109 #[.pointer (some ⟨b.x, 0, none⟩), .pointer (some ⟨y, 0, none⟩), .int .i64 q, .int .i64 q] w fun e w' =>
      e = .returned (didm (lockS n 0 st q q).1) ∧ MAt b w' st.seats (lockS n 0 st q q).2.pls ∧
      ∃ R', Ref04.RO w' y R' n (lockS n 0 st q q).2.ws (lockS n 0 st q q).2.ts ∧ Upd (fun i => fm b i ∨ R i) w w' ∧ ∀ i, R' i → R i ∨ w.heap.size ≤ i := by
  have hp : q < st.pls.length := by rw [h.l1]; exact hq
  have hok := h.ok q hp
  obtain ⟨⟨kc, kn, ka, kl, kw, ks⟩, hx⟩ : ∃ x, st.pls.getD q p0 = x := ⟨_, rfl⟩
  rw [hx] at hok hs
  obtain ⟨o1, o2, o3, o4, o5, o6⟩ := hok
  dsimp only at o1 o2 o3 o4 o5 o6 hs
  subst hs
  have c2 := h.top.cell (i := 2) rfl
  have c3 := h.top.cell (i := 3) rfl
  have k1 := h.krow.cell (col_get hp)
  have s1 := h.prow.cell (col_get hp)
  rw [hx] at k1 s1
  dsimp only at k1 s1
  have hlx := h.lt b.x (fm_all b).1
  have hlk := h.lt b.kb (fm_all b).2.2.2.2.1
  have hlp := h.lt b.pc (fm_all b).2.2.2.2.2.1
  have hlm := h.lt
  have hlr := hR.lt
  have D1 : Upd (fun _ => False) w ((w.alloc (.cells #[.int .i64 0, .int .i64 0, .int .i64 0, .int .i64 0] 130)).alloc (.cells #[.int .i64 0, .int .i64 0, .int .i64 0, .int .i64 0] 130)) := ((Upd.refl _ w).alloc _).alloc _
  have h1 := h.keep D1 (fun _ _ => id)
  have g1 := hR.keep D1 (fun _ _ => id)
  have R0 : Row ((w.alloc (.cells #[.int .i64 0, .int .i64 0, .int .i64 0, .int .i64 0] 130)).alloc (.cells #[.int .i64 0, .int .i64 0, .int .i64 0, .int .i64 0] 130)) w.heap.size [.int .i64 0, .int .i64 0, .int .i64 0, .int .i64 0] := (Row.new' rfl).alloc _
  have R1 : Row ((w.alloc (.cells #[.int .i64 0, .int .i64 0, .int .i64 0, .int .i64 0] 130)).alloc (.cells #[.int .i64 0, .int .i64 0, .int .i64 0, .int .i64 0] 130)) (w.heap.size + 1) [.int .i64 0, .int .i64 0, .int .i64 0, .int .i64 0] := Row.new' (by simp)
  have up1 : Upd (fun i => fm b i ∨ R i) w ((w.alloc (.cells #[.int .i64 0, .int .i64 0, .int .i64 0, .int .i64 0] 130)).alloc (.cells #[.int .i64 0, .int .i64 0, .int .i64 0, .int .i64 0] 130)) := D1.mono fun _ _ z => z.elim
  have hq1 : (0 : Int) ≤ (q : Int) := by omega
  have hq2 : (q : Int) < (st.seats.length : Int) := by omega
  obtain ⟨D, hD⟩ : ∃ D, w.heap.size = D := ⟨_, rfl⟩
  have HD := Lib.hid hD
  obtain ⟨W, hW⟩ : ∃ W, (w.alloc (.cells #[.int .i64 0, .int .i64 0, .int .i64 0, .int .i64 0] 130)).alloc (.cells #[.int .i64 0, .int .i64 0, .int .i64 0, .int .i64 0] 130) = W := ⟨_, rfl⟩
  rw [hW] at h1 g1 R0 R1 up1
  rw [hD] at R0 R1 hlm hlr
  have HW := Lib.hid hW
  have HLM := Lib.hid hlm
  have HLR := Lib.hid hlr
  have HX := Lib.hid hx
  have HR := Lib.hid hR
  have hWD : W.heap.size = D + 2 := by rw [← hW, ← hD]; simp
  have HWD := Lib.hid hWD
  have nx : ¬ R b.x := fun h => hd _ h (fm_all b).1
  have nn : ¬ R b.nb := fun h => hd _ h (fm_all b).2.2.2.2.2.2.1
  have na : ¬ R b.ab := fun h => hd _ h (fm_all b).2.2.2.2.2.2.2.1
  have no : ¬ R b.ob := fun h => hd _ h (fm_all b).2.2.2.2.2.2.2.2.1
  have nw : ¬ R b.wb := fun h => hd _ h (fm_all b).2.2.2.2.2.2.2.2.2
  have nD : ¬ R D := fun h => by have := HLR.out D h; omega
  have nD1 : ¬ R (D + 1) := fun h => by have := HLR.out _ h; omega
  have HF := Lib.hid hf
  have HK64 := Lib.hid (show n ≤ 64 by omega)
  have HWS := Lib.hid hws
  have HDD := Lib.hid hd
  have HWDD := Lib.hid hwd
  have ne1 : IntKind.i64.wrap (2 + 1) = 2 + 1 := rfl
  clear hlm hlr hR D1 hW hD hd hf hws h hx hWD hn hwd
  have c1a := h1.top.cell (i := 1) rfl
  have c5a := h1.top.cell (i := 5) rfl
  have a1a := h1.arow.cell (col_get hp)
  rw [HX.out] at a1a
  dsimp only at a1a
  have hnA : nodeA 0 ka = 8 + ka := by unfold nodeA; omega
  have hu1 : IntKind.i64.wrap (8 + ka) = 8 + ka := IntWalk.i64_in _ (by omega)
  have hu2 : IntKind.i64.wrap 8 = 8 := rfl
  obtain ⟨g, hg⟩ : ∃ g, rd n st.ws q (8 + ka) = g := ⟨_, rfl⟩
  have hgw := rd_wd HWDD.out n q (8 + ka)
  rw [hg] at hgw
  have KA := Ref04.loadR W.drew (g1.drewN 1) HF.out HK64.out HWS.out q (8 + ka)
  rw [hg] at KA
  have HKA := Lib.hid KA
  clear KA
  obtain ⟨pa, hpa⟩ : ∃ x, g / 4 = x := ⟨_, rfl⟩
  obtain ⟨pw, hpw⟩ : ∃ x, g / 2 % 2 = x := ⟨_, rfl⟩
  obtain ⟨ps, hps⟩ : ∃ x, g % 2 = x := ⟨_, rfl⟩
  have HKP := Lib.hid (fun (w : World) => Pack.parts_to g w hgw.1 hgw.2 pa pw ps hpa.symm hpw.symm hps.symm)
  have hpw2 : pw = 0 ∨ pw = 1 := by omega
  have hps2 : ps = 0 ∨ ps = 1 := by omega
  have HPA := Lib.hid hpa
  have HPW := Lib.hid hpw
  have HPS := Lib.hid hps
  clear hpa hpw hps
  have h1d := h1.keep ((Upd.refl (fun _ => False) W).drewN 1) (fun _ _ => id)
  go_enter Try.func109, Try.ntmps109
  go_upto_block 0 with (fail)
  rw [HW.out, HD.out]
  clear c2 c3 k1 s1 hlx hlk hlp
  go_wp2_with fail
  go_region_held3 (fun w' => w'.cell? ⟨b.x, 1, none⟩ = some (.int .i64 0) ∧ w'.cell? ⟨b.x, 5, none⟩ = some (.slice (some ⟨b.ab, 0, none⟩) st.seats.length st.seats.length) ∧ w'.cell? ⟨b.ab, q, none⟩ = some (.int .i64 ka)) ((first | exact ⟨c1a, c5a, a1a⟩ | exact ⟨c1e, c5e, a1e⟩))
      ((first
        | (go_at_call 110; refine HKA.out.mono ?_; rintro e w5 ⟨rfl, R', hR5, u5, hR5s⟩; have c1e := cell_upd u5 c1a nx; have c5e := cell_upd u5 c5a nx; have a1e := cell_upd u5 a1a na)
        | (go_at_call 111; refine (HKP.out _).mono ?_; rintro e w' ⟨rfl, rfl⟩)))
  have HS : Hid (∀ i, R' i → (R i ∨ D ≤ i) ∧ i ≠ D ∧ i ≠ D + 1 ∧ ¬ fm b i) := Lib.hid fun i hi => by
    rcases hR5s i hi with h | h
    · exact ⟨.inl h, by have := HLR.out i h; omega, by have := HLR.out i h; omega, HDD.out i h⟩
    · have := HWD.out
      have h : W.heap.size ≤ i := h
      exact ⟨.inr (by omega), by omega, by omega, fun e => by have := HLM.out i e; omega⟩
  have A5 := h1d.keep u5 (fun i hi h => HDD.out i h hi)
  have R5 := (R1.drewN 1).upd u5 nD1
  have Q5 := (R0.drewN 1).upd u5 nD
  have up5 : Upd (fun i => fm b i ∨ R i) w w5 := (up1.drewN 1).trans (u5.mono fun i _ h => .inr h)
  have g5 := hR5
  have dm : ∀ i, fm b i → i ≠ D ∧ i ≠ D + 1 := fun i hi => by have := HLM.out i hi; exact ⟨by omega, by omega⟩
  clear c1a c1e c5a c5e a1a a1e
  by_cases hpk : pa = kc
  · subst hpk
    rcases hps2 with rfl | rfl
    · rcases hpw2 with rfl | rfl
      · have y1 := R5.cell (i := 0) rfl
        have y2 := R5.frozen 0
        have U6 := Upd.one w5 (D + 1) 0 (.int .i64 1)
        have A6 := A5.keep U6 (fun i hi e => (dm i hi).2 e)
        have R6 := R5.set 0 (.int .i64 1)
        have Q6 := Q5.upd U6 (by omega)
        have g6 := g5.keep U6 (fun i hi e => (HS.out i hi).2.2.1 e)
        have up6 := up5.then U6 (fun i hi e => by have := HD.out; omega)
        go_upto_region 37 with (fail)
        obtain ⟨w6, hw6⟩ : ∃ w', w5.setCell ⟨D + 1, 0, none⟩ (.int .i64 1) = w' := ⟨_, rfl⟩
        rw [hw6] at A6 R6 Q6 g6 up6 ⊢
        clear hw6 A5 R5 Q5 g5 up5 U6
        clear y1 y2
        have t3 := A6.top.cell (i := 3) rfl
        have p3 := A6.prow.cell (col_get (t := q) (by rw [A6.l1]; exact hq))
        rw [HX.out] at p3
        dsimp only at p3
        have p4 := A6.prow.frozen q
        have A7 := A6.setPc q hq ⟨pa, kn, ka, kl, kw, 0⟩ (by rw [HX.out]) ⟨o1, o2, o3, o4, o5, (show (0 : Int) ≤ 0 ∧ (0 : Int) ≤ 7 by decide)⟩
        have U7 := Upd.one w6 b.pc q (.int .i64 0)
        have R7 := R6.upd U7 (fun e => (dm b.pc (fm_all b).2.2.2.2.2.1).2 e.symm)
        have Q7 := Q6.upd U7 (fun e => (dm b.pc (fm_all b).2.2.2.2.2.1).1 e.symm)
        have g7 := g6.keep U7 (fun i hi e => (HS.out i hi).2.2.2 (e ▸ (fm_all b).2.2.2.2.2.1))
        have up7 := up6.trans (U7.mono fun i _ e => .inl (e ▸ (fm_all b).2.2.2.2.2.1))
        go_upto_region 38 with (fail)
        obtain ⟨w7, hw7⟩ : ∃ w', w6.setCell ⟨b.pc, q, none⟩ (.int .i64 0) = w' := ⟨_, rfl⟩
        rw [hw7] at A7 R7 Q7 g7 up7 ⊢
        clear hw7 A6 R6 Q6 g6 up6 U7
        clear t3 p3 p4
        have r0 := R7.cell (i := 0) rfl
        have s0 := Q7.cell (i := 0) rfl
        have z0 := Q7.frozen 0
        have r1 := R7.cell (i := 1) rfl
        have s1 := Q7.cell (i := 1) rfl
        have z1 := Q7.frozen 1
        have r2 := R7.cell (i := 2) rfl
        have s2 := Q7.cell (i := 2) rfl
        have z2 := Q7.frozen 2
        have r3 := R7.cell (i := 3) rfl
        have s3 := Q7.cell (i := 3) rfl
        have z3 := Q7.frozen 3
        go_wp2_with fail
        have E : lockS n 0 st q q = ((1, false, false, false), { st with pls := st.pls.set q ⟨pa, kn, ka, kl, kw, 0⟩, ts := Cache.after n st.ws.length st.ts q (8 + ka) false }) := by
          unfold lockS; rw [HX.out]; dsimp only; rw [if_neg (show ¬ ((2 : Int) = 0) by decide), if_neg (show ¬ ((2 : Int) = 1) by decide), if_pos rfl, hnA, hg, if_neg (show ¬ (g / 4 ≠ pa ∨ g % 2 = 1) from fun e => by have := HPA.out; have := HPS.out; omega), if_pos (HPW.out)]
        have U9 : Upd (fun i => i = D) w7 ((((w7.setCell ⟨D, 0, none⟩ (.int .i64 1)).setCell ⟨D, 1, none⟩ (.int .i64 0)).setCell ⟨D, 2, none⟩ (.int .i64 0)).setCell ⟨D, 3, none⟩ (.int .i64 0)) := (((Upd.one _ _ _ _).trans (Upd.one _ _ _ _)).trans (Upd.one _ _ _ _)).trans (Upd.one _ _ _ _)
        have RF := (((Q7.set 0 (.int .i64 1)).set 1 (.int .i64 0)).set 2 (.int .i64 0)).set 3 (.int .i64 0)
        have f0 := RF.cell (i := 0) rfl
        have f1 := RF.cell (i := 1) rfl
        have f2 := RF.cell (i := 2) rfl
        have f3 := RF.cell (i := 3) rfl
        have A99 := A7.keep U9 (fun i hi => (dm i hi).1)
        have g99 := g7.keep U9 (fun i hi e => (HS.out i hi).2.1 e)
        have up99 := up7.then U9 (fun i hi e => by have := HD.out; omega)
        obtain ⟨w9, hw9⟩ : ∃ w9, ((((w7.setCell ⟨D, 0, none⟩ (.int .i64 1)).setCell ⟨D, 1, none⟩ (.int .i64 0)).setCell ⟨D, 2, none⟩ (.int .i64 0)).setCell ⟨D, 3, none⟩ (.int .i64 0)) = w9 := ⟨_, rfl⟩
        rw [hw9] at f0 f1 f2 f3 A99 g99 up99 ⊢
        refine bodyPost_ret (v := didm (1, false, false, false)) (by simp [results, Try.results109, go_sem, didm, b2i, f0, f1, f2, f3]) rfl ?_
        rw [E]
        exact ⟨rfl, A99, R', g99, up99, fun i hi => (by rw [HD.out]; exact (HS.out i hi).1)⟩
      · have t3 := A5.top.cell (i := 3) rfl
        have p3 := A5.prow.cell (col_get (t := q) (by rw [A5.l1]; exact hq))
        rw [HX.out] at p3
        dsimp only at p3
        have p4 := A5.prow.frozen q
        have A6 := A5.setPc q hq ⟨pa, kn, ka, kl, kw, 2⟩ (by rw [HX.out]) ⟨o1, o2, o3, o4, o5, (show (0 : Int) ≤ 2 ∧ (2 : Int) ≤ 7 by decide)⟩
        have U6 := Upd.one w5 b.pc q (.int .i64 2)
        have R6 := R5.upd U6 (fun e => (dm b.pc (fm_all b).2.2.2.2.2.1).2 e.symm)
        have Q6 := Q5.upd U6 (fun e => (dm b.pc (fm_all b).2.2.2.2.2.1).1 e.symm)
        have g6 := g5.keep U6 (fun i hi e => (HS.out i hi).2.2.2 (e ▸ (fm_all b).2.2.2.2.2.1))
        have up6 := up5.trans (U6.mono fun i _ e => .inl (e ▸ (fm_all b).2.2.2.2.2.1))
        go_upto_region 38 with (fail)
        obtain ⟨w6, hw6⟩ : ∃ w', w5.setCell ⟨b.pc, q, none⟩ (.int .i64 2) = w' := ⟨_, rfl⟩
        rw [hw6] at A6 R6 Q6 g6 up6 ⊢
        clear hw6 A5 R5 Q5 g5 up5 U6
        clear t3 p3 p4
        have r0 := R6.cell (i := 0) rfl
        have s0 := Q6.cell (i := 0) rfl
        have z0 := Q6.frozen 0
        have r1 := R6.cell (i := 1) rfl
        have s1 := Q6.cell (i := 1) rfl
        have z1 := Q6.frozen 1
        have r2 := R6.cell (i := 2) rfl
        have s2 := Q6.cell (i := 2) rfl
        have z2 := Q6.frozen 2
        have r3 := R6.cell (i := 3) rfl
        have s3 := Q6.cell (i := 3) rfl
        have z3 := Q6.frozen 3
        go_wp2_with fail
        have E : lockS n 0 st q q = ((0, false, false, false), { st with ts := Cache.after n st.ws.length st.ts q (8 + ka) false }) := by
          unfold lockS; rw [HX.out]; dsimp only; rw [if_neg (show ¬ ((2 : Int) = 0) by decide), if_neg (show ¬ ((2 : Int) = 1) by decide), if_pos rfl, hnA, hg, if_neg (show ¬ (g / 4 ≠ pa ∨ g % 2 = 1) from fun e => by have := HPA.out; have := HPS.out; omega), if_neg (show ¬ (g / 2 % 2 = 0) by rw [HPW.out]; decide)]
        have U9 : Upd (fun i => i = D) w6 ((((w6.setCell ⟨D, 0, none⟩ (.int .i64 0)).setCell ⟨D, 1, none⟩ (.int .i64 0)).setCell ⟨D, 2, none⟩ (.int .i64 0)).setCell ⟨D, 3, none⟩ (.int .i64 0)) := (((Upd.one _ _ _ _).trans (Upd.one _ _ _ _)).trans (Upd.one _ _ _ _)).trans (Upd.one _ _ _ _)
        have RF := (((Q6.set 0 (.int .i64 0)).set 1 (.int .i64 0)).set 2 (.int .i64 0)).set 3 (.int .i64 0)
        have f0 := RF.cell (i := 0) rfl
        have f1 := RF.cell (i := 1) rfl
        have f2 := RF.cell (i := 2) rfl
        have f3 := RF.cell (i := 3) rfl
        have A99 := A6.keep U9 (fun i hi => (dm i hi).1)
        have g99 := g6.keep U9 (fun i hi e => (HS.out i hi).2.1 e)
        have up99 := up6.then U9 (fun i hi e => by have := HD.out; omega)
        obtain ⟨w9, hw9⟩ : ∃ w9, ((((w6.setCell ⟨D, 0, none⟩ (.int .i64 0)).setCell ⟨D, 1, none⟩ (.int .i64 0)).setCell ⟨D, 2, none⟩ (.int .i64 0)).setCell ⟨D, 3, none⟩ (.int .i64 0)) = w9 := ⟨_, rfl⟩
        rw [hw9] at f0 f1 f2 f3 A99 g99 up99 ⊢
        refine bodyPost_ret (v := didm (0, false, false, false)) (by simp [results, Try.results109, go_sem, didm, b2i, f0, f1, f2, f3]) rfl ?_
        rw [E]
        rw [← HX.out, pls_same _ _ hp] at A99
        exact ⟨rfl, A99, R', g99, up99, fun i hi => (by rw [HD.out]; exact (HS.out i hi).1)⟩
    · have t3 := A5.top.cell (i := 3) rfl
      have p3 := A5.prow.cell (col_get (t := q) (by rw [A5.l1]; exact hq))
      rw [HX.out] at p3
      dsimp only at p3
      have p4 := A5.prow.frozen q
      have A6 := A5.setPc q hq ⟨pa, kn, ka, kl, kw, 3⟩ (by rw [HX.out]) ⟨o1, o2, o3, o4, o5, (show (0 : Int) ≤ 3 ∧ (3 : Int) ≤ 7 by decide)⟩
      have U6 := Upd.one w5 b.pc q (.int .i64 3)
      have R6 := R5.upd U6 (fun e => (dm b.pc (fm_all b).2.2.2.2.2.1).2 e.symm)
      have Q6 := Q5.upd U6 (fun e => (dm b.pc (fm_all b).2.2.2.2.2.1).1 e.symm)
      have g6 := g5.keep U6 (fun i hi e => (HS.out i hi).2.2.2 (e ▸ (fm_all b).2.2.2.2.2.1))
      have up6 := up5.trans (U6.mono fun i _ e => .inl (e ▸ (fm_all b).2.2.2.2.2.1))
      go_upto_region 38 with (fail)
      obtain ⟨w6, hw6⟩ : ∃ w', w5.setCell ⟨b.pc, q, none⟩ (.int .i64 3) = w' := ⟨_, rfl⟩
      rw [hw6] at A6 R6 Q6 g6 up6 ⊢
      clear hw6 A5 R5 Q5 g5 up5 U6
      clear t3 p3 p4
      have r0 := R6.cell (i := 0) rfl
      have s0 := Q6.cell (i := 0) rfl
      have z0 := Q6.frozen 0
      have r1 := R6.cell (i := 1) rfl
      have s1 := Q6.cell (i := 1) rfl
      have z1 := Q6.frozen 1
      have r2 := R6.cell (i := 2) rfl
      have s2 := Q6.cell (i := 2) rfl
      have z2 := Q6.frozen 2
      have r3 := R6.cell (i := 3) rfl
      have s3 := Q6.cell (i := 3) rfl
      have z3 := Q6.frozen 3
      go_wp2_with fail
      have E : lockS n 0 st q q = ((0, false, false, false), { st with pls := st.pls.set q ⟨pa, kn, ka, kl, kw, 3⟩, ts := Cache.after n st.ws.length st.ts q (8 + ka) false }) := by
        unfold lockS; rw [HX.out]; dsimp only; rw [if_neg (show ¬ ((2 : Int) = 0) by decide), if_neg (show ¬ ((2 : Int) = 1) by decide), if_pos rfl, hnA, hg, if_pos (show g / 4 ≠ pa ∨ g % 2 = 1 by have := HPA.out; have := HPS.out; omega)]
      have U9 : Upd (fun i => i = D) w6 ((((w6.setCell ⟨D, 0, none⟩ (.int .i64 0)).setCell ⟨D, 1, none⟩ (.int .i64 0)).setCell ⟨D, 2, none⟩ (.int .i64 0)).setCell ⟨D, 3, none⟩ (.int .i64 0)) := (((Upd.one _ _ _ _).trans (Upd.one _ _ _ _)).trans (Upd.one _ _ _ _)).trans (Upd.one _ _ _ _)
      have RF := (((Q6.set 0 (.int .i64 0)).set 1 (.int .i64 0)).set 2 (.int .i64 0)).set 3 (.int .i64 0)
      have f0 := RF.cell (i := 0) rfl
      have f1 := RF.cell (i := 1) rfl
      have f2 := RF.cell (i := 2) rfl
      have f3 := RF.cell (i := 3) rfl
      have A99 := A6.keep U9 (fun i hi => (dm i hi).1)
      have g99 := g6.keep U9 (fun i hi e => (HS.out i hi).2.1 e)
      have up99 := up6.then U9 (fun i hi e => by have := HD.out; omega)
      obtain ⟨w9, hw9⟩ : ∃ w9, ((((w6.setCell ⟨D, 0, none⟩ (.int .i64 0)).setCell ⟨D, 1, none⟩ (.int .i64 0)).setCell ⟨D, 2, none⟩ (.int .i64 0)).setCell ⟨D, 3, none⟩ (.int .i64 0)) = w9 := ⟨_, rfl⟩
      rw [hw9] at f0 f1 f2 f3 A99 g99 up99 ⊢
      refine bodyPost_ret (v := didm (0, false, false, false)) (by simp [results, Try.results109, go_sem, didm, b2i, f0, f1, f2, f3]) rfl ?_
      rw [E]
      exact ⟨rfl, A99, R', g99, up99, fun i hi => (by rw [HD.out]; exact (HS.out i hi).1)⟩
  · have hpk' : (pa == kc) = false := by simpa using hpk
    have t3 := A5.top.cell (i := 3) rfl
    have p3 := A5.prow.cell (col_get (t := q) (by rw [A5.l1]; exact hq))
    rw [HX.out] at p3
    dsimp only at p3
    have p4 := A5.prow.frozen q
    have A6 := A5.setPc q hq ⟨kc, kn, ka, kl, kw, 3⟩ (by rw [HX.out]) ⟨o1, o2, o3, o4, o5, (show (0 : Int) ≤ 3 ∧ (3 : Int) ≤ 7 by decide)⟩
    have U6 := Upd.one w5 b.pc q (.int .i64 3)
    have R6 := R5.upd U6 (fun e => (dm b.pc (fm_all b).2.2.2.2.2.1).2 e.symm)
    have Q6 := Q5.upd U6 (fun e => (dm b.pc (fm_all b).2.2.2.2.2.1).1 e.symm)
    have g6 := g5.keep U6 (fun i hi e => (HS.out i hi).2.2.2 (e ▸ (fm_all b).2.2.2.2.2.1))
    have up6 := up5.trans (U6.mono fun i _ e => .inl (e ▸ (fm_all b).2.2.2.2.2.1))
    go_upto_region 38 with (fail)
    obtain ⟨w6, hw6⟩ : ∃ w', w5.setCell ⟨b.pc, q, none⟩ (.int .i64 3) = w' := ⟨_, rfl⟩
    rw [hw6] at A6 R6 Q6 g6 up6 ⊢
    clear hw6 A5 R5 Q5 g5 up5 U6
    clear t3 p3 p4
    have r0 := R6.cell (i := 0) rfl
    have s0 := Q6.cell (i := 0) rfl
    have z0 := Q6.frozen 0
    have r1 := R6.cell (i := 1) rfl
    have s1 := Q6.cell (i := 1) rfl
    have z1 := Q6.frozen 1
    have r2 := R6.cell (i := 2) rfl
    have s2 := Q6.cell (i := 2) rfl
    have z2 := Q6.frozen 2
    have r3 := R6.cell (i := 3) rfl
    have s3 := Q6.cell (i := 3) rfl
    have z3 := Q6.frozen 3
    go_wp2_with fail
    have E : lockS n 0 st q q = ((0, false, false, false), { st with pls := st.pls.set q ⟨kc, kn, ka, kl, kw, 3⟩, ts := Cache.after n st.ws.length st.ts q (8 + ka) false }) := by
      unfold lockS; rw [HX.out]; dsimp only; rw [if_neg (show ¬ ((2 : Int) = 0) by decide), if_neg (show ¬ ((2 : Int) = 1) by decide), if_pos rfl, hnA, hg, if_pos (show g / 4 ≠ kc ∨ g % 2 = 1 by have := HPA.out; have := HPS.out; omega)]
    have U9 : Upd (fun i => i = D) w6 ((((w6.setCell ⟨D, 0, none⟩ (.int .i64 0)).setCell ⟨D, 1, none⟩ (.int .i64 0)).setCell ⟨D, 2, none⟩ (.int .i64 0)).setCell ⟨D, 3, none⟩ (.int .i64 0)) := (((Upd.one _ _ _ _).trans (Upd.one _ _ _ _)).trans (Upd.one _ _ _ _)).trans (Upd.one _ _ _ _)
    have RF := (((Q6.set 0 (.int .i64 0)).set 1 (.int .i64 0)).set 2 (.int .i64 0)).set 3 (.int .i64 0)
    have f0 := RF.cell (i := 0) rfl
    have f1 := RF.cell (i := 1) rfl
    have f2 := RF.cell (i := 2) rfl
    have f3 := RF.cell (i := 3) rfl
    have A99 := A6.keep U9 (fun i hi => (dm i hi).1)
    have g99 := g6.keep U9 (fun i hi e => (HS.out i hi).2.1 e)
    have up99 := up6.then U9 (fun i hi e => by have := HD.out; omega)
    obtain ⟨w9, hw9⟩ : ∃ w9, ((((w6.setCell ⟨D, 0, none⟩ (.int .i64 0)).setCell ⟨D, 1, none⟩ (.int .i64 0)).setCell ⟨D, 2, none⟩ (.int .i64 0)).setCell ⟨D, 3, none⟩ (.int .i64 0)) = w9 := ⟨_, rfl⟩
    rw [hw9] at f0 f1 f2 f3 A99 g99 up99 ⊢
    refine bodyPost_ret (v := didm (0, false, false, false)) (by simp [results, Try.results109, go_sem, didm, b2i, f0, f1, f2, f3]) rfl ?_
    rw [E]
    exact ⟨rfl, A99, R', g99, up99, fun i hi => (by rw [HD.out]; exact (HS.out i hi).1)⟩
set_option maxHeartbeats 16000000 in
set_option maxRecDepth 20000 in
theorem lock3 {w : World} {st : St} {y n q : Nat} {R : Nat → Prop} (h : MAt b w st.seats st.pls) (hR : Ref04.RO w y R n st.ws st.ts) (hd : ∀ i, R i → ¬ fm b i) (hf : st.ts.length < 1000000) (n8 : n ≤ 8) (hn : st.seats.length = n) (hws : st.ws.length ≤ 100000) (hwd : Mem.Wd st.ws) (hq : q < st.seats.length) (hs : (st.pls.getD q p0).s = 3) :
    Calls Try.prog 109 #[.pointer (some ⟨b.x, 0, none⟩), .pointer (some ⟨y, 0, none⟩), .int .i64 q, .int .i64 q] w fun e w' =>
      e = .returned (didm (lockS n 0 st q q).1) ∧ MAt b w' st.seats (lockS n 0 st q q).2.pls ∧
      ∃ R', Ref04.RO w' y R' n (lockS n 0 st q q).2.ws (lockS n 0 st q q).2.ts ∧ Upd (fun i => fm b i ∨ R i) w w' ∧ ∀ i, R' i → R i ∨ w.heap.size ≤ i := by
  have hp : q < st.pls.length := by rw [h.l1]; exact hq
  have hok := h.ok q hp
  obtain ⟨⟨kc, kn, ka, kl, kw, ks⟩, hx⟩ : ∃ x, st.pls.getD q p0 = x := ⟨_, rfl⟩
  rw [hx] at hok hs
  obtain ⟨o1, o2, o3, o4, o5, o6⟩ := hok
  dsimp only at o1 o2 o3 o4 o5 o6 hs
  subst hs
  have c2 := h.top.cell (i := 2) rfl
  have c3 := h.top.cell (i := 3) rfl
  have k1 := h.krow.cell (col_get hp)
  have s1 := h.prow.cell (col_get hp)
  rw [hx] at k1 s1
  dsimp only at k1 s1
  have hlx := h.lt b.x (fm_all b).1
  have hlk := h.lt b.kb (fm_all b).2.2.2.2.1
  have hlp := h.lt b.pc (fm_all b).2.2.2.2.2.1
  have hlm := h.lt
  have hlr := hR.lt
  have D1 : Upd (fun _ => False) w ((w.alloc (.cells #[.int .i64 0, .int .i64 0, .int .i64 0, .int .i64 0] 130)).alloc (.cells #[.int .i64 0, .int .i64 0, .int .i64 0, .int .i64 0] 130)) := ((Upd.refl _ w).alloc _).alloc _
  have h1 := h.keep D1 (fun _ _ => id)
  have g1 := hR.keep D1 (fun _ _ => id)
  have R0 : Row ((w.alloc (.cells #[.int .i64 0, .int .i64 0, .int .i64 0, .int .i64 0] 130)).alloc (.cells #[.int .i64 0, .int .i64 0, .int .i64 0, .int .i64 0] 130)) w.heap.size [.int .i64 0, .int .i64 0, .int .i64 0, .int .i64 0] := (Row.new' rfl).alloc _
  have R1 : Row ((w.alloc (.cells #[.int .i64 0, .int .i64 0, .int .i64 0, .int .i64 0] 130)).alloc (.cells #[.int .i64 0, .int .i64 0, .int .i64 0, .int .i64 0] 130)) (w.heap.size + 1) [.int .i64 0, .int .i64 0, .int .i64 0, .int .i64 0] := Row.new' (by simp)
  have up1 : Upd (fun i => fm b i ∨ R i) w ((w.alloc (.cells #[.int .i64 0, .int .i64 0, .int .i64 0, .int .i64 0] 130)).alloc (.cells #[.int .i64 0, .int .i64 0, .int .i64 0, .int .i64 0] 130)) := D1.mono fun _ _ z => z.elim
  have hq1 : (0 : Int) ≤ (q : Int) := by omega
  have hq2 : (q : Int) < (st.seats.length : Int) := by omega
  obtain ⟨D, hD⟩ : ∃ D, w.heap.size = D := ⟨_, rfl⟩
  have HD := Lib.hid hD
  obtain ⟨W, hW⟩ : ∃ W, (w.alloc (.cells #[.int .i64 0, .int .i64 0, .int .i64 0, .int .i64 0] 130)).alloc (.cells #[.int .i64 0, .int .i64 0, .int .i64 0, .int .i64 0] 130) = W := ⟨_, rfl⟩
  rw [hW] at h1 g1 R0 R1 up1
  rw [hD] at R0 R1 hlm hlr
  have HW := Lib.hid hW
  have HLM := Lib.hid hlm
  have HLR := Lib.hid hlr
  have HX := Lib.hid hx
  have HR := Lib.hid hR
  have hWD : W.heap.size = D + 2 := by rw [← hW, ← hD]; simp
  have HWD := Lib.hid hWD
  have nx : ¬ R b.x := fun h => hd _ h (fm_all b).1
  have nn : ¬ R b.nb := fun h => hd _ h (fm_all b).2.2.2.2.2.2.1
  have na : ¬ R b.ab := fun h => hd _ h (fm_all b).2.2.2.2.2.2.2.1
  have no : ¬ R b.ob := fun h => hd _ h (fm_all b).2.2.2.2.2.2.2.2.1
  have nw : ¬ R b.wb := fun h => hd _ h (fm_all b).2.2.2.2.2.2.2.2.2
  have nD : ¬ R D := fun h => by have := HLR.out D h; omega
  have nD1 : ¬ R (D + 1) := fun h => by have := HLR.out _ h; omega
  have HF := Lib.hid hf
  have HK64 := Lib.hid (show n ≤ 64 by omega)
  have HWS := Lib.hid hws
  have HDD := Lib.hid hd
  have HWDD := Lib.hid hwd
  have ne1 : IntKind.i64.wrap (3 + 1) = 3 + 1 := rfl
  clear hlm hlr hR D1 hW hD hd hf hws h hx hWD hn hwd
  have c1a := h1.top.cell (i := 1) rfl
  have c6a := h1.top.cell (i := 6) rfl
  have hnA : ownA 0 kc = 1 + kc := by unfold ownA; omega
  have hu1 : IntKind.i64.wrap (1 + kc) = 1 + kc := IntWalk.i64_in _ (by omega)
  have hu2 : IntKind.i64.wrap 1 = 1 := rfl
  obtain ⟨g, hg⟩ : ∃ g, rd n st.ws q (1 + kc) = g := ⟨_, rfl⟩
  have hgw := rd_wd HWDD.out n q (1 + kc)
  rw [hg] at hgw
  have KA := Ref04.loadR W.drew (g1.drewN 1) HF.out HK64.out HWS.out q (1 + kc)
  rw [hg] at KA
  have HKA := Lib.hid KA
  clear KA
  have hgi : IntKind.i64.wrap g = g := IntWalk.i64_in _ (by omega)
  have h1d := h1.keep ((Upd.refl (fun _ => False) W).drewN 1) (fun _ _ => id)
  have a0 := h1.orow.cell (col_get hp)
  go_enter Try.func109, Try.ntmps109
  go_upto_block 0 with (fail)
  rw [HW.out, HD.out]
  clear c2 c3 k1 s1 hlx hlk hlp
  go_wp2_with fail
  go_region_held3 (fun w' => w'.cell? ⟨b.x, 1, none⟩ = some (.int .i64 0) ∧ w'.cell? ⟨b.x, 6, none⟩ = some (.slice (some ⟨b.ob, 0, none⟩) st.seats.length st.seats.length)) ((first | exact ⟨c1a, c6a⟩ | exact ⟨c1e, c6e⟩ | exact ⟨c1f, c6f⟩))
      ((first
        | (go_at_call 110; refine HKA.out.mono ?_; rintro e w5 ⟨rfl, R', hR5, u5, hR5s⟩; have c1e := cell_upd u5 c1a nx; have c6e := cell_upd u5 c6a nx; have A5' := h1d.keep u5 (fun i hi h => HDD.out i h hi); have m5 := cell_upd u5 a0 no; have fz5 := A5'.orow.frozen q; have A6' := A5'.setOf q hq ⟨kc, kn, ka, g, kw, 3⟩ (by rw [HX.out]) ⟨o1, o2, o3, hgw, o5, o6⟩; have c1f := A6'.top.cell (i := 1) rfl; have c6f := A6'.top.cell (i := 6) rfl)))
  have HS : Hid (∀ i, R' i → (R i ∨ D ≤ i) ∧ i ≠ D ∧ i ≠ D + 1 ∧ ¬ fm b i) := Lib.hid fun i hi => by
    rcases hR5s i hi with h | h
    · exact ⟨.inl h, by have := HLR.out i h; omega, by have := HLR.out i h; omega, HDD.out i h⟩
    · have := HWD.out
      have h : W.heap.size ≤ i := h
      exact ⟨.inr (by omega), by omega, by omega, fun e => by have := HLM.out i e; omega⟩
  have A5 := h1d.keep u5 (fun i hi h => HDD.out i h hi)
  have R5 := (R1.drewN 1).upd u5 nD1
  have Q5 := (R0.drewN 1).upd u5 nD
  have up5 : Upd (fun i => fm b i ∨ R i) w w5 := (up1.drewN 1).trans (u5.mono fun i _ h => .inr h)
  have g5 := hR5
  have dm : ∀ i, fm b i → i ≠ D ∧ i ≠ D + 1 := fun i hi => by have := HLM.out i hi; exact ⟨by omega, by omega⟩
  clear c1a c1e c1f c6a c6e c6f A5' A6' m5 fz5 a0
  have A6 := A5.setOf q hq ⟨kc, kn, ka, g, kw, 3⟩ (by rw [HX.out]) ⟨o1, o2, o3, hgw, o5, o6⟩
  have U6 := Upd.one w5 b.ob q (.int .i64 g)
  have R6 := R5.upd U6 (fun e => (dm b.ob (fm_all b).2.2.2.2.2.2.2.2.1).2 e.symm)
  have Q6 := Q5.upd U6 (fun e => (dm b.ob (fm_all b).2.2.2.2.2.2.2.2.1).1 e.symm)
  have g6 := g5.keep U6 (fun i hi e => (HS.out i hi).2.2.2 (e ▸ (fm_all b).2.2.2.2.2.2.2.2.1))
  have up6 := up5.trans (U6.mono fun i _ e => .inl (e ▸ (fm_all b).2.2.2.2.2.2.2.2.1))
  obtain ⟨w6, hw6⟩ : ∃ w', w5.setCell ⟨b.ob, q, none⟩ (.int .i64 g) = w' := ⟨_, rfl⟩
  rw [hw6] at A6 R6 Q6 g6 up6 ⊢
  clear hw6 A5 R5 Q5 g5 up5 U6
  have t3 := A6.top.cell (i := 3) rfl
  have p3 := A6.prow.cell (col_get (t := q) (by rw [A6.l1]; exact hq))
  rw [pl_set _ _ hp, if_pos rfl] at p3
  dsimp only at p3
  have p4 := A6.prow.frozen q
  have A7 := A6.setPc q hq ⟨kc, kn, ka, g, kw, 4⟩ (by rw [pl_set _ _ hp, if_pos rfl]) ⟨o1, o2, o3, hgw, o5, (show (0 : Int) ≤ 4 ∧ (4 : Int) ≤ 7 by decide)⟩
  have U7 := Upd.one w6 b.pc q (.int .i64 4)
  have R7 := R6.upd U7 (fun e => (dm b.pc (fm_all b).2.2.2.2.2.1).2 e.symm)
  have Q7 := Q6.upd U7 (fun e => (dm b.pc (fm_all b).2.2.2.2.2.1).1 e.symm)
  have g7 := g6.keep U7 (fun i hi e => (HS.out i hi).2.2.2 (e ▸ (fm_all b).2.2.2.2.2.1))
  have up7 := up6.trans (U7.mono fun i _ e => .inl (e ▸ (fm_all b).2.2.2.2.2.1))
  go_upto_region 38 with (fail)
  obtain ⟨w7, hw7⟩ : ∃ w', w6.setCell ⟨b.pc, q, none⟩ (.int .i64 4) = w' := ⟨_, rfl⟩
  rw [hw7] at A7 R7 Q7 g7 up7 ⊢
  clear hw7 A6 R6 Q6 g6 up6 U7
  clear t3 p3 p4
  have r0 := R7.cell (i := 0) rfl
  have s0 := Q7.cell (i := 0) rfl
  have z0 := Q7.frozen 0
  have r1 := R7.cell (i := 1) rfl
  have s1 := Q7.cell (i := 1) rfl
  have z1 := Q7.frozen 1
  have r2 := R7.cell (i := 2) rfl
  have s2 := Q7.cell (i := 2) rfl
  have z2 := Q7.frozen 2
  have r3 := R7.cell (i := 3) rfl
  have s3 := Q7.cell (i := 3) rfl
  have z3 := Q7.frozen 3
  go_wp2_with fail
  have E : lockS n 0 st q q = ((0, false, false, false), { st with pls := st.pls.set q ⟨kc, kn, ka, g, kw, 4⟩, ts := Cache.after n st.ws.length st.ts q (1 + kc) false }) := by
    unfold lockS; rw [HX.out]; dsimp only; rw [if_neg (show ¬ ((3 : Int) = 0) by decide), if_neg (show ¬ ((3 : Int) = 1) by decide), if_neg (show ¬ ((3 : Int) = 2) by decide), if_pos rfl, hnA, hg]
  have U9 : Upd (fun i => i = D) w7 ((((w7.setCell ⟨D, 0, none⟩ (.int .i64 0)).setCell ⟨D, 1, none⟩ (.int .i64 0)).setCell ⟨D, 2, none⟩ (.int .i64 0)).setCell ⟨D, 3, none⟩ (.int .i64 0)) := (((Upd.one _ _ _ _).trans (Upd.one _ _ _ _)).trans (Upd.one _ _ _ _)).trans (Upd.one _ _ _ _)
  have RF := (((Q7.set 0 (.int .i64 0)).set 1 (.int .i64 0)).set 2 (.int .i64 0)).set 3 (.int .i64 0)
  have f0 := RF.cell (i := 0) rfl
  have f1 := RF.cell (i := 1) rfl
  have f2 := RF.cell (i := 2) rfl
  have f3 := RF.cell (i := 3) rfl
  have A99 := A7.keep U9 (fun i hi => (dm i hi).1)
  have g99 := g7.keep U9 (fun i hi e => (HS.out i hi).2.1 e)
  have up99 := up7.then U9 (fun i hi e => by have := HD.out; omega)
  obtain ⟨w9, hw9⟩ : ∃ w9, ((((w7.setCell ⟨D, 0, none⟩ (.int .i64 0)).setCell ⟨D, 1, none⟩ (.int .i64 0)).setCell ⟨D, 2, none⟩ (.int .i64 0)).setCell ⟨D, 3, none⟩ (.int .i64 0)) = w9 := ⟨_, rfl⟩
  rw [hw9] at f0 f1 f2 f3 A99 g99 up99 ⊢
  refine bodyPost_ret (v := didm (0, false, false, false)) (by simp [results, Try.results109, go_sem, didm, b2i, f0, f1, f2, f3]) rfl ?_
  rw [E]
  rw [List.set_set] at A99
  exact ⟨rfl, A99, R', g99, up99, fun i hi => (by rw [HD.out]; exact (HS.out i hi).1)⟩
set_option maxHeartbeats 16000000 in
set_option maxRecDepth 20000 in
theorem lock4 {w : World} {st : St} {y n q : Nat} {R : Nat → Prop} (h : MAt b w st.seats st.pls) (hR : Ref04.RO w y R n st.ws st.ts) (hd : ∀ i, R i → ¬ fm b i) (hf : st.ts.length < 1000000) (n8 : n ≤ 8) (hn : st.seats.length = n) (hws : st.ws.length ≤ 100000) (hwd : Mem.Wd st.ws) (hq : q < st.seats.length) (hs : (st.pls.getD q p0).s = 4) :
    Calls Try.prog 109 #[.pointer (some ⟨b.x, 0, none⟩), .pointer (some ⟨y, 0, none⟩), .int .i64 q, .int .i64 q] w fun e w' =>
      e = .returned (didm (lockS n 0 st q q).1) ∧ MAt b w' st.seats (lockS n 0 st q q).2.pls ∧
      ∃ R', Ref04.RO w' y R' n (lockS n 0 st q q).2.ws (lockS n 0 st q q).2.ts ∧ Upd (fun i => fm b i ∨ R i) w w' ∧ ∀ i, R' i → R i ∨ w.heap.size ≤ i := by
  have hp : q < st.pls.length := by rw [h.l1]; exact hq
  have hok := h.ok q hp
  obtain ⟨⟨kc, kn, ka, kl, kw, ks⟩, hx⟩ : ∃ x, st.pls.getD q p0 = x := ⟨_, rfl⟩
  rw [hx] at hok hs
  obtain ⟨o1, o2, o3, o4, o5, o6⟩ := hok
  dsimp only at o1 o2 o3 o4 o5 o6 hs
  subst hs
  have c2 := h.top.cell (i := 2) rfl
  have c3 := h.top.cell (i := 3) rfl
  have k1 := h.krow.cell (col_get hp)
  have s1 := h.prow.cell (col_get hp)
  rw [hx] at k1 s1
  dsimp only at k1 s1
  have hlx := h.lt b.x (fm_all b).1
  have hlk := h.lt b.kb (fm_all b).2.2.2.2.1
  have hlp := h.lt b.pc (fm_all b).2.2.2.2.2.1
  have hlm := h.lt
  have hlr := hR.lt
  have D1 : Upd (fun _ => False) w ((w.alloc (.cells #[.int .i64 0, .int .i64 0, .int .i64 0, .int .i64 0] 130)).alloc (.cells #[.int .i64 0, .int .i64 0, .int .i64 0, .int .i64 0] 130)) := ((Upd.refl _ w).alloc _).alloc _
  have h1 := h.keep D1 (fun _ _ => id)
  have g1 := hR.keep D1 (fun _ _ => id)
  have R0 : Row ((w.alloc (.cells #[.int .i64 0, .int .i64 0, .int .i64 0, .int .i64 0] 130)).alloc (.cells #[.int .i64 0, .int .i64 0, .int .i64 0, .int .i64 0] 130)) w.heap.size [.int .i64 0, .int .i64 0, .int .i64 0, .int .i64 0] := (Row.new' rfl).alloc _
  have R1 : Row ((w.alloc (.cells #[.int .i64 0, .int .i64 0, .int .i64 0, .int .i64 0] 130)).alloc (.cells #[.int .i64 0, .int .i64 0, .int .i64 0, .int .i64 0] 130)) (w.heap.size + 1) [.int .i64 0, .int .i64 0, .int .i64 0, .int .i64 0] := Row.new' (by simp)
  have up1 : Upd (fun i => fm b i ∨ R i) w ((w.alloc (.cells #[.int .i64 0, .int .i64 0, .int .i64 0, .int .i64 0] 130)).alloc (.cells #[.int .i64 0, .int .i64 0, .int .i64 0, .int .i64 0] 130)) := D1.mono fun _ _ z => z.elim
  have hq1 : (0 : Int) ≤ (q : Int) := by omega
  have hq2 : (q : Int) < (st.seats.length : Int) := by omega
  obtain ⟨D, hD⟩ : ∃ D, w.heap.size = D := ⟨_, rfl⟩
  have HD := Lib.hid hD
  obtain ⟨W, hW⟩ : ∃ W, (w.alloc (.cells #[.int .i64 0, .int .i64 0, .int .i64 0, .int .i64 0] 130)).alloc (.cells #[.int .i64 0, .int .i64 0, .int .i64 0, .int .i64 0] 130) = W := ⟨_, rfl⟩
  rw [hW] at h1 g1 R0 R1 up1
  rw [hD] at R0 R1 hlm hlr
  have HW := Lib.hid hW
  have HLM := Lib.hid hlm
  have HLR := Lib.hid hlr
  have HX := Lib.hid hx
  have HR := Lib.hid hR
  have hWD : W.heap.size = D + 2 := by rw [← hW, ← hD]; simp
  have HWD := Lib.hid hWD
  have nx : ¬ R b.x := fun h => hd _ h (fm_all b).1
  have nn : ¬ R b.nb := fun h => hd _ h (fm_all b).2.2.2.2.2.2.1
  have na : ¬ R b.ab := fun h => hd _ h (fm_all b).2.2.2.2.2.2.2.1
  have no : ¬ R b.ob := fun h => hd _ h (fm_all b).2.2.2.2.2.2.2.2.1
  have nw : ¬ R b.wb := fun h => hd _ h (fm_all b).2.2.2.2.2.2.2.2.2
  have nD : ¬ R D := fun h => by have := HLR.out D h; omega
  have nD1 : ¬ R (D + 1) := fun h => by have := HLR.out _ h; omega
  have HF := Lib.hid hf
  have HK64 := Lib.hid (show n ≤ 64 by omega)
  have HWS := Lib.hid hws
  have HDD := Lib.hid hd
  have HWDD := Lib.hid hwd
  have ne1 : IntKind.i64.wrap (4 + 1) = 4 + 1 := rfl
  clear hlm hlr hR D1 hW hD hd hf hws h hx hWD hn hwd
  have c1a := h1.top.cell (i := 1) rfl
  have c5a := h1.top.cell (i := 5) rfl
  have c6a := h1.top.cell (i := 6) rfl
  have l1a := h1.orow.cell (col_get hp)
  rw [HX.out] at l1a
  dsimp only at l1a
  have hu3 : IntKind.u32.wrap kl = kl := by rw [show IntKind.u32.wrap kl = kl % 4294967296 from rfl]; omega
  obtain ⟨g, hg⟩ : ∃ g, rd n st.ws q (0) = g := ⟨_, rfl⟩
  have hgw := rd_wd HWDD.out n q (0)
  rw [hg] at hgw
  have KA := Ref04.swapR W.drew (g1.drewN 1) HF.out HK64.out HWS.out q (0) kl
  rw [hg] at KA
  have HKA := Lib.hid KA
  clear KA
  have hgi : IntKind.i64.wrap g = g := IntWalk.i64_in _ (by omega)
  have h1d := h1.keep ((Upd.refl (fun _ => False) W).drewN 1) (fun _ _ => id)
  have a0 := h1.arow.cell (col_get hp)
  go_enter Try.func109, Try.ntmps109
  go_upto_block 0 with (fail)
  rw [HW.out, HD.out]
  clear c2 c3 k1 s1 hlx hlk hlp
  go_wp2_with fail
  go_region_held3 (fun w' => w'.cell? ⟨b.x, 1, none⟩ = some (.int .i64 0) ∧ w'.cell? ⟨b.x, 5, none⟩ = some (.slice (some ⟨b.ab, 0, none⟩) st.seats.length st.seats.length) ∧ w'.cell? ⟨b.x, 6, none⟩ = some (.slice (some ⟨b.ob, 0, none⟩) st.seats.length st.seats.length) ∧ w'.cell? ⟨b.ob, q, none⟩ = some (.int .i64 kl)) ((first | exact ⟨c1a, c5a, c6a, l1a⟩ | exact ⟨c1e, c5e, c6e, l1e⟩ | exact ⟨c1f, c5f, c6f, l1f⟩))
      ((first
        | (go_at_call 115; refine HKA.out.mono ?_; rintro e w5 ⟨rfl, R', hR5, u5, hR5s⟩; have c1e := cell_upd u5 c1a nx; have c5e := cell_upd u5 c5a nx; have c6e := cell_upd u5 c6a nx; have l1e := cell_upd u5 l1a no; have A5' := h1d.keep u5 (fun i hi h => HDD.out i h hi); have m5 := cell_upd u5 a0 na; have fz5 := A5'.arow.frozen q; have A6' := A5'.setAh q hq ⟨kc, kn, g, kl, kw, 4⟩ (by rw [HX.out]) ⟨o1, o2, hgw, o4, o5, o6⟩; have c1f := A6'.top.cell (i := 1) rfl; have c5f := A6'.top.cell (i := 5) rfl; have c6f := A6'.top.cell (i := 6) rfl; have l1f := A6'.orow.cell (col_get (t := q) (by rw [A6'.l1]; exact hq)); rw [pl_set _ _ hp, if_pos rfl] at l1f; dsimp only at l1f)))
  have HS : Hid (∀ i, R' i → (R i ∨ D ≤ i) ∧ i ≠ D ∧ i ≠ D + 1 ∧ ¬ fm b i) := Lib.hid fun i hi => by
    rcases hR5s i hi with h | h
    · exact ⟨.inl h, by have := HLR.out i h; omega, by have := HLR.out i h; omega, HDD.out i h⟩
    · have := HWD.out
      have h : W.heap.size ≤ i := h
      exact ⟨.inr (by omega), by omega, by omega, fun e => by have := HLM.out i e; omega⟩
  have A5 := h1d.keep u5 (fun i hi h => HDD.out i h hi)
  have R5 := (R1.drewN 1).upd u5 nD1
  have Q5 := (R0.drewN 1).upd u5 nD
  have up5 : Upd (fun i => fm b i ∨ R i) w w5 := (up1.drewN 1).trans (u5.mono fun i _ h => .inr h)
  have g5 := hR5
  have dm : ∀ i, fm b i → i ≠ D ∧ i ≠ D + 1 := fun i hi => by have := HLM.out i hi; exact ⟨by omega, by omega⟩
  clear c1a c1e c1f c5a c5e c5f c6a c6e c6f l1a l1e l1f A5' A6' m5 fz5 a0
  have A6 := A5.setAh q hq ⟨kc, kn, g, kl, kw, 4⟩ (by rw [HX.out]) ⟨o1, o2, hgw, o4, o5, o6⟩
  have U6 := Upd.one w5 b.ab q (.int .i64 g)
  have R6 := R5.upd U6 (fun e => (dm b.ab (fm_all b).2.2.2.2.2.2.2.1).2 e.symm)
  have Q6 := Q5.upd U6 (fun e => (dm b.ab (fm_all b).2.2.2.2.2.2.2.1).1 e.symm)
  have g6 := g5.keep U6 (fun i hi e => (HS.out i hi).2.2.2 (e ▸ (fm_all b).2.2.2.2.2.2.2.1))
  have up6 := up5.trans (U6.mono fun i _ e => .inl (e ▸ (fm_all b).2.2.2.2.2.2.2.1))
  obtain ⟨w6, hw6⟩ : ∃ w', w5.setCell ⟨b.ab, q, none⟩ (.int .i64 g) = w' := ⟨_, rfl⟩
  rw [hw6] at A6 R6 Q6 g6 up6 ⊢
  clear hw6 A5 R5 Q5 g5 up5 U6
  have y1 := R6.cell (i := 2) rfl
  have y2 := R6.frozen 2
  have U7 := Upd.one w6 (D + 1) 2 (.int .i64 1)
  have A7 := A6.keep U7 (fun i hi e => (dm i hi).2 e)
  have R7 := R6.set 2 (.int .i64 1)
  have Q7 := Q6.upd U7 (by omega)
  have g7 := g6.keep U7 (fun i hi e => (HS.out i hi).2.2.1 e)
  have up7 := up6.then U7 (fun i hi e => by have := HD.out; omega)
  go_upto_region 37 with (fail)
  obtain ⟨w7, hw7⟩ : ∃ w', w6.setCell ⟨D + 1, 2, none⟩ (.int .i64 1) = w' := ⟨_, rfl⟩
  rw [hw7] at A7 R7 Q7 g7 up7 ⊢
  clear hw7 A6 R6 Q6 g6 up6 U7
  clear y1 y2
  have t3 := A7.top.cell (i := 3) rfl
  have p3 := A7.prow.cell (col_get (t := q) (by rw [A7.l1]; exact hq))
  rw [pl_set _ _ hp, if_pos rfl] at p3
  dsimp only at p3
  have p4 := A7.prow.frozen q
  have A8 := A7.setPc q hq ⟨kc, kn, g, kl, kw, 5⟩ (by rw [pl_set _ _ hp, if_pos rfl]) ⟨o1, o2, hgw, o4, o5, (show (0 : Int) ≤ 5 ∧ (5 : Int) ≤ 7 by decide)⟩
  have U8 := Upd.one w7 b.pc q (.int .i64 5)
  have R8 := R7.upd U8 (fun e => (dm b.pc (fm_all b).2.2.2.2.2.1).2 e.symm)
  have Q8 := Q7.upd U8 (fun e => (dm b.pc (fm_all b).2.2.2.2.2.1).1 e.symm)
  have g8 := g7.keep U8 (fun i hi e => (HS.out i hi).2.2.2 (e ▸ (fm_all b).2.2.2.2.2.1))
  have up8 := up7.trans (U8.mono fun i _ e => .inl (e ▸ (fm_all b).2.2.2.2.2.1))
  go_upto_region 38 with (fail)
  obtain ⟨w8, hw8⟩ : ∃ w', w7.setCell ⟨b.pc, q, none⟩ (.int .i64 5) = w' := ⟨_, rfl⟩
  rw [hw8] at A8 R8 Q8 g8 up8 ⊢
  clear hw8 A7 R7 Q7 g7 up7 U8
  clear t3 p3 p4
  have r0 := R8.cell (i := 0) rfl
  have s0 := Q8.cell (i := 0) rfl
  have z0 := Q8.frozen 0
  have r1 := R8.cell (i := 1) rfl
  have s1 := Q8.cell (i := 1) rfl
  have z1 := Q8.frozen 1
  have r2 := R8.cell (i := 2) rfl
  have s2 := Q8.cell (i := 2) rfl
  have z2 := Q8.frozen 2
  have r3 := R8.cell (i := 3) rfl
  have s3 := Q8.cell (i := 3) rfl
  have z3 := Q8.frozen 3
  go_wp2_with fail
  have E : lockS n 0 st q q = ((0, false, true, false), { st with pls := st.pls.set q ⟨kc, kn, g, kl, kw, 5⟩, ws := wrt n st.ws q 0 kl, ts := Cache.after n st.ws.length st.ts q (0) true }) := by
    unfold lockS; rw [HX.out]; dsimp only; rw [if_neg (show ¬ ((4 : Int) = 0) by decide), if_neg (show ¬ ((4 : Int) = 1) by decide), if_neg (show ¬ ((4 : Int) = 2) by decide), if_neg (show ¬ ((4 : Int) = 3) by decide), if_pos rfl, hg]
  have U9 : Upd (fun i => i = D) w8 ((((w8.setCell ⟨D, 0, none⟩ (.int .i64 0)).setCell ⟨D, 1, none⟩ (.int .i64 0)).setCell ⟨D, 2, none⟩ (.int .i64 1)).setCell ⟨D, 3, none⟩ (.int .i64 0)) := (((Upd.one _ _ _ _).trans (Upd.one _ _ _ _)).trans (Upd.one _ _ _ _)).trans (Upd.one _ _ _ _)
  have RF := (((Q8.set 0 (.int .i64 0)).set 1 (.int .i64 0)).set 2 (.int .i64 1)).set 3 (.int .i64 0)
  have f0 := RF.cell (i := 0) rfl
  have f1 := RF.cell (i := 1) rfl
  have f2 := RF.cell (i := 2) rfl
  have f3 := RF.cell (i := 3) rfl
  have A99 := A8.keep U9 (fun i hi => (dm i hi).1)
  have g99 := g8.keep U9 (fun i hi e => (HS.out i hi).2.1 e)
  have up99 := up8.then U9 (fun i hi e => by have := HD.out; omega)
  obtain ⟨w9, hw9⟩ : ∃ w9, ((((w8.setCell ⟨D, 0, none⟩ (.int .i64 0)).setCell ⟨D, 1, none⟩ (.int .i64 0)).setCell ⟨D, 2, none⟩ (.int .i64 1)).setCell ⟨D, 3, none⟩ (.int .i64 0)) = w9 := ⟨_, rfl⟩
  rw [hw9] at f0 f1 f2 f3 A99 g99 up99 ⊢
  refine bodyPost_ret (v := didm (0, false, true, false)) (by simp [results, Try.results109, go_sem, didm, b2i, f0, f1, f2, f3]) rfl ?_
  rw [E]
  rw [List.set_set] at A99
  exact ⟨rfl, A99, R', g99, up99, fun i hi => (by rw [HD.out]; exact (HS.out i hi).1)⟩
set_option maxHeartbeats 16000000 in
set_option maxRecDepth 20000 in
theorem lock5 {w : World} {st : St} {y n q : Nat} {R : Nat → Prop} (h : MAt b w st.seats st.pls) (hR : Ref04.RO w y R n st.ws st.ts) (hd : ∀ i, R i → ¬ fm b i) (hf : st.ts.length < 1000000) (n8 : n ≤ 8) (hn : st.seats.length = n) (hws : st.ws.length ≤ 100000) (hwd : Mem.Wd st.ws) (hq : q < st.seats.length) (hs : (st.pls.getD q p0).s = 5) :
    Calls Try.prog 109 #[.pointer (some ⟨b.x, 0, none⟩), .pointer (some ⟨y, 0, none⟩), .int .i64 q, .int .i64 q] w fun e w' =>
      e = .returned (didm (lockS n 0 st q q).1) ∧ MAt b w' st.seats (lockS n 0 st q q).2.pls ∧
      ∃ R', Ref04.RO w' y R' n (lockS n 0 st q q).2.ws (lockS n 0 st q q).2.ts ∧ Upd (fun i => fm b i ∨ R i) w w' ∧ ∀ i, R' i → R i ∨ w.heap.size ≤ i := by
  have hp : q < st.pls.length := by rw [h.l1]; exact hq
  have hok := h.ok q hp
  obtain ⟨⟨kc, kn, ka, kl, kw, ks⟩, hx⟩ : ∃ x, st.pls.getD q p0 = x := ⟨_, rfl⟩
  rw [hx] at hok hs
  obtain ⟨o1, o2, o3, o4, o5, o6⟩ := hok
  dsimp only at o1 o2 o3 o4 o5 o6 hs
  subst hs
  have c2 := h.top.cell (i := 2) rfl
  have c3 := h.top.cell (i := 3) rfl
  have k1 := h.krow.cell (col_get hp)
  have s1 := h.prow.cell (col_get hp)
  rw [hx] at k1 s1
  dsimp only at k1 s1
  have hlx := h.lt b.x (fm_all b).1
  have hlk := h.lt b.kb (fm_all b).2.2.2.2.1
  have hlp := h.lt b.pc (fm_all b).2.2.2.2.2.1
  have hlm := h.lt
  have hlr := hR.lt
  have D1 : Upd (fun _ => False) w ((w.alloc (.cells #[.int .i64 0, .int .i64 0, .int .i64 0, .int .i64 0] 130)).alloc (.cells #[.int .i64 0, .int .i64 0, .int .i64 0, .int .i64 0] 130)) := ((Upd.refl _ w).alloc _).alloc _
  have h1 := h.keep D1 (fun _ _ => id)
  have g1 := hR.keep D1 (fun _ _ => id)
  have R0 : Row ((w.alloc (.cells #[.int .i64 0, .int .i64 0, .int .i64 0, .int .i64 0] 130)).alloc (.cells #[.int .i64 0, .int .i64 0, .int .i64 0, .int .i64 0] 130)) w.heap.size [.int .i64 0, .int .i64 0, .int .i64 0, .int .i64 0] := (Row.new' rfl).alloc _
  have R1 : Row ((w.alloc (.cells #[.int .i64 0, .int .i64 0, .int .i64 0, .int .i64 0] 130)).alloc (.cells #[.int .i64 0, .int .i64 0, .int .i64 0, .int .i64 0] 130)) (w.heap.size + 1) [.int .i64 0, .int .i64 0, .int .i64 0, .int .i64 0] := Row.new' (by simp)
  have up1 : Upd (fun i => fm b i ∨ R i) w ((w.alloc (.cells #[.int .i64 0, .int .i64 0, .int .i64 0, .int .i64 0] 130)).alloc (.cells #[.int .i64 0, .int .i64 0, .int .i64 0, .int .i64 0] 130)) := D1.mono fun _ _ z => z.elim
  have hq1 : (0 : Int) ≤ (q : Int) := by omega
  have hq2 : (q : Int) < (st.seats.length : Int) := by omega
  obtain ⟨D, hD⟩ : ∃ D, w.heap.size = D := ⟨_, rfl⟩
  have HD := Lib.hid hD
  obtain ⟨W, hW⟩ : ∃ W, (w.alloc (.cells #[.int .i64 0, .int .i64 0, .int .i64 0, .int .i64 0] 130)).alloc (.cells #[.int .i64 0, .int .i64 0, .int .i64 0, .int .i64 0] 130) = W := ⟨_, rfl⟩
  rw [hW] at h1 g1 R0 R1 up1
  rw [hD] at R0 R1 hlm hlr
  have HW := Lib.hid hW
  have HLM := Lib.hid hlm
  have HLR := Lib.hid hlr
  have HX := Lib.hid hx
  have HR := Lib.hid hR
  have hWD : W.heap.size = D + 2 := by rw [← hW, ← hD]; simp
  have HWD := Lib.hid hWD
  have nx : ¬ R b.x := fun h => hd _ h (fm_all b).1
  have nn : ¬ R b.nb := fun h => hd _ h (fm_all b).2.2.2.2.2.2.1
  have na : ¬ R b.ab := fun h => hd _ h (fm_all b).2.2.2.2.2.2.2.1
  have no : ¬ R b.ob := fun h => hd _ h (fm_all b).2.2.2.2.2.2.2.2.1
  have nw : ¬ R b.wb := fun h => hd _ h (fm_all b).2.2.2.2.2.2.2.2.2
  have nD : ¬ R D := fun h => by have := HLR.out D h; omega
  have nD1 : ¬ R (D + 1) := fun h => by have := HLR.out _ h; omega
  have HF := Lib.hid hf
  have HK64 := Lib.hid (show n ≤ 64 by omega)
  have HWS := Lib.hid hws
  have HDD := Lib.hid hd
  have HWDD := Lib.hid hwd
  have ne1 : IntKind.i64.wrap (5 + 1) = 5 + 1 := rfl
  clear hlm hlr hR D1 hW hD hd hf hws h hx hWD hn hwd
  have c1a := h1.top.cell (i := 1) rfl
  have c6a := h1.top.cell (i := 6) rfl
  have c7a := h1.top.cell (i := 7) rfl
  have l1a := h1.orow.cell (col_get hp)
  rw [HX.out] at l1a
  dsimp only at l1a
  have hnA : nodeA 0 kl = 8 + kl := by unfold nodeA; omega
  have hu1 : IntKind.i64.wrap (8 + kl) = 8 + kl := IntWalk.i64_in _ (by omega)
  have hu2 : IntKind.i64.wrap 8 = 8 := rfl
  obtain ⟨g, hg⟩ : ∃ g, rd n st.ws q (8 + kl) = g := ⟨_, rfl⟩
  have hgw := rd_wd HWDD.out n q (8 + kl)
  rw [hg] at hgw
  have KA := Ref04.loadR W.drew (g1.drewN 1) HF.out HK64.out HWS.out q (8 + kl)
  rw [hg] at KA
  have HKA := Lib.hid KA
  clear KA
  have h1d := h1.keep ((Upd.refl (fun _ => False) W).drewN 1) (fun _ _ => id)
  have a0 := h1.wrow.cell (col_get hp)
  go_enter Try.func109, Try.ntmps109
  go_upto_block 0 with (fail)
  rw [HW.out, HD.out]
  clear c2 c3 k1 s1 hlx hlk hlp
  go_wp2_with fail
  go_region_held3 (fun w' => w'.cell? ⟨b.x, 1, none⟩ = some (.int .i64 0) ∧ w'.cell? ⟨b.x, 6, none⟩ = some (.slice (some ⟨b.ob, 0, none⟩) st.seats.length st.seats.length) ∧ w'.cell? ⟨b.x, 7, none⟩ = some (.slice (some ⟨b.wb, 0, none⟩) st.seats.length st.seats.length) ∧ w'.cell? ⟨b.ob, q, none⟩ = some (.int .i64 kl)) ((first | exact ⟨c1a, c6a, c7a, l1a⟩ | exact ⟨c1e, c6e, c7e, l1e⟩ | exact ⟨c1f, c6f, c7f, l1f⟩))
      ((first
        | (go_at_call 110; refine HKA.out.mono ?_; rintro e w5 ⟨rfl, R', hR5, u5, hR5s⟩; have c1e := cell_upd u5 c1a nx; have c6e := cell_upd u5 c6a nx; have c7e := cell_upd u5 c7a nx; have l1e := cell_upd u5 l1a no; have A5' := h1d.keep u5 (fun i hi h => HDD.out i h hi); have m5 := cell_upd u5 a0 nw; have fz5 := A5'.wrow.frozen q; have A6' := A5'.setWd q hq ⟨kc, kn, ka, kl, g, 5⟩ (by rw [HX.out]) ⟨o1, o2, o3, o4, hgw, o6⟩; have c1f := A6'.top.cell (i := 1) rfl; have c6f := A6'.top.cell (i := 6) rfl; have c7f := A6'.top.cell (i := 7) rfl; have l1f := A6'.orow.cell (col_get (t := q) (by rw [A6'.l1]; exact hq)); rw [pl_set _ _ hp, if_pos rfl] at l1f; dsimp only at l1f)))
  have HS : Hid (∀ i, R' i → (R i ∨ D ≤ i) ∧ i ≠ D ∧ i ≠ D + 1 ∧ ¬ fm b i) := Lib.hid fun i hi => by
    rcases hR5s i hi with h | h
    · exact ⟨.inl h, by have := HLR.out i h; omega, by have := HLR.out i h; omega, HDD.out i h⟩
    · have := HWD.out
      have h : W.heap.size ≤ i := h
      exact ⟨.inr (by omega), by omega, by omega, fun e => by have := HLM.out i e; omega⟩
  have A5 := h1d.keep u5 (fun i hi h => HDD.out i h hi)
  have R5 := (R1.drewN 1).upd u5 nD1
  have Q5 := (R0.drewN 1).upd u5 nD
  have up5 : Upd (fun i => fm b i ∨ R i) w w5 := (up1.drewN 1).trans (u5.mono fun i _ h => .inr h)
  have g5 := hR5
  have dm : ∀ i, fm b i → i ≠ D ∧ i ≠ D + 1 := fun i hi => by have := HLM.out i hi; exact ⟨by omega, by omega⟩
  clear c1a c1e c1f c6a c6e c6f c7a c7e c7f l1a l1e l1f A5' A6' m5 fz5 a0
  have A6 := A5.setWd q hq ⟨kc, kn, ka, kl, g, 5⟩ (by rw [HX.out]) ⟨o1, o2, o3, o4, hgw, o6⟩
  have U6 := Upd.one w5 b.wb q (.int .u32 g)
  have R6 := R5.upd U6 (fun e => (dm b.wb (fm_all b).2.2.2.2.2.2.2.2.2).2 e.symm)
  have Q6 := Q5.upd U6 (fun e => (dm b.wb (fm_all b).2.2.2.2.2.2.2.2.2).1 e.symm)
  have g6 := g5.keep U6 (fun i hi e => (HS.out i hi).2.2.2 (e ▸ (fm_all b).2.2.2.2.2.2.2.2.2))
  have up6 := up5.trans (U6.mono fun i _ e => .inl (e ▸ (fm_all b).2.2.2.2.2.2.2.2.2))
  obtain ⟨w6, hw6⟩ : ∃ w', w5.setCell ⟨b.wb, q, none⟩ (.int .u32 g) = w' := ⟨_, rfl⟩
  rw [hw6] at A6 R6 Q6 g6 up6 ⊢
  clear hw6 A5 R5 Q5 g5 up5 U6
  have t3 := A6.top.cell (i := 3) rfl
  have p3 := A6.prow.cell (col_get (t := q) (by rw [A6.l1]; exact hq))
  rw [pl_set _ _ hp, if_pos rfl] at p3
  dsimp only at p3
  have p4 := A6.prow.frozen q
  have A7 := A6.setPc q hq ⟨kc, kn, ka, kl, g, 6⟩ (by rw [pl_set _ _ hp, if_pos rfl]) ⟨o1, o2, o3, o4, hgw, (show (0 : Int) ≤ 6 ∧ (6 : Int) ≤ 7 by decide)⟩
  have U7 := Upd.one w6 b.pc q (.int .i64 6)
  have R7 := R6.upd U7 (fun e => (dm b.pc (fm_all b).2.2.2.2.2.1).2 e.symm)
  have Q7 := Q6.upd U7 (fun e => (dm b.pc (fm_all b).2.2.2.2.2.1).1 e.symm)
  have g7 := g6.keep U7 (fun i hi e => (HS.out i hi).2.2.2 (e ▸ (fm_all b).2.2.2.2.2.1))
  have up7 := up6.trans (U7.mono fun i _ e => .inl (e ▸ (fm_all b).2.2.2.2.2.1))
  go_upto_region 38 with (fail)
  obtain ⟨w7, hw7⟩ : ∃ w', w6.setCell ⟨b.pc, q, none⟩ (.int .i64 6) = w' := ⟨_, rfl⟩
  rw [hw7] at A7 R7 Q7 g7 up7 ⊢
  clear hw7 A6 R6 Q6 g6 up6 U7
  clear t3 p3 p4
  have r0 := R7.cell (i := 0) rfl
  have s0 := Q7.cell (i := 0) rfl
  have z0 := Q7.frozen 0
  have r1 := R7.cell (i := 1) rfl
  have s1 := Q7.cell (i := 1) rfl
  have z1 := Q7.frozen 1
  have r2 := R7.cell (i := 2) rfl
  have s2 := Q7.cell (i := 2) rfl
  have z2 := Q7.frozen 2
  have r3 := R7.cell (i := 3) rfl
  have s3 := Q7.cell (i := 3) rfl
  have z3 := Q7.frozen 3
  go_wp2_with fail
  have E : lockS n 0 st q q = ((0, false, false, false), { st with pls := st.pls.set q ⟨kc, kn, ka, kl, g, 6⟩, ts := Cache.after n st.ws.length st.ts q (8 + kl) false }) := by
    unfold lockS; rw [HX.out]; dsimp only; rw [if_neg (show ¬ ((5 : Int) = 0) by decide), if_neg (show ¬ ((5 : Int) = 1) by decide), if_neg (show ¬ ((5 : Int) = 2) by decide), if_neg (show ¬ ((5 : Int) = 3) by decide), if_neg (show ¬ ((5 : Int) = 4) by decide), if_pos rfl, hnA, hg]
  have U9 : Upd (fun i => i = D) w7 ((((w7.setCell ⟨D, 0, none⟩ (.int .i64 0)).setCell ⟨D, 1, none⟩ (.int .i64 0)).setCell ⟨D, 2, none⟩ (.int .i64 0)).setCell ⟨D, 3, none⟩ (.int .i64 0)) := (((Upd.one _ _ _ _).trans (Upd.one _ _ _ _)).trans (Upd.one _ _ _ _)).trans (Upd.one _ _ _ _)
  have RF := (((Q7.set 0 (.int .i64 0)).set 1 (.int .i64 0)).set 2 (.int .i64 0)).set 3 (.int .i64 0)
  have f0 := RF.cell (i := 0) rfl
  have f1 := RF.cell (i := 1) rfl
  have f2 := RF.cell (i := 2) rfl
  have f3 := RF.cell (i := 3) rfl
  have A99 := A7.keep U9 (fun i hi => (dm i hi).1)
  have g99 := g7.keep U9 (fun i hi e => (HS.out i hi).2.1 e)
  have up99 := up7.then U9 (fun i hi e => by have := HD.out; omega)
  obtain ⟨w9, hw9⟩ : ∃ w9, ((((w7.setCell ⟨D, 0, none⟩ (.int .i64 0)).setCell ⟨D, 1, none⟩ (.int .i64 0)).setCell ⟨D, 2, none⟩ (.int .i64 0)).setCell ⟨D, 3, none⟩ (.int .i64 0)) = w9 := ⟨_, rfl⟩
  rw [hw9] at f0 f1 f2 f3 A99 g99 up99 ⊢
  refine bodyPost_ret (v := didm (0, false, false, false)) (by simp [results, Try.results109, go_sem, didm, b2i, f0, f1, f2, f3]) rfl ?_
  rw [E]
  rw [List.set_set] at A99
  exact ⟨rfl, A99, R', g99, up99, fun i hi => (by rw [HD.out]; exact (HS.out i hi).1)⟩
set_option maxHeartbeats 16000000 in
set_option maxRecDepth 20000 in
theorem lock6 {w : World} {st : St} {y n q : Nat} {R : Nat → Prop} (h : MAt b w st.seats st.pls) (hR : Ref04.RO w y R n st.ws st.ts) (hd : ∀ i, R i → ¬ fm b i) (hf : st.ts.length < 1000000) (n8 : n ≤ 8) (hn : st.seats.length = n) (hws : st.ws.length ≤ 100000) (hwd : Mem.Wd st.ws) (hq : q < st.seats.length) (hs : (st.pls.getD q p0).s = 6) :
    Calls Try.prog 109 #[.pointer (some ⟨b.x, 0, none⟩), .pointer (some ⟨y, 0, none⟩), .int .i64 q, .int .i64 q] w fun e w' =>
      e = .returned (didm (lockS n 0 st q q).1) ∧ MAt b w' st.seats (lockS n 0 st q q).2.pls ∧
      ∃ R', Ref04.RO w' y R' n (lockS n 0 st q q).2.ws (lockS n 0 st q q).2.ts ∧ Upd (fun i => fm b i ∨ R i) w w' ∧ ∀ i, R' i → R i ∨ w.heap.size ≤ i := by
  have hp : q < st.pls.length := by rw [h.l1]; exact hq
  have hok := h.ok q hp
  obtain ⟨⟨kc, kn, ka, kl, kw, ks⟩, hx⟩ : ∃ x, st.pls.getD q p0 = x := ⟨_, rfl⟩
  rw [hx] at hok hs
  obtain ⟨o1, o2, o3, o4, o5, o6⟩ := hok
  dsimp only at o1 o2 o3 o4 o5 o6 hs
  subst hs
  have c2 := h.top.cell (i := 2) rfl
  have c3 := h.top.cell (i := 3) rfl
  have k1 := h.krow.cell (col_get hp)
  have s1 := h.prow.cell (col_get hp)
  rw [hx] at k1 s1
  dsimp only at k1 s1
  have hlx := h.lt b.x (fm_all b).1
  have hlk := h.lt b.kb (fm_all b).2.2.2.2.1
  have hlp := h.lt b.pc (fm_all b).2.2.2.2.2.1
  have hlm := h.lt
  have hlr := hR.lt
  have D1 : Upd (fun _ => False) w ((w.alloc (.cells #[.int .i64 0, .int .i64 0, .int .i64 0, .int .i64 0] 130)).alloc (.cells #[.int .i64 0, .int .i64 0, .int .i64 0, .int .i64 0] 130)) := ((Upd.refl _ w).alloc _).alloc _
  have h1 := h.keep D1 (fun _ _ => id)
  have g1 := hR.keep D1 (fun _ _ => id)
  have R0 : Row ((w.alloc (.cells #[.int .i64 0, .int .i64 0, .int .i64 0, .int .i64 0] 130)).alloc (.cells #[.int .i64 0, .int .i64 0, .int .i64 0, .int .i64 0] 130)) w.heap.size [.int .i64 0, .int .i64 0, .int .i64 0, .int .i64 0] := (Row.new' rfl).alloc _
  have R1 : Row ((w.alloc (.cells #[.int .i64 0, .int .i64 0, .int .i64 0, .int .i64 0] 130)).alloc (.cells #[.int .i64 0, .int .i64 0, .int .i64 0, .int .i64 0] 130)) (w.heap.size + 1) [.int .i64 0, .int .i64 0, .int .i64 0, .int .i64 0] := Row.new' (by simp)
  have up1 : Upd (fun i => fm b i ∨ R i) w ((w.alloc (.cells #[.int .i64 0, .int .i64 0, .int .i64 0, .int .i64 0] 130)).alloc (.cells #[.int .i64 0, .int .i64 0, .int .i64 0, .int .i64 0] 130)) := D1.mono fun _ _ z => z.elim
  have hq1 : (0 : Int) ≤ (q : Int) := by omega
  have hq2 : (q : Int) < (st.seats.length : Int) := by omega
  obtain ⟨D, hD⟩ : ∃ D, w.heap.size = D := ⟨_, rfl⟩
  have HD := Lib.hid hD
  obtain ⟨W, hW⟩ : ∃ W, (w.alloc (.cells #[.int .i64 0, .int .i64 0, .int .i64 0, .int .i64 0] 130)).alloc (.cells #[.int .i64 0, .int .i64 0, .int .i64 0, .int .i64 0] 130) = W := ⟨_, rfl⟩
  rw [hW] at h1 g1 R0 R1 up1
  rw [hD] at R0 R1 hlm hlr
  have HW := Lib.hid hW
  have HLM := Lib.hid hlm
  have HLR := Lib.hid hlr
  have HX := Lib.hid hx
  have HR := Lib.hid hR
  have hWD : W.heap.size = D + 2 := by rw [← hW, ← hD]; simp
  have HWD := Lib.hid hWD
  have nx : ¬ R b.x := fun h => hd _ h (fm_all b).1
  have nn : ¬ R b.nb := fun h => hd _ h (fm_all b).2.2.2.2.2.2.1
  have na : ¬ R b.ab := fun h => hd _ h (fm_all b).2.2.2.2.2.2.2.1
  have no : ¬ R b.ob := fun h => hd _ h (fm_all b).2.2.2.2.2.2.2.2.1
  have nw : ¬ R b.wb := fun h => hd _ h (fm_all b).2.2.2.2.2.2.2.2.2
  have nD : ¬ R D := fun h => by have := HLR.out D h; omega
  have nD1 : ¬ R (D + 1) := fun h => by have := HLR.out _ h; omega
  have HF := Lib.hid hf
  have HK64 := Lib.hid (show n ≤ 64 by omega)
  have HWS := Lib.hid hws
  have HDD := Lib.hid hd
  have HWDD := Lib.hid hwd
  have ne1 : IntKind.i64.wrap (6 + 1) = 6 + 1 := rfl
  clear hlm hlr hR D1 hW hD hd hf hws h hx hWD hn hwd
  have hnA : nodeA 0 kl = 8 + kl := by unfold nodeA; omega
  have hu1 : IntKind.i64.wrap (8 + kl) = 8 + kl := IntWalk.i64_in _ (by omega)
  have hu2 : IntKind.i64.wrap 8 = 8 := rfl
  obtain ⟨cb, hcb⟩ : ∃ x, (Mem.inB q n && Mem.casB st.ws (8 + kl) kw) = x := ⟨_, rfl⟩
  cases cb with
  | true =>
    have c1a := h1.top.cell (i := 1) rfl
    have c6a := h1.top.cell (i := 6) rfl
    have c7a := h1.top.cell (i := 7) rfl
    have l1a := h1.orow.cell (col_get hp)
    rw [HX.out] at l1a
    dsimp only at l1a
    have w1a := h1.wrow.cell (col_get hp)
    rw [HX.out] at w1a
    dsimp only at w1a
    have KA := Ref04.casR W.drew (g1.drewN 1) HF.out HK64.out HWS.out q (8 + kl) kw (kw + 1 - kw % 2)
    rw [hcb, if_pos rfl] at KA
    have HKA := Lib.hid KA
    clear KA
    obtain ⟨pa, hpa⟩ : ∃ x, kw / 4 = x := ⟨_, rfl⟩
    obtain ⟨pw, hpw⟩ : ∃ x, kw / 2 % 2 = x := ⟨_, rfl⟩
    obtain ⟨ps, hps⟩ : ∃ x, kw % 2 = x := ⟨_, rfl⟩
    have HKP := Lib.hid (fun (w : World) => Pack.parts_to kw w o5.1 o5.2 pa pw ps hpa.symm hpw.symm hps.symm)
    have hpw2 : pw = 0 ∨ pw = 1 := by omega
    have hcl : Pack.clamp pa = pa := by unfold Pack.clamp; rw [if_neg (by omega), if_neg (by omega)]
    have HKW := Lib.hid (fun (w : World) => Pack.word_to pa pw 1 hpw2 (.inr rfl) w (kw + 1 - kw % 2) (by rw [hcl]; omega))
    clear hpa hpw hps hcl hpw2
    have HCB := Lib.hid hcb
    clear hcb
    have v7 := h1.top.cell (i := 7) rfl
    have vw := h1.wrow.cell (col_get hp)
    rw [HX.out] at vw
    dsimp only at vw
    have h1d := h1.keep ((Upd.refl (fun _ => False) W).drewN 1) (fun _ _ => id)
    go_enter Try.func109, Try.ntmps109
    go_upto_block 0 with (fail)
    rw [HW.out, HD.out]
    clear c2 c3 k1 s1 hlx hlk hlp
    go_wp2_with fail
    refine (HKP.out _).mono ?_
    rintro e w' ⟨rfl, rfl⟩
    go_wp2_with fail
    go_region_held3 (fun w' => w'.cell? ⟨b.x, 1, none⟩ = some (.int .i64 0) ∧ w'.cell? ⟨b.x, 6, none⟩ = some (.slice (some ⟨b.ob, 0, none⟩) st.seats.length st.seats.length) ∧ w'.cell? ⟨b.x, 7, none⟩ = some (.slice (some ⟨b.wb, 0, none⟩) st.seats.length st.seats.length) ∧ w'.cell? ⟨b.ob, q, none⟩ = some (.int .i64 kl) ∧ w'.cell? ⟨b.wb, q, none⟩ = some (.int .u32 kw)) ((first | exact ⟨c1a, c6a, c7a, l1a, w1a⟩ | exact ⟨c1e, c6e, c7e, l1e, w1e⟩))
        ((first
          | (go_at_call 46; refine (HKW.out _).mono ?_; rintro e w' ⟨rfl, rfl⟩)
          | (go_at_call 112; refine HKA.out.mono ?_; rintro e w5 ⟨rfl, R', hR5, u5, hR5s⟩; have c1e := cell_upd u5 c1a nx; have c6e := cell_upd u5 c6a nx; have c7e := cell_upd u5 c7a nx; have l1e := cell_upd u5 l1a no; have w1e := cell_upd u5 w1a nw)))
    have HS : Hid (∀ i, R' i → (R i ∨ D ≤ i) ∧ i ≠ D ∧ i ≠ D + 1 ∧ ¬ fm b i) := Lib.hid fun i hi => by
      rcases hR5s i hi with h | h
      · exact ⟨.inl h, by have := HLR.out i h; omega, by have := HLR.out i h; omega, HDD.out i h⟩
      · have := HWD.out
        have h : W.heap.size ≤ i := h
        exact ⟨.inr (by omega), by omega, by omega, fun e => by have := HLM.out i e; omega⟩
    have A5 := h1d.keep u5 (fun i hi h => HDD.out i h hi)
    have R5 := (R1.drewN 1).upd u5 nD1
    have Q5 := (R0.drewN 1).upd u5 nD
    have up5 : Upd (fun i => fm b i ∨ R i) w w5 := (up1.drewN 1).trans (u5.mono fun i _ h => .inr h)
    have g5 := hR5
    have dm : ∀ i, fm b i → i ≠ D ∧ i ≠ D + 1 := fun i hi => by have := HLM.out i hi; exact ⟨by omega, by omega⟩
    clear c1a c1e c6a c6e c7a c7e l1a l1e w1a w1e v7 vw
    have t3 := A5.top.cell (i := 3) rfl
    have p3 := A5.prow.cell (col_get (t := q) (by rw [A5.l1]; exact hq))
    rw [HX.out] at p3
    dsimp only at p3
    have p4 := A5.prow.frozen q
    have A6 := A5.setPc q hq ⟨kc, kn, ka, kl, kw, 7⟩ (by rw [HX.out]) ⟨o1, o2, o3, o4, o5, (show (0 : Int) ≤ 7 ∧ (7 : Int) ≤ 7 by decide)⟩
    have U6 := Upd.one w5 b.pc q (.int .i64 7)
    have R6 := R5.upd U6 (fun e => (dm b.pc (fm_all b).2.2.2.2.2.1).2 e.symm)
    have Q6 := Q5.upd U6 (fun e => (dm b.pc (fm_all b).2.2.2.2.2.1).1 e.symm)
    have g6 := g5.keep U6 (fun i hi e => (HS.out i hi).2.2.2 (e ▸ (fm_all b).2.2.2.2.2.1))
    have up6 := up5.trans (U6.mono fun i _ e => .inl (e ▸ (fm_all b).2.2.2.2.2.1))
    go_upto_region 38 with (fail)
    obtain ⟨w6, hw6⟩ : ∃ w', w5.setCell ⟨b.pc, q, none⟩ (.int .i64 7) = w' := ⟨_, rfl⟩
    rw [hw6] at A6 R6 Q6 g6 up6 ⊢
    clear hw6 A5 R5 Q5 g5 up5 U6
    clear t3 p3 p4
    have r0 := R6.cell (i := 0) rfl
    have s0 := Q6.cell (i := 0) rfl
    have z0 := Q6.frozen 0
    have r1 := R6.cell (i := 1) rfl
    have s1 := Q6.cell (i := 1) rfl
    have z1 := Q6.frozen 1
    have r2 := R6.cell (i := 2) rfl
    have s2 := Q6.cell (i := 2) rfl
    have z2 := Q6.frozen 2
    have r3 := R6.cell (i := 3) rfl
    have s3 := Q6.cell (i := 3) rfl
    have z3 := Q6.frozen 3
    go_wp2_with fail
    have E : lockS n 0 st q q = ((0, false, false, false), { st with pls := st.pls.set q ⟨kc, kn, ka, kl, kw, 7⟩, ws := Mem.put st.ws (8 + kl) (kw + 1 - kw % 2), ts := Cache.after n st.ws.length st.ts q (8 + kl) true }) := by
      unfold lockS; rw [HX.out]; dsimp only; rw [if_neg (show ¬ ((6 : Int) = 0) by decide), if_neg (show ¬ ((6 : Int) = 1) by decide), if_neg (show ¬ ((6 : Int) = 2) by decide), if_neg (show ¬ ((6 : Int) = 3) by decide), if_neg (show ¬ ((6 : Int) = 4) by decide), if_neg (show ¬ ((6 : Int) = 5) by decide), if_pos rfl, hnA, HCB.out, if_pos rfl]
    have U9 : Upd (fun i => i = D) w6 ((((w6.setCell ⟨D, 0, none⟩ (.int .i64 0)).setCell ⟨D, 1, none⟩ (.int .i64 0)).setCell ⟨D, 2, none⟩ (.int .i64 0)).setCell ⟨D, 3, none⟩ (.int .i64 0)) := (((Upd.one _ _ _ _).trans (Upd.one _ _ _ _)).trans (Upd.one _ _ _ _)).trans (Upd.one _ _ _ _)
    have RF := (((Q6.set 0 (.int .i64 0)).set 1 (.int .i64 0)).set 2 (.int .i64 0)).set 3 (.int .i64 0)
    have f0 := RF.cell (i := 0) rfl
    have f1 := RF.cell (i := 1) rfl
    have f2 := RF.cell (i := 2) rfl
    have f3 := RF.cell (i := 3) rfl
    have A99 := A6.keep U9 (fun i hi => (dm i hi).1)
    have g99 := g6.keep U9 (fun i hi e => (HS.out i hi).2.1 e)
    have up99 := up6.then U9 (fun i hi e => by have := HD.out; omega)
    obtain ⟨w9, hw9⟩ : ∃ w9, ((((w6.setCell ⟨D, 0, none⟩ (.int .i64 0)).setCell ⟨D, 1, none⟩ (.int .i64 0)).setCell ⟨D, 2, none⟩ (.int .i64 0)).setCell ⟨D, 3, none⟩ (.int .i64 0)) = w9 := ⟨_, rfl⟩
    rw [hw9] at f0 f1 f2 f3 A99 g99 up99 ⊢
    refine bodyPost_ret (v := didm (0, false, false, false)) (by simp [results, Try.results109, go_sem, didm, b2i, f0, f1, f2, f3]) rfl ?_
    rw [E]
    exact ⟨rfl, A99, R', g99, up99, fun i hi => (by rw [HD.out]; exact (HS.out i hi).1)⟩
  | false =>
    have c1a := h1.top.cell (i := 1) rfl
    have c6a := h1.top.cell (i := 6) rfl
    have c7a := h1.top.cell (i := 7) rfl
    have l1a := h1.orow.cell (col_get hp)
    rw [HX.out] at l1a
    dsimp only at l1a
    have w1a := h1.wrow.cell (col_get hp)
    rw [HX.out] at w1a
    dsimp only at w1a
    have KA := Ref04.casR W.drew (g1.drewN 1) HF.out HK64.out HWS.out q (8 + kl) kw (kw + 1 - kw % 2)
    rw [hcb, if_neg (by decide)] at KA
    have HKA := Lib.hid KA
    clear KA
    obtain ⟨pa, hpa⟩ : ∃ x, kw / 4 = x := ⟨_, rfl⟩
    obtain ⟨pw, hpw⟩ : ∃ x, kw / 2 % 2 = x := ⟨_, rfl⟩
    obtain ⟨ps, hps⟩ : ∃ x, kw % 2 = x := ⟨_, rfl⟩
    have HKP := Lib.hid (fun (w : World) => Pack.parts_to kw w o5.1 o5.2 pa pw ps hpa.symm hpw.symm hps.symm)
    have hpw2 : pw = 0 ∨ pw = 1 := by omega
    have hcl : Pack.clamp pa = pa := by unfold Pack.clamp; rw [if_neg (by omega), if_neg (by omega)]
    have HKW := Lib.hid (fun (w : World) => Pack.word_to pa pw 1 hpw2 (.inr rfl) w (kw + 1 - kw % 2) (by rw [hcl]; omega))
    clear hpa hpw hps hcl hpw2
    have HCB := Lib.hid hcb
    clear hcb
    have v7 := h1.top.cell (i := 7) rfl
    have vw := h1.wrow.cell (col_get hp)
    rw [HX.out] at vw
    dsimp only at vw
    have h1d := h1.keep ((Upd.refl (fun _ => False) W).drewN 1) (fun _ _ => id)
    go_enter Try.func109, Try.ntmps109
    go_upto_block 0 with (fail)
    rw [HW.out, HD.out]
    clear c2 c3 k1 s1 hlx hlk hlp
    go_wp2_with fail
    refine (HKP.out _).mono ?_
    rintro e w' ⟨rfl, rfl⟩
    go_wp2_with fail
    go_region_held3 (fun w' => w'.cell? ⟨b.x, 1, none⟩ = some (.int .i64 0) ∧ w'.cell? ⟨b.x, 6, none⟩ = some (.slice (some ⟨b.ob, 0, none⟩) st.seats.length st.seats.length) ∧ w'.cell? ⟨b.x, 7, none⟩ = some (.slice (some ⟨b.wb, 0, none⟩) st.seats.length st.seats.length) ∧ w'.cell? ⟨b.ob, q, none⟩ = some (.int .i64 kl) ∧ w'.cell? ⟨b.wb, q, none⟩ = some (.int .u32 kw)) ((first | exact ⟨c1a, c6a, c7a, l1a, w1a⟩ | exact ⟨c1e, c6e, c7e, l1e, w1e⟩))
        ((first
          | (go_at_call 46; refine (HKW.out _).mono ?_; rintro e w' ⟨rfl, rfl⟩)
          | (go_at_call 112; refine HKA.out.mono ?_; rintro e w5 ⟨rfl, R', hR5, u5, hR5s⟩; have c1e := cell_upd u5 c1a nx; have c6e := cell_upd u5 c6a nx; have c7e := cell_upd u5 c7a nx; have l1e := cell_upd u5 l1a no; have w1e := cell_upd u5 w1a nw)))
    have HS : Hid (∀ i, R' i → (R i ∨ D ≤ i) ∧ i ≠ D ∧ i ≠ D + 1 ∧ ¬ fm b i) := Lib.hid fun i hi => by
      rcases hR5s i hi with h | h
      · exact ⟨.inl h, by have := HLR.out i h; omega, by have := HLR.out i h; omega, HDD.out i h⟩
      · have := HWD.out
        have h : W.heap.size ≤ i := h
        exact ⟨.inr (by omega), by omega, by omega, fun e => by have := HLM.out i e; omega⟩
    have A5 := h1d.keep u5 (fun i hi h => HDD.out i h hi)
    have R5 := (R1.drewN 1).upd u5 nD1
    have Q5 := (R0.drewN 1).upd u5 nD
    have up5 : Upd (fun i => fm b i ∨ R i) w w5 := (up1.drewN 1).trans (u5.mono fun i _ h => .inr h)
    have g5 := hR5
    have dm : ∀ i, fm b i → i ≠ D ∧ i ≠ D + 1 := fun i hi => by have := HLM.out i hi; exact ⟨by omega, by omega⟩
    clear c1a c1e c6a c6e c7a c7e l1a l1e w1a w1e v7 vw
    have t3 := A5.top.cell (i := 3) rfl
    have p3 := A5.prow.cell (col_get (t := q) (by rw [A5.l1]; exact hq))
    rw [HX.out] at p3
    dsimp only at p3
    have p4 := A5.prow.frozen q
    have A6 := A5.setPc q hq ⟨kc, kn, ka, kl, kw, 5⟩ (by rw [HX.out]) ⟨o1, o2, o3, o4, o5, (show (0 : Int) ≤ 5 ∧ (5 : Int) ≤ 7 by decide)⟩
    have U6 := Upd.one w5 b.pc q (.int .i64 5)
    have R6 := R5.upd U6 (fun e => (dm b.pc (fm_all b).2.2.2.2.2.1).2 e.symm)
    have Q6 := Q5.upd U6 (fun e => (dm b.pc (fm_all b).2.2.2.2.2.1).1 e.symm)
    have g6 := g5.keep U6 (fun i hi e => (HS.out i hi).2.2.2 (e ▸ (fm_all b).2.2.2.2.2.1))
    have up6 := up5.trans (U6.mono fun i _ e => .inl (e ▸ (fm_all b).2.2.2.2.2.1))
    go_upto_region 38 with (fail)
    obtain ⟨w6, hw6⟩ : ∃ w', w5.setCell ⟨b.pc, q, none⟩ (.int .i64 5) = w' := ⟨_, rfl⟩
    rw [hw6] at A6 R6 Q6 g6 up6 ⊢
    clear hw6 A5 R5 Q5 g5 up5 U6
    clear t3 p3 p4
    have r0 := R6.cell (i := 0) rfl
    have s0 := Q6.cell (i := 0) rfl
    have z0 := Q6.frozen 0
    have r1 := R6.cell (i := 1) rfl
    have s1 := Q6.cell (i := 1) rfl
    have z1 := Q6.frozen 1
    have r2 := R6.cell (i := 2) rfl
    have s2 := Q6.cell (i := 2) rfl
    have z2 := Q6.frozen 2
    have r3 := R6.cell (i := 3) rfl
    have s3 := Q6.cell (i := 3) rfl
    have z3 := Q6.frozen 3
    go_wp2_with fail
    have E : lockS n 0 st q q = ((0, false, false, false), { st with pls := st.pls.set q ⟨kc, kn, ka, kl, kw, 5⟩, ts := Cache.after n st.ws.length st.ts q (8 + kl) true }) := by
      unfold lockS; rw [HX.out]; dsimp only; rw [if_neg (show ¬ ((6 : Int) = 0) by decide), if_neg (show ¬ ((6 : Int) = 1) by decide), if_neg (show ¬ ((6 : Int) = 2) by decide), if_neg (show ¬ ((6 : Int) = 3) by decide), if_neg (show ¬ ((6 : Int) = 4) by decide), if_neg (show ¬ ((6 : Int) = 5) by decide), if_pos rfl, hnA, HCB.out, if_neg (by decide)]
    have U9 : Upd (fun i => i = D) w6 ((((w6.setCell ⟨D, 0, none⟩ (.int .i64 0)).setCell ⟨D, 1, none⟩ (.int .i64 0)).setCell ⟨D, 2, none⟩ (.int .i64 0)).setCell ⟨D, 3, none⟩ (.int .i64 0)) := (((Upd.one _ _ _ _).trans (Upd.one _ _ _ _)).trans (Upd.one _ _ _ _)).trans (Upd.one _ _ _ _)
    have RF := (((Q6.set 0 (.int .i64 0)).set 1 (.int .i64 0)).set 2 (.int .i64 0)).set 3 (.int .i64 0)
    have f0 := RF.cell (i := 0) rfl
    have f1 := RF.cell (i := 1) rfl
    have f2 := RF.cell (i := 2) rfl
    have f3 := RF.cell (i := 3) rfl
    have A99 := A6.keep U9 (fun i hi => (dm i hi).1)
    have g99 := g6.keep U9 (fun i hi e => (HS.out i hi).2.1 e)
    have up99 := up6.then U9 (fun i hi e => by have := HD.out; omega)
    obtain ⟨w9, hw9⟩ : ∃ w9, ((((w6.setCell ⟨D, 0, none⟩ (.int .i64 0)).setCell ⟨D, 1, none⟩ (.int .i64 0)).setCell ⟨D, 2, none⟩ (.int .i64 0)).setCell ⟨D, 3, none⟩ (.int .i64 0)) = w9 := ⟨_, rfl⟩
    rw [hw9] at f0 f1 f2 f3 A99 g99 up99 ⊢
    refine bodyPost_ret (v := didm (0, false, false, false)) (by simp [results, Try.results109, go_sem, didm, b2i, f0, f1, f2, f3]) rfl ?_
    rw [E]
    exact ⟨rfl, A99, R', g99, up99, fun i hi => (by rw [HD.out]; exact (HS.out i hi).1)⟩
set_option maxHeartbeats 16000000 in
set_option maxRecDepth 20000 in
theorem lock7 {w : World} {st : St} {y n q : Nat} {R : Nat → Prop} (h : MAt b w st.seats st.pls) (hR : Ref04.RO w y R n st.ws st.ts) (hd : ∀ i, R i → ¬ fm b i) (hf : st.ts.length < 1000000) (n8 : n ≤ 8) (hn : st.seats.length = n) (hws : st.ws.length ≤ 100000) (hwd : Mem.Wd st.ws) (hq : q < st.seats.length) (hs : (st.pls.getD q p0).s = 7) :
    Calls Try.prog 109 #[.pointer (some ⟨b.x, 0, none⟩), .pointer (some ⟨y, 0, none⟩), .int .i64 q, .int .i64 q] w fun e w' =>
      e = .returned (didm (lockS n 0 st q q).1) ∧ MAt b w' st.seats (lockS n 0 st q q).2.pls ∧
      ∃ R', Ref04.RO w' y R' n (lockS n 0 st q q).2.ws (lockS n 0 st q q).2.ts ∧ Upd (fun i => fm b i ∨ R i) w w' ∧ ∀ i, R' i → R i ∨ w.heap.size ≤ i := by
  have hp : q < st.pls.length := by rw [h.l1]; exact hq
  have hok := h.ok q hp
  obtain ⟨⟨kc, kn, ka, kl, kw, ks⟩, hx⟩ : ∃ x, st.pls.getD q p0 = x := ⟨_, rfl⟩
  rw [hx] at hok hs
  obtain ⟨o1, o2, o3, o4, o5, o6⟩ := hok
  dsimp only at o1 o2 o3 o4 o5 o6 hs
  subst hs
  have c2 := h.top.cell (i := 2) rfl
  have c3 := h.top.cell (i := 3) rfl
  have k1 := h.krow.cell (col_get hp)
  have s1 := h.prow.cell (col_get hp)
  rw [hx] at k1 s1
  dsimp only at k1 s1
  have hlx := h.lt b.x (fm_all b).1
  have hlk := h.lt b.kb (fm_all b).2.2.2.2.1
  have hlp := h.lt b.pc (fm_all b).2.2.2.2.2.1
  have hlm := h.lt
  have hlr := hR.lt
  have D1 : Upd (fun _ => False) w ((w.alloc (.cells #[.int .i64 0, .int .i64 0, .int .i64 0, .int .i64 0] 130)).alloc (.cells #[.int .i64 0, .int .i64 0, .int .i64 0, .int .i64 0] 130)) := ((Upd.refl _ w).alloc _).alloc _
  have h1 := h.keep D1 (fun _ _ => id)
  have g1 := hR.keep D1 (fun _ _ => id)
  have R0 : Row ((w.alloc (.cells #[.int .i64 0, .int .i64 0, .int .i64 0, .int .i64 0] 130)).alloc (.cells #[.int .i64 0, .int .i64 0, .int .i64 0, .int .i64 0] 130)) w.heap.size [.int .i64 0, .int .i64 0, .int .i64 0, .int .i64 0] := (Row.new' rfl).alloc _
  have R1 : Row ((w.alloc (.cells #[.int .i64 0, .int .i64 0, .int .i64 0, .int .i64 0] 130)).alloc (.cells #[.int .i64 0, .int .i64 0, .int .i64 0, .int .i64 0] 130)) (w.heap.size + 1) [.int .i64 0, .int .i64 0, .int .i64 0, .int .i64 0] := Row.new' (by simp)
  have up1 : Upd (fun i => fm b i ∨ R i) w ((w.alloc (.cells #[.int .i64 0, .int .i64 0, .int .i64 0, .int .i64 0] 130)).alloc (.cells #[.int .i64 0, .int .i64 0, .int .i64 0, .int .i64 0] 130)) := D1.mono fun _ _ z => z.elim
  have hq1 : (0 : Int) ≤ (q : Int) := by omega
  have hq2 : (q : Int) < (st.seats.length : Int) := by omega
  obtain ⟨D, hD⟩ : ∃ D, w.heap.size = D := ⟨_, rfl⟩
  have HD := Lib.hid hD
  obtain ⟨W, hW⟩ : ∃ W, (w.alloc (.cells #[.int .i64 0, .int .i64 0, .int .i64 0, .int .i64 0] 130)).alloc (.cells #[.int .i64 0, .int .i64 0, .int .i64 0, .int .i64 0] 130) = W := ⟨_, rfl⟩
  rw [hW] at h1 g1 R0 R1 up1
  rw [hD] at R0 R1 hlm hlr
  have HW := Lib.hid hW
  have HLM := Lib.hid hlm
  have HLR := Lib.hid hlr
  have HX := Lib.hid hx
  have HR := Lib.hid hR
  have hWD : W.heap.size = D + 2 := by rw [← hW, ← hD]; simp
  have HWD := Lib.hid hWD
  have nx : ¬ R b.x := fun h => hd _ h (fm_all b).1
  have nn : ¬ R b.nb := fun h => hd _ h (fm_all b).2.2.2.2.2.2.1
  have na : ¬ R b.ab := fun h => hd _ h (fm_all b).2.2.2.2.2.2.2.1
  have no : ¬ R b.ob := fun h => hd _ h (fm_all b).2.2.2.2.2.2.2.2.1
  have nw : ¬ R b.wb := fun h => hd _ h (fm_all b).2.2.2.2.2.2.2.2.2
  have nD : ¬ R D := fun h => by have := HLR.out D h; omega
  have nD1 : ¬ R (D + 1) := fun h => by have := HLR.out _ h; omega
  have HF := Lib.hid hf
  have HK64 := Lib.hid (show n ≤ 64 by omega)
  have HWS := Lib.hid hws
  have HDD := Lib.hid hd
  have HWDD := Lib.hid hwd
  have ne1 : IntKind.i64.wrap (7 + 1) = 7 + 1 := rfl
  clear hlm hlr hR D1 hW hD hd hf hws h hx hWD hn hwd
  have c1a := h1.top.cell (i := 1) rfl
  have c5a := h1.top.cell (i := 5) rfl
  have a1a := h1.arow.cell (col_get hp)
  rw [HX.out] at a1a
  dsimp only at a1a
  have hnA : nodeA 0 ka = 8 + ka := by unfold nodeA; omega
  have hu1 : IntKind.i64.wrap (8 + ka) = 8 + ka := IntWalk.i64_in _ (by omega)
  have hu2 : IntKind.i64.wrap 8 = 8 := rfl
  obtain ⟨g, hg⟩ : ∃ g, rd n st.ws q (8 + ka) = g := ⟨_, rfl⟩
  have hgw := rd_wd HWDD.out n q (8 + ka)
  rw [hg] at hgw
  have KA := Ref04.loadR W.drew (g1.drewN 1) HF.out HK64.out HWS.out q (8 + ka)
  rw [hg] at KA
  have HKA := Lib.hid KA
  clear KA
  obtain ⟨pa, hpa⟩ : ∃ x, g / 4 = x := ⟨_, rfl⟩
  obtain ⟨pw, hpw⟩ : ∃ x, g / 2 % 2 = x := ⟨_, rfl⟩
  obtain ⟨ps, hps⟩ : ∃ x, g % 2 = x := ⟨_, rfl⟩
  have HKP := Lib.hid (fun (w : World) => Pack.parts_to g w hgw.1 hgw.2 pa pw ps hpa.symm hpw.symm hps.symm)
  have hpw2 : pw = 0 ∨ pw = 1 := by omega
  have hps2 : ps = 0 ∨ ps = 1 := by omega
  have HPA := Lib.hid hpa
  have HPW := Lib.hid hpw
  have HPS := Lib.hid hps
  clear hpa hpw hps
  have h1d := h1.keep ((Upd.refl (fun _ => False) W).drewN 1) (fun _ _ => id)
  go_enter Try.func109, Try.ntmps109
  go_upto_block 0 with (fail)
  rw [HW.out, HD.out]
  clear c2 c3 k1 s1 hlx hlk hlp
  go_wp2_with fail
  go_region_held3 (fun w' => w'.cell? ⟨b.x, 1, none⟩ = some (.int .i64 0) ∧ w'.cell? ⟨b.x, 5, none⟩ = some (.slice (some ⟨b.ab, 0, none⟩) st.seats.length st.seats.length) ∧ w'.cell? ⟨b.ab, q, none⟩ = some (.int .i64 ka)) ((first | exact ⟨c1a, c5a, a1a⟩ | exact ⟨c1e, c5e, a1e⟩))
      ((first
        | (go_at_call 110; refine HKA.out.mono ?_; rintro e w5 ⟨rfl, R', hR5, u5, hR5s⟩; have c1e := cell_upd u5 c1a nx; have c5e := cell_upd u5 c5a nx; have a1e := cell_upd u5 a1a na)
        | (go_at_call 111; refine (HKP.out _).mono ?_; rintro e w' ⟨rfl, rfl⟩)))
  have HS : Hid (∀ i, R' i → (R i ∨ D ≤ i) ∧ i ≠ D ∧ i ≠ D + 1 ∧ ¬ fm b i) := Lib.hid fun i hi => by
    rcases hR5s i hi with h | h
    · exact ⟨.inl h, by have := HLR.out i h; omega, by have := HLR.out i h; omega, HDD.out i h⟩
    · have := HWD.out
      have h : W.heap.size ≤ i := h
      exact ⟨.inr (by omega), by omega, by omega, fun e => by have := HLM.out i e; omega⟩
  have A5 := h1d.keep u5 (fun i hi h => HDD.out i h hi)
  have R5 := (R1.drewN 1).upd u5 nD1
  have Q5 := (R0.drewN 1).upd u5 nD
  have up5 : Upd (fun i => fm b i ∨ R i) w w5 := (up1.drewN 1).trans (u5.mono fun i _ h => .inr h)
  have g5 := hR5
  have dm : ∀ i, fm b i → i ≠ D ∧ i ≠ D + 1 := fun i hi => by have := HLM.out i hi; exact ⟨by omega, by omega⟩
  clear c1a c1e c5a c5e a1a a1e
  clear hps2 HPA HPS
  rcases hpw2 with rfl | rfl
  · have y1 := R5.cell (i := 0) rfl
    have y2 := R5.frozen 0
    have U6 := Upd.one w5 (D + 1) 0 (.int .i64 1)
    have A6 := A5.keep U6 (fun i hi e => (dm i hi).2 e)
    have R6 := R5.set 0 (.int .i64 1)
    have Q6 := Q5.upd U6 (by omega)
    have g6 := g5.keep U6 (fun i hi e => (HS.out i hi).2.2.1 e)
    have up6 := up5.then U6 (fun i hi e => by have := HD.out; omega)
    go_upto_region 36 with (fail)
    obtain ⟨w6, hw6⟩ : ∃ w', w5.setCell ⟨D + 1, 0, none⟩ (.int .i64 1) = w' := ⟨_, rfl⟩
    rw [hw6] at A6 R6 Q6 g6 up6 ⊢
    clear hw6 A5 R5 Q5 g5 up5 U6
    clear y1 y2
    have y1 := R6.cell (i := 3) rfl
    have y2 := R6.frozen 3
    have U7 := Upd.one w6 (D + 1) 3 (.int .i64 1)
    have A7 := A6.keep U7 (fun i hi e => (dm i hi).2 e)
    have R7 := R6.set 3 (.int .i64 1)
    have Q7 := Q6.upd U7 (by omega)
    have g7 := g6.keep U7 (fun i hi e => (HS.out i hi).2.2.1 e)
    have up7 := up6.then U7 (fun i hi e => by have := HD.out; omega)
    go_upto_region 37 with (fail)
    obtain ⟨w7, hw7⟩ : ∃ w', w6.setCell ⟨D + 1, 3, none⟩ (.int .i64 1) = w' := ⟨_, rfl⟩
    rw [hw7] at A7 R7 Q7 g7 up7 ⊢
    clear hw7 A6 R6 Q6 g6 up6 U7
    clear y1 y2
    have t3 := A7.top.cell (i := 3) rfl
    have p3 := A7.prow.cell (col_get (t := q) (by rw [A7.l1]; exact hq))
    rw [HX.out] at p3
    dsimp only at p3
    have p4 := A7.prow.frozen q
    have A8 := A7.setPc q hq ⟨kc, kn, ka, kl, kw, 0⟩ (by rw [HX.out]) ⟨o1, o2, o3, o4, o5, (show (0 : Int) ≤ 0 ∧ (0 : Int) ≤ 7 by decide)⟩
    have U8 := Upd.one w7 b.pc q (.int .i64 0)
    have R8 := R7.upd U8 (fun e => (dm b.pc (fm_all b).2.2.2.2.2.1).2 e.symm)
    have Q8 := Q7.upd U8 (fun e => (dm b.pc (fm_all b).2.2.2.2.2.1).1 e.symm)
    have g8 := g7.keep U8 (fun i hi e => (HS.out i hi).2.2.2 (e ▸ (fm_all b).2.2.2.2.2.1))
    have up8 := up7.trans (U8.mono fun i _ e => .inl (e ▸ (fm_all b).2.2.2.2.2.1))
    go_upto_region 38 with (fail)
    obtain ⟨w8, hw8⟩ : ∃ w', w7.setCell ⟨b.pc, q, none⟩ (.int .i64 0) = w' := ⟨_, rfl⟩
    rw [hw8] at A8 R8 Q8 g8 up8 ⊢
    clear hw8 A7 R7 Q7 g7 up7 U8
    clear t3 p3 p4
    have r0 := R8.cell (i := 0) rfl
    have s0 := Q8.cell (i := 0) rfl
    have z0 := Q8.frozen 0
    have r1 := R8.cell (i := 1) rfl
    have s1 := Q8.cell (i := 1) rfl
    have z1 := Q8.frozen 1
    have r2 := R8.cell (i := 2) rfl
    have s2 := Q8.cell (i := 2) rfl
    have z2 := Q8.frozen 2
    have r3 := R8.cell (i := 3) rfl
    have s3 := Q8.cell (i := 3) rfl
    have z3 := Q8.frozen 3
    go_wp2_with fail
    have E : lockS n 0 st q q = ((1, false, false, true), { st with pls := st.pls.set q ⟨kc, kn, ka, kl, kw, 0⟩, ts := Cache.after n st.ws.length st.ts q (8 + ka) false }) := by
      unfold lockS; rw [HX.out]; dsimp only; rw [if_neg (show ¬ ((7 : Int) = 0) by decide), if_neg (show ¬ ((7 : Int) = 1) by decide), if_neg (show ¬ ((7 : Int) = 2) by decide), if_neg (show ¬ ((7 : Int) = 3) by decide), if_neg (show ¬ ((7 : Int) = 4) by decide), if_neg (show ¬ ((7 : Int) = 5) by decide), if_neg (show ¬ ((7 : Int) = 6) by decide), hnA, hg, if_pos (HPW.out)]
    have U9 : Upd (fun i => i = D) w8 ((((w8.setCell ⟨D, 0, none⟩ (.int .i64 1)).setCell ⟨D, 1, none⟩ (.int .i64 0)).setCell ⟨D, 2, none⟩ (.int .i64 0)).setCell ⟨D, 3, none⟩ (.int .i64 1)) := (((Upd.one _ _ _ _).trans (Upd.one _ _ _ _)).trans (Upd.one _ _ _ _)).trans (Upd.one _ _ _ _)
    have RF := (((Q8.set 0 (.int .i64 1)).set 1 (.int .i64 0)).set 2 (.int .i64 0)).set 3 (.int .i64 1)
    have f0 := RF.cell (i := 0) rfl
    have f1 := RF.cell (i := 1) rfl
    have f2 := RF.cell (i := 2) rfl
    have f3 := RF.cell (i := 3) rfl
    have A99 := A8.keep U9 (fun i hi => (dm i hi).1)
    have g99 := g8.keep U9 (fun i hi e => (HS.out i hi).2.1 e)
    have up99 := up8.then U9 (fun i hi e => by have := HD.out; omega)
    obtain ⟨w9, hw9⟩ : ∃ w9, ((((w8.setCell ⟨D, 0, none⟩ (.int .i64 1)).setCell ⟨D, 1, none⟩ (.int .i64 0)).setCell ⟨D, 2, none⟩ (.int .i64 0)).setCell ⟨D, 3, none⟩ (.int .i64 1)) = w9 := ⟨_, rfl⟩
    rw [hw9] at f0 f1 f2 f3 A99 g99 up99 ⊢
    refine bodyPost_ret (v := didm (1, false, false, true)) (by simp [results, Try.results109, go_sem, didm, b2i, f0, f1, f2, f3]) rfl ?_
    rw [E]
    exact ⟨rfl, A99, R', g99, up99, fun i hi => (by rw [HD.out]; exact (HS.out i hi).1)⟩
  · have t3 := A5.top.cell (i := 3) rfl
    have p3 := A5.prow.cell (col_get (t := q) (by rw [A5.l1]; exact hq))
    rw [HX.out] at p3
    dsimp only at p3
    have p4 := A5.prow.frozen q
    have A6 := A5.setPc q hq ⟨kc, kn, ka, kl, kw, 7⟩ (by rw [HX.out]) ⟨o1, o2, o3, o4, o5, (show (0 : Int) ≤ 7 ∧ (7 : Int) ≤ 7 by decide)⟩
    have U6 := Upd.one w5 b.pc q (.int .i64 7)
    have R6 := R5.upd U6 (fun e => (dm b.pc (fm_all b).2.2.2.2.2.1).2 e.symm)
    have Q6 := Q5.upd U6 (fun e => (dm b.pc (fm_all b).2.2.2.2.2.1).1 e.symm)
    have g6 := g5.keep U6 (fun i hi e => (HS.out i hi).2.2.2 (e ▸ (fm_all b).2.2.2.2.2.1))
    have up6 := up5.trans (U6.mono fun i _ e => .inl (e ▸ (fm_all b).2.2.2.2.2.1))
    go_upto_region 38 with (fail)
    obtain ⟨w6, hw6⟩ : ∃ w', w5.setCell ⟨b.pc, q, none⟩ (.int .i64 7) = w' := ⟨_, rfl⟩
    rw [hw6] at A6 R6 Q6 g6 up6 ⊢
    clear hw6 A5 R5 Q5 g5 up5 U6
    clear t3 p3 p4
    have r0 := R6.cell (i := 0) rfl
    have s0 := Q6.cell (i := 0) rfl
    have z0 := Q6.frozen 0
    have r1 := R6.cell (i := 1) rfl
    have s1 := Q6.cell (i := 1) rfl
    have z1 := Q6.frozen 1
    have r2 := R6.cell (i := 2) rfl
    have s2 := Q6.cell (i := 2) rfl
    have z2 := Q6.frozen 2
    have r3 := R6.cell (i := 3) rfl
    have s3 := Q6.cell (i := 3) rfl
    have z3 := Q6.frozen 3
    go_wp2_with fail
    have E : lockS n 0 st q q = ((0, false, false, false), { st with ts := Cache.after n st.ws.length st.ts q (8 + ka) false }) := by
      unfold lockS; rw [HX.out]; dsimp only; rw [if_neg (show ¬ ((7 : Int) = 0) by decide), if_neg (show ¬ ((7 : Int) = 1) by decide), if_neg (show ¬ ((7 : Int) = 2) by decide), if_neg (show ¬ ((7 : Int) = 3) by decide), if_neg (show ¬ ((7 : Int) = 4) by decide), if_neg (show ¬ ((7 : Int) = 5) by decide), if_neg (show ¬ ((7 : Int) = 6) by decide), hnA, hg, if_neg (show ¬ (g / 2 % 2 = 0) by rw [HPW.out]; decide)]
    have U9 : Upd (fun i => i = D) w6 ((((w6.setCell ⟨D, 0, none⟩ (.int .i64 0)).setCell ⟨D, 1, none⟩ (.int .i64 0)).setCell ⟨D, 2, none⟩ (.int .i64 0)).setCell ⟨D, 3, none⟩ (.int .i64 0)) := (((Upd.one _ _ _ _).trans (Upd.one _ _ _ _)).trans (Upd.one _ _ _ _)).trans (Upd.one _ _ _ _)
    have RF := (((Q6.set 0 (.int .i64 0)).set 1 (.int .i64 0)).set 2 (.int .i64 0)).set 3 (.int .i64 0)
    have f0 := RF.cell (i := 0) rfl
    have f1 := RF.cell (i := 1) rfl
    have f2 := RF.cell (i := 2) rfl
    have f3 := RF.cell (i := 3) rfl
    have A99 := A6.keep U9 (fun i hi => (dm i hi).1)
    have g99 := g6.keep U9 (fun i hi e => (HS.out i hi).2.1 e)
    have up99 := up6.then U9 (fun i hi e => by have := HD.out; omega)
    obtain ⟨w9, hw9⟩ : ∃ w9, ((((w6.setCell ⟨D, 0, none⟩ (.int .i64 0)).setCell ⟨D, 1, none⟩ (.int .i64 0)).setCell ⟨D, 2, none⟩ (.int .i64 0)).setCell ⟨D, 3, none⟩ (.int .i64 0)) = w9 := ⟨_, rfl⟩
    rw [hw9] at f0 f1 f2 f3 A99 g99 up99 ⊢
    refine bodyPost_ret (v := didm (0, false, false, false)) (by simp [results, Try.results109, go_sem, didm, b2i, f0, f1, f2, f3]) rfl ?_
    rw [E]
    rw [← HX.out, pls_same _ _ hp] at A99
    exact ⟨rfl, A99, R', g99, up99, fun i hi => (by rw [HD.out]; exact (HS.out i hi).1)⟩
end Go.Proofs.Ytmiidiijhhjabaa.Ref15
