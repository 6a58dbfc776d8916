/- The document's lock of whom time may run out: its steps, by value: the same as the program's. -/
import Derived.Test.YtlkpfdboagjaoaaRef14
import Derived.Deep.RegionHeld3
namespace Go.Proofs.Ytlkpfdboagjaoaa.Ref14
open Go Go.RowKit Go.Proofs.Ytlkpfdboagjaoaa.Heap Go.Proofs.Ytlkpfdboagjaoaa.Open Go.Proofs.Ytlkpfdboagjaoaa.Seat Go.Proofs.Ytlkpfdboagjaoaa.Mach Go.Proofs.Ytlkpfdboagjaoaa.Has Go.Proofs.Ytlkpfdboagjaoaa.Ref09 Go.Proofs.Ytlkpfdboagjaoaa.Modl Go.Proofs.Ytlkpfdboagjaoaa.SeatP Go.Proofs.Ytlkpfdboagjaoaa.StepU Go.Proofs.Ytlkpfdboagjaoaa.Abort
variable {b : Bk} {c : Nat}
/-- What a step leaves: the document's places may be other ones where the call ends. -/
def Post (b : Bk) (c y n : Nat) (R : Nat → Prop) (sl : List (Int × Int)) (al : List Int) (q : Nat) (w : World) (ev : Int) (st' : St) (w' : World) : Prop :=
  ∃ pl' al', MAt b w' c sl pl' al' ∧ al'.length = al.length ∧ (∀ u, u ≠ q → al'.getD u 0 = al.getD u 0) ∧ pl'.length = st'.pls.length ∧ (∀ u, u ≠ q → pl'.getD u p0 = st'.pls.getD u p0) ∧ (pl'.getD q p0).n = (st'.pls.getD q p0).n ∧
    (ev = 0 → pl' = st'.pls ∧ ((st'.pls.getD q p0).o = 0 ∨ al'.getD q 0 = (st'.pls.getD q p0).o)) ∧
    ∃ R', Ref04.RO w' y R' n st'.ws st'.ts ∧ Upd (fun i => fm b i ∨ R i) w w' ∧ ∀ i, R' i → R i ∨ w.heap.size ≤ i
theorem dls_at (l : List Int) (x : Int) {u : Nat} (hu : u < l.length) : (l.set u x).getD u 0 = x := by rw [dls_set _ _ hu, if_pos rfl]
theorem dls_other (l : List Int) (x : Int) {u v : Nat} (h : v ≠ u) : (l.set u x).getD v 0 = l.getD v 0 := by
  rw [List.getD, List.getElem?_set_ne (fun z => h z.symm)]; rfl
theorem pl_at (l : List P) (x : P) {u : Nat} (hu : u < l.length) : (l.set u x).getD u p0 = x := by rw [pl_set _ _ hu, if_pos rfl]
theorem pl_other (l : List P) (x : P) {u v : Nat} (h : v ≠ u) : (l.set u x).getD v p0 = l.getD v p0 := by
  rw [List.getD, List.getElem?_set_ne (fun z => h z.symm)]; rfl
set_option maxHeartbeats 16000000 in
set_option maxRecDepth 20000 in
theorem lock0 {w : World} {st : St} {al : List Int} {y n q : Nat} {R : Nat → Prop} (h : MAt b w c st.seats st.pls al) (hR : Ref04.RO w y R n st.ws st.ts) (hd : ∀ i, R i → ¬ fm b i) (hf : st.ts.length < 1000000) (n8 : n ≤ 8) (hn : st.seats.length = n) (hws : st.ws.length ≤ 100000) (hwd : Mem.Wd st.ws) (hq : q < st.seats.length) (hal : (st.pls.getD q p0).o = 0 ∨ al.getD q 0 = (st.pls.getD q p0).o) (now : Int) (hr0 : 0 ≤ (st.pls.getD q p0).r) (hrc : (st.pls.getD q p0).r < c) (hc8 : c ≤ 8) (hs : (st.pls.getD q p0).s = 0) :
    Calls Try.prog 108 #[.pointer (some ⟨b.x, 0, none⟩), .pointer (some ⟨y, 0, none⟩), .int .i64 q, .int .i64 q, .int .i64 now] w fun e w' =>
      e = .returned (didm (lockS n 0 c st q q (lateB st.seats q now)).1) ∧ Post b c y n R st.seats al q w (lockS n 0 c st q q (lateB st.seats q now)).1.1 (lockS n 0 c st q q (lateB st.seats q now)).2 w' := by
  have hp : q < st.pls.length := by rw [h.l1]; exact hq
  have hqa : q < al.length := by rw [h.l2]; exact hq
  have hok := h.ok q hp
  obtain ⟨⟨ks, kr, kn, ko⟩, hx⟩ : ∃ x, st.pls.getD q p0 = x := ⟨_, rfl⟩
  rw [hx] at hok hs hal hr0 hrc
  obtain ⟨o1, o2, o3⟩ := hok
  dsimp only at o1 o2 o3 hs hal hr0 hrc
  subst hs
  obtain ⟨av, hav⟩ : ∃ v, al.getD q 0 = v := ⟨_, rfl⟩
  have oa := h.wd q
  rw [hav] at oa hal
  have n3 := h.top.cell (i := 3) rfl
  have n4 := h.top.cell (i := 4) rfl
  have i4 := h.nrow.cell (col_get hp)
  have i3 := h.prow.cell (col_get hp)
  rw [hx] at i4 i3
  dsimp only at i4 i3
  have hlx := h.lt b.x (fm_all b).1
  have hlp := h.lt b.pc (fm_all b).2.2.2.2.1
  have hln := h.lt b.nb (fm_all b).2.2.2.2.2.1
  have hlm := h.lt
  have hlr := hR.lt
  have D1 : Upd (fun _ => False) w ((w.alloc (.cells #[.int .i64 0, .int .i64 0, .int .i64 0, .int .i64 0] 138)).alloc (.cells #[.int .i64 0, .int .i64 0, .int .i64 0, .int .i64 0] 138)) := ((Upd.refl _ w).alloc _).alloc _
  have h1 := h.keep D1 (fun _ _ => id)
  have g1 := hR.keep D1 (fun _ _ => id)
  have R0 : Row ((w.alloc (.cells #[.int .i64 0, .int .i64 0, .int .i64 0, .int .i64 0] 138)).alloc (.cells #[.int .i64 0, .int .i64 0, .int .i64 0, .int .i64 0] 138)) w.heap.size [.int .i64 0, .int .i64 0, .int .i64 0, .int .i64 0] := (Row.new' rfl).alloc _
  have R1 : Row ((w.alloc (.cells #[.int .i64 0, .int .i64 0, .int .i64 0, .int .i64 0] 138)).alloc (.cells #[.int .i64 0, .int .i64 0, .int .i64 0, .int .i64 0] 138)) (w.heap.size + 1) [.int .i64 0, .int .i64 0, .int .i64 0, .int .i64 0] := Row.new' (by simp)
  have up1 : Upd (fun i => fm b i ∨ R i) w ((w.alloc (.cells #[.int .i64 0, .int .i64 0, .int .i64 0, .int .i64 0] 138)).alloc (.cells #[.int .i64 0, .int .i64 0, .int .i64 0, .int .i64 0] 138)) := D1.mono fun _ _ z => z.elim
  obtain ⟨D, hD⟩ : ∃ D, w.heap.size = D := ⟨_, rfl⟩
  have HD := Lib.hid hD
  obtain ⟨W, hW⟩ : ∃ W, (w.alloc (.cells #[.int .i64 0, .int .i64 0, .int .i64 0, .int .i64 0] 138)).alloc (.cells #[.int .i64 0, .int .i64 0, .int .i64 0, .int .i64 0] 138) = W := ⟨_, rfl⟩
  rw [hW] at h1 g1 R0 R1 up1
  rw [hD] at R0 R1 hlm hlr
  have HW := Lib.hid hW
  have HWD := Lib.hid (show W.heap.size = D + 2 by rw [← hW, ← hD]; simp)
  have nD : ¬ R D := fun h => by have := hlr D h; omega
  have nD1 : ¬ R (D + 1) := fun h => by have := hlr _ h; omega
  clear D1 hW hD
  have hq8 : q ≤ 8 := by omega
  have hq1 : (0 : Int) ≤ (q : Int) := by omega
  have hq2 : (q : Int) < (st.seats.length : Int) := by omega
  have HLM := Lib.hid hlm
  have HLR := Lib.hid hlr
  have HX := Lib.hid hx
  have HAL := Lib.hid hal
  have HAV := Lib.hid hav
  have nx : ¬ R b.x := fun h => hd _ h (fm_all b).1
  have no : ¬ R b.ob := fun h => hd _ h (fm_all b).2.2.2.2.2.2.1
  have HF := Lib.hid hf
  have HK64 := Lib.hid (show n ≤ 64 by omega)
  have HWS := Lib.hid hws
  have HDD := Lib.hid hd
  have HWDD := Lib.hid hwd
  clear hlm hlr hR hd hf hws h hx hn hwd hal hav
  have ne1 : IntKind.i64.wrap 2 = 2 := rfl
  have c1 := h1.top.cell (i := 1) rfl
  obtain ⟨nd, hnd⟩ : ∃ nd : Int, (q : Int) * c + kr + 1 = nd := ⟨_, rfl⟩
  have hqc : q * c ≤ 8 * 8 := Nat.mul_le_mul (by omega) hc8
  have hqi : (q : Int) * (c : Int) = ((q * c : Nat) : Int) := by push_cast; rfl
  have hndr : 0 ≤ nd ∧ nd < 4294967296 := by rw [← hnd, hqi]; omega
  have hu1 : IntKind.i64.wrap ((q : Int) * (c : Int)) = (q : Int) * (c : Int) := IntWalk.i64_in _ (by rw [hqi]; omega)
  have hu2 : IntKind.i64.wrap ((q : Int) * (c : Int) + kr) = (q : Int) * (c : Int) + kr := IntWalk.i64_in _ (by rw [hqi]; omega)
  have hu3 : IntKind.i64.wrap ((q : Int) * (c : Int) + kr + 1) = nd := by rw [hnd]; exact IntWalk.i64_in _ (by omega)
  have hu4 : IntKind.i64.wrap (kr + 1) = kr + 1 := IntWalk.i64_in _ (by omega)
  have orr : 0 ≤ kr + 1 ∧ kr + 1 ≤ 8 := by omega
  have HND := Lib.hid hnd
  have c2 := h1.top.cell (i := 2) rfl
  have c6 := h1.top.cell (i := 6) rfl
  have b6 := h1.trow.cell (col_get hp)
  rw [HX.out] at b6
  dsimp only at b6
  clear hnd hqi
  go_enter Try.func108, Try.ntmps108
  go_upto_region 4 with (fail)
  rw [HW.out, HD.out]
  clear n3 n4 i4 i3 hlx hlp hln
  go_wp2_with fail
  go_quiet (fail)
  rename_i nq
  have A2 := h1.keep ((Upd.refl (fun _ => False) W).drewN nq) (fun _ _ => id)
  have g2 := g1.keep ((Upd.refl (fun _ => False) W).drewN nq) (fun _ _ => id)
  have R2 := R1.drewN nq
  have Q2 := R0.drewN nq
  have up2 := up1.drewN nq
  have HWD2 : Hid ((W.drewN nq).heap.size = D + 2) := Lib.hid HWD.out
  obtain ⟨w2, hw2⟩ : ∃ w2, W.drewN nq = w2 := ⟨_, rfl⟩
  rw [hw2] at A2 g2 R2 Q2 up2 HWD2 ⊢
  clear hw2 c1 c2 c6 b6 h1 g1 R1 R0 up1
  have HS : Hid (∀ i, R i → (R i ∨ D ≤ i) ∧ ¬ fm b i ∧ i ≠ D ∧ i ≠ D + 1) := Lib.hid fun i hi => ⟨.inl hi, HDD.out i hi, by have := HLR.out i hi; omega, by have := HLR.out i hi; omega⟩
  have dm : ∀ i, fm b i → i ≠ D ∧ i ≠ D + 1 := fun i hi => by have := HLM.out i hi; exact ⟨by omega, by omega⟩
  have t4 := A2.top.cell (i := 4) rfl
  have s4 := A2.nrow.cell (col_get (t := q) (by rw [A2.l1]; exact hq))
  rw [HX.out] at s4
  dsimp only at s4
  have v4 := A2.nrow.frozen q
  have A3 : MAt b (w2.setCell ⟨b.nb, q, none⟩ (.int .i64 (nd))) c st.seats _ _ := A2.setNd q hq ⟨0, kr, nd, ko⟩ (by rw [HX.out]) ⟨(show (0 : Int) ≤ 0 ∧ (0 : Int) ≤ 8 by decide), o2, hndr⟩
  have U3 := Upd.one w2 b.nb q (.int .i64 (nd))
  have g3 := g2.keep U3 (fun i hi e => (HS.out i hi).2.1 (e ▸ (fm_all b).2.2.2.2.2.1))
  have up3 := up2.trans (U3.mono fun i _ e => .inl (e ▸ (fm_all b).2.2.2.2.2.1))
  have R3 := R2.upd U3 (fun e => (dm b.nb (fm_all b).2.2.2.2.2.1).2 e.symm)
  have Q3 := Q2.upd U3 (fun e => (dm b.nb (fm_all b).2.2.2.2.2.1).1 e.symm)
  go_upto_region 7 with (fail)
  obtain ⟨w3, hw3⟩ : ∃ w', w2.setCell ⟨b.nb, q, none⟩ (.int .i64 (nd)) = w' := ⟨_, rfl⟩
  rw [hw3] at A3 g3 up3 R3 Q3 ⊢
  clear hw3 U3 A2 g2 up2 R2 Q2 t4 s4 v4
  have HX3 := Lib.hid (show (st.pls.set q ⟨0, kr, nd, ko⟩).getD q p0 = ⟨0, kr, nd, ko⟩ by rw [pl_at _ _ hp])
  have t6 := A3.top.cell (i := 6) rfl
  have s6 := A3.trow.cell (col_get (t := q) (by rw [A3.l1]; exact hq))
  rw [HX3.out] at s6
  dsimp only at s6
  have v6 := A3.trow.frozen q
  have A4 : MAt b (w3.setCell ⟨b.tb, q, none⟩ (.int .i64 (kr + 1))) c st.seats _ _ := A3.setTr q hq ⟨0, kr + 1, nd, ko⟩ (by rw [HX3.out]) ⟨(show (0 : Int) ≤ 0 ∧ (0 : Int) ≤ 8 by decide), orr, hndr⟩
  have U4 := Upd.one w3 b.tb q (.int .i64 (kr + 1))
  have g4 := g3.keep U4 (fun i hi e => (HS.out i hi).2.1 (e ▸ (fm_all b).2.2.2.2.2.2.2))
  have up4 := up3.trans (U4.mono fun i _ e => .inl (e ▸ (fm_all b).2.2.2.2.2.2.2))
  have R4 := R3.upd U4 (fun e => (dm b.tb (fm_all b).2.2.2.2.2.2.2).2 e.symm)
  have Q4 := Q3.upd U4 (fun e => (dm b.tb (fm_all b).2.2.2.2.2.2.2).1 e.symm)
  go_upto_region 8 with (fail)
  obtain ⟨w4, hw4⟩ : ∃ w', w3.setCell ⟨b.tb, q, none⟩ (.int .i64 (kr + 1)) = w' := ⟨_, rfl⟩
  rw [hw4] at A4 g4 up4 R4 Q4 ⊢
  clear hw4 U4 A3 g3 up3 R3 Q3 t6 s6 v6
  rw [List.set_set] at A4
  have HX4 := Lib.hid (show (st.pls.set q ⟨0, kr + 1, nd, ko⟩).getD q p0 = ⟨0, kr + 1, nd, ko⟩ by rw [pl_at _ _ hp])
  have HW4 : Hid (D + 2 ≤ w4.heap.size) := Lib.hid (by have := R4.lt; omega)
  have c1 := A4.top.cell (i := 1) rfl
  have KDnv := wdC (b := b) (w := w4) c1 nd 2 hndr (by decide)
  obtain ⟨nv, hnvnv⟩ : ∃ nv, stA 0 nd + 2 = nv := ⟨_, rfl⟩
  rw [hnvnv] at KDnv
  have HNVnv := Lib.hid hnvnv
  have HKDnv := Lib.hid KDnv
  clear KDnv hnvnv
  obtain ⟨g, hg⟩ : ∃ g, rd n st.ws q (nv) = g := ⟨_, rfl⟩
  have hgw := rd_wd HWDD.out n q (nv)
  rw [hg] at hgw
  have KA := Ref04.loadR w4 g4 HF.out HK64.out HWS.out q (nv)
  rw [hg] at KA
  have HKA := Lib.hid KA
  clear KA
  go_wp2_with fail
  refine HKDnv.out.mono ?_
  rintro e w' ⟨rfl, rfl⟩
  go_wp2_with fail
  refine HKA.out.mono ?_
  rintro e w5 ⟨rfl, R', hR5, u5, hR5s⟩
  have HS' := HS
  clear HS c1
  have HS : Hid (∀ i, R' i → (R i ∨ D ≤ i) ∧ ¬ fm b i ∧ i ≠ D ∧ i ≠ D + 1) := Lib.hid fun i hi => by
    rcases hR5s i hi with h | h
    · exact ⟨.inl h, HDD.out i h, by have := HLR.out i h; omega, by have := HLR.out i h; omega⟩
    · have := HW4.out
      have h : w4.heap.size ≤ i := h
      exact ⟨.inr (by omega), fun e => by have := HLM.out i e; omega, by omega, by omega⟩
  have A5 := A4.keep u5 (fun i hi h => HDD.out i h hi)
  have up5 : Upd (fun i => fm b i ∨ R i) w w5 := (up4).trans (u5.mono fun i _ h => .inr h)
  have g5 := hR5
  have dm : ∀ i, fm b i → i ≠ D ∧ i ≠ D + 1 := fun i hi => by have := HLM.out i hi; exact ⟨by omega, by omega⟩
  have R5 := (R4).upd u5 nD1
  have Q5 := (Q4).upd u5 nD
  clear A4 R4 Q4 up4 g4
  by_cases hg0 : g = 0
  · subst hg0
    have t3 := A5.top.cell (i := 3) rfl
    have s3 := A5.prow.cell (col_get (t := q) (by rw [A5.l1]; exact hq))
    rw [HX4.out] at s3
    dsimp only at s3
    have v3 := A5.prow.frozen q
    have A6 : MAt b (w5.setCell ⟨b.pc, q, none⟩ (.int .i64 (2))) c st.seats _ _ := A5.setPc q hq ⟨1, kr + 1, nd, ko⟩ (by rw [HX4.out]) ⟨(show (0 : Int) ≤ 1 ∧ (1 : Int) ≤ 8 by decide), orr, hndr⟩
    have U6 := Upd.one w5 b.pc q (.int .i64 (2))
    have g6 := g5.keep U6 (fun i hi e => (HS.out i hi).2.1 (e ▸ (fm_all b).2.2.2.2.1))
    have up6 := up5.trans (U6.mono fun i _ e => .inl (e ▸ (fm_all b).2.2.2.2.1))
    have R6 := R5.upd U6 (fun e => (dm b.pc (fm_all b).2.2.2.2.1).2 e.symm)
    have Q6 := Q5.upd U6 (fun e => (dm b.pc (fm_all b).2.2.2.2.1).1 e.symm)
    go_upto_region 36 with (fail)
    obtain ⟨w6, hw6⟩ : ∃ w', w5.setCell ⟨b.pc, q, none⟩ (.int .i64 (2)) = w' := ⟨_, rfl⟩
    rw [hw6] at A6 g6 up6 R6 Q6 ⊢
    clear hw6 U6 A5 g5 up5 R5 Q5 t3 s3 v3
    rw [List.set_set] at A6
    have r0 := R6.cell (i := 0) rfl
    have q0 := Q6.cell (i := 0) rfl
    have z0 := Q6.frozen 0
    have r1 := R6.cell (i := 1) rfl
    have q1 := Q6.cell (i := 1) rfl
    have z1 := Q6.frozen 1
    have r2 := R6.cell (i := 2) rfl
    have q2 := Q6.cell (i := 2) rfl
    have z2 := Q6.frozen 2
    have r3 := R6.cell (i := 3) rfl
    have q3 := Q6.cell (i := 3) rfl
    have z3 := Q6.frozen 3
    go_wp2_with fail
    have U9 : Upd (fun i => i = D) w6 ((((w6.setCell ⟨D, 0, none⟩ (.int .i64 0)).setCell ⟨D, 1, none⟩ (.int .i64 0)).setCell ⟨D, 2, none⟩ (.int .i64 0)).setCell ⟨D, 3, none⟩ (.int .i64 0)) := (((Upd.one _ _ _ _).trans (Upd.one _ _ _ _)).trans (Upd.one _ _ _ _)).trans (Upd.one _ _ _ _)
    have RF := (((Q6.set 0 (.int .i64 0)).set 1 (.int .i64 0)).set 2 (.int .i64 0)).set 3 (.int .i64 0)
    have f0 := RF.cell (i := 0) rfl
    have f1 := RF.cell (i := 1) rfl
    have f2 := RF.cell (i := 2) rfl
    have f3 := RF.cell (i := 3) rfl
    have A99 := A6.keep U9 (fun i hi => (dm i hi).1)
    have g99 := g6.keep U9 (fun i hi e => (HS.out i hi).2.2.1 e)
    have up99 := up6.then U9 (fun i hi e => by have := HD.out; omega)
    obtain ⟨w99, hw99⟩ : ∃ w', ((((w6.setCell ⟨D, 0, none⟩ (.int .i64 0)).setCell ⟨D, 1, none⟩ (.int .i64 0)).setCell ⟨D, 2, none⟩ (.int .i64 0)).setCell ⟨D, 3, none⟩ (.int .i64 0)) = w' := ⟨_, rfl⟩
    rw [hw99] at f0 f1 f2 f3 A99 g99 up99 ⊢
    refine bodyPost_ret (v := didm (0, false, false, false)) (by simp [results, Try.results108, go_sem, didm, b2i, f0, f1, f2, f3]) rfl ?_
    have E : lockS n 0 c st q q (lateB st.seats q now) = ((0, false, false, false), { st with pls := st.pls.set q ⟨1, kr + 1, nd, ko⟩, ts := Cache.after n st.ws.length st.ts q (nv) false }) := by
      unfold lockS; rw [HX.out]; dsimp only; rw [if_pos rfl, HND.out, HNVnv.out, hg, if_pos rfl]
    rw [E]
    refine ⟨rfl, _, _, A99, ?_, ?_, ?_, ?_, ?_, ?_, R', g99, up99, fun i hi => (by rw [HD.out]; exact (HS.out i hi).1)⟩
    · first | rfl | simp
    · intro u hu; first | rfl | exact dls_other _ _ hu
    · first | rfl | simp
    · intro u hu; first | rfl | (dsimp only; rw [pl_other _ _ hu, pl_other _ _ hu]) | (dsimp only; rw [pl_other _ _ hu])
    · first | rfl | (dsimp only; done) | (dsimp only; rw [pl_at _ _ hp, pl_at _ _ hp]) | (dsimp only; rw [pl_at _ _ hp, HX.out])
    · intro h0
      first
        | exact absurd h0 (by first | (show ¬ ((1 : Int) = 0); decide) | (show ¬ ((2 : Int) = 0); decide) | (show ¬ ((6 : Int) = 0); decide) | (show ¬ ((3 : Int) = 0); decide))
        | (refine ⟨by first | rfl | (rw [List.set_set]), ?_⟩
           first
             | exact HAL.out.imp id (fun e => HAV.out.trans e)
             | (dsimp only; rw [pl_at _ _ hp]; dsimp only; first | exact .inl rfl | exact .inr (dls_at _ _ hqa) | exact HAL.out.imp id (fun e => HAV.out.trans e) | exact .inr HAV.out)
             | (dsimp only; rw [HX.out]; dsimp only; first | exact HAL.out.imp id (fun e => HAV.out.trans e) | exact .inr HAV.out))
  · have hg0' : (g != 0) = true := by simpa using hg0
    have c2 := A5.top.cell (i := 2) rfl
    have c6 := A5.top.cell (i := 6) rfl
    have b6 := A5.trow.cell (col_get (t := q) (by rw [A5.l1]; exact hq))
    rw [HX4.out] at b6
    dsimp only at b6
    go_upto_region 9 with (fail)
    by_cases hrl : kr + 1 = (c : Int)
    · have hrl' : (kr + 1 == (c : Int)) = true := by simpa using hrl
      go_wp2_with fail
      go_quiet (fail)
      have A7 := A5.keep ((Upd.refl (fun _ => False) w5).drewN nq) (fun _ _ => id)
      have g7 := g5.keep ((Upd.refl (fun _ => False) w5).drewN nq) (fun _ _ => id)
      have R7 := R5.drewN nq
      have Q7 := Q5.drewN nq
      have up7 := up5.drewN nq
      obtain ⟨w7, hw7⟩ : ∃ w7, w5.drewN nq = w7 := ⟨_, rfl⟩
      rw [hw7] at A7 g7 R7 Q7 up7 ⊢
      clear hw7 c2 c6 b6 A5 g5 R5 Q5 up5
      have y1 := R7.cell (i := 0) rfl
      have y2 := R7.frozen 0
      have U8 := Upd.one w7 (D + 1) 0 (.int .i64 6)
      have A8 := A7.keep U8 (fun i hi e => (dm i hi).2 e)
      have R8 := R7.set 0 (.int .i64 6)
      have Q8 := Q7.upd U8 (by omega)
      have g8 := g7.keep U8 (fun i hi e => (HS.out i hi).2.2.2 e)
      have up8 := up7.then U8 (fun i hi e => by have := HD.out; omega)
      go_upto_region 11 with (fail)
      obtain ⟨w8, hw8⟩ : ∃ w', w7.setCell ⟨D + 1, 0, none⟩ (.int .i64 6) = w' := ⟨_, rfl⟩
      rw [hw8] at A8 R8 Q8 g8 up8 ⊢
      clear hw8 y1 y2 U8 A7 R7 Q7 g7 up7
      have r0 := R8.cell (i := 0) rfl
      have q0 := Q8.cell (i := 0) rfl
      have z0 := Q8.frozen 0
      have r1 := R8.cell (i := 1) rfl
      have q1 := Q8.cell (i := 1) rfl
      have z1 := Q8.frozen 1
      have r2 := R8.cell (i := 2) rfl
      have q2 := Q8.cell (i := 2) rfl
      have z2 := Q8.frozen 2
      have r3 := R8.cell (i := 3) rfl
      have q3 := Q8.cell (i := 3) rfl
      have z3 := Q8.frozen 3
      go_wp2_with fail
      have U9 : Upd (fun i => i = D) w8 ((((w8.setCell ⟨D, 0, none⟩ (.int .i64 6)).setCell ⟨D, 1, none⟩ (.int .i64 0)).setCell ⟨D, 2, none⟩ (.int .i64 0)).setCell ⟨D, 3, none⟩ (.int .i64 0)) := (((Upd.one _ _ _ _).trans (Upd.one _ _ _ _)).trans (Upd.one _ _ _ _)).trans (Upd.one _ _ _ _)
      have RF := (((Q8.set 0 (.int .i64 6)).set 1 (.int .i64 0)).set 2 (.int .i64 0)).set 3 (.int .i64 0)
      have f0 := RF.cell (i := 0) rfl
      have f1 := RF.cell (i := 1) rfl
      have f2 := RF.cell (i := 2) rfl
      have f3 := RF.cell (i := 3) rfl
      have A99 := A8.keep U9 (fun i hi => (dm i hi).1)
      have g99 := g8.keep U9 (fun i hi e => (HS.out i hi).2.2.1 e)
      have up99 := up8.then U9 (fun i hi e => by have := HD.out; omega)
      obtain ⟨w99, hw99⟩ : ∃ w', ((((w8.setCell ⟨D, 0, none⟩ (.int .i64 6)).setCell ⟨D, 1, none⟩ (.int .i64 0)).setCell ⟨D, 2, none⟩ (.int .i64 0)).setCell ⟨D, 3, none⟩ (.int .i64 0)) = w' := ⟨_, rfl⟩
      rw [hw99] at f0 f1 f2 f3 A99 g99 up99 ⊢
      refine bodyPost_ret (v := didm (6, false, false, false)) (by simp [results, Try.results108, go_sem, didm, b2i, f0, f1, f2, f3]) rfl ?_
      have E : lockS n 0 c st q q (lateB st.seats q now) = ((6, false, false, false), { st with pls := st.pls.set q ⟨0, kr + 1, nd, ko⟩, ts := Cache.after n st.ws.length st.ts q (nv) false }) := by
        unfold lockS; rw [HX.out]; dsimp only; rw [if_pos rfl, HND.out, HNVnv.out, hg, if_neg hg0, if_pos hrl]
      rw [E]
      refine ⟨rfl, _, _, A99, ?_, ?_, ?_, ?_, ?_, ?_, R', g99, up99, fun i hi => (by rw [HD.out]; exact (HS.out i hi).1)⟩
      · first | rfl | simp
      · intro u hu; first | rfl | exact dls_other _ _ hu
      · first | rfl | simp
      · intro u hu; first | rfl | (dsimp only; rw [pl_other _ _ hu, pl_other _ _ hu]) | (dsimp only; rw [pl_other _ _ hu])
      · first | rfl | (dsimp only; done) | (dsimp only; rw [pl_at _ _ hp, pl_at _ _ hp]) | (dsimp only; rw [pl_at _ _ hp, HX.out])
      · intro h0
        first
          | exact absurd h0 (by first | (show ¬ ((1 : Int) = 0); decide) | (show ¬ ((2 : Int) = 0); decide) | (show ¬ ((6 : Int) = 0); decide) | (show ¬ ((3 : Int) = 0); decide))
          | (refine ⟨by first | rfl | (rw [List.set_set]), ?_⟩
             first
               | exact HAL.out.imp id (fun e => HAV.out.trans e)
               | (dsimp only; rw [pl_at _ _ hp]; dsimp only; first | exact .inl rfl | exact .inr (dls_at _ _ hqa) | exact HAL.out.imp id (fun e => HAV.out.trans e) | exact .inr HAV.out)
               | (dsimp only; rw [HX.out]; dsimp only; first | exact HAL.out.imp id (fun e => HAV.out.trans e) | exact .inr HAV.out))
    · have hrl' : (kr + 1 == (c : Int)) = false := by simpa using hrl
      go_wp2_with fail
      go_quiet (fail)
      have A7 := A5.keep ((Upd.refl (fun _ => False) w5).drewN nq) (fun _ _ => id)
      have g7 := g5.keep ((Upd.refl (fun _ => False) w5).drewN nq) (fun _ _ => id)
      have R7 := R5.drewN nq
      have Q7 := Q5.drewN nq
      have up7 := up5.drewN nq
      obtain ⟨w7, hw7⟩ : ∃ w7, w5.drewN nq = w7 := ⟨_, rfl⟩
      rw [hw7] at A7 g7 R7 Q7 up7 ⊢
      clear hw7 c2 c6 b6 A5 g5 R5 Q5 up5
      have r0 := R7.cell (i := 0) rfl
      have q0 := Q7.cell (i := 0) rfl
      have z0 := Q7.frozen 0
      have r1 := R7.cell (i := 1) rfl
      have q1 := Q7.cell (i := 1) rfl
      have z1 := Q7.frozen 1
      have r2 := R7.cell (i := 2) rfl
      have q2 := Q7.cell (i := 2) rfl
      have z2 := Q7.frozen 2
      have r3 := R7.cell (i := 3) rfl
      have q3 := Q7.cell (i := 3) rfl
      have z3 := Q7.frozen 3
      go_wp2_with fail
      have U9 : Upd (fun i => i = D) w7 ((((w7.setCell ⟨D, 0, none⟩ (.int .i64 0)).setCell ⟨D, 1, none⟩ (.int .i64 0)).setCell ⟨D, 2, none⟩ (.int .i64 0)).setCell ⟨D, 3, none⟩ (.int .i64 0)) := (((Upd.one _ _ _ _).trans (Upd.one _ _ _ _)).trans (Upd.one _ _ _ _)).trans (Upd.one _ _ _ _)
      have RF := (((Q7.set 0 (.int .i64 0)).set 1 (.int .i64 0)).set 2 (.int .i64 0)).set 3 (.int .i64 0)
      have f0 := RF.cell (i := 0) rfl
      have f1 := RF.cell (i := 1) rfl
      have f2 := RF.cell (i := 2) rfl
      have f3 := RF.cell (i := 3) rfl
      have A99 := A7.keep U9 (fun i hi => (dm i hi).1)
      have g99 := g7.keep U9 (fun i hi e => (HS.out i hi).2.2.1 e)
      have up99 := up7.then U9 (fun i hi e => by have := HD.out; omega)
      obtain ⟨w99, hw99⟩ : ∃ w', ((((w7.setCell ⟨D, 0, none⟩ (.int .i64 0)).setCell ⟨D, 1, none⟩ (.int .i64 0)).setCell ⟨D, 2, none⟩ (.int .i64 0)).setCell ⟨D, 3, none⟩ (.int .i64 0)) = w' := ⟨_, rfl⟩
      rw [hw99] at f0 f1 f2 f3 A99 g99 up99 ⊢
      refine bodyPost_ret (v := didm (0, false, false, false)) (by simp [results, Try.results108, go_sem, didm, b2i, f0, f1, f2, f3]) rfl ?_
      have E : lockS n 0 c st q q (lateB st.seats q now) = ((0, false, false, false), { st with pls := st.pls.set q ⟨0, kr + 1, nd, ko⟩, ts := Cache.after n st.ws.length st.ts q (nv) false }) := by
        unfold lockS; rw [HX.out]; dsimp only; rw [if_pos rfl, HND.out, HNVnv.out, hg, if_neg hg0, if_neg hrl]
      rw [E]
      refine ⟨rfl, _, _, A99, ?_, ?_, ?_, ?_, ?_, ?_, R', g99, up99, fun i hi => (by rw [HD.out]; exact (HS.out i hi).1)⟩
      · first | rfl | simp
      · intro u hu; first | rfl | exact dls_other _ _ hu
      · first | rfl | simp
      · intro u hu; first | rfl | (dsimp only; rw [pl_other _ _ hu, pl_other _ _ hu]) | (dsimp only; rw [pl_other _ _ hu])
      · first | rfl | (dsimp only; done) | (dsimp only; rw [pl_at _ _ hp, pl_at _ _ hp]) | (dsimp only; rw [pl_at _ _ hp, HX.out])
      · intro h0
        first
          | exact absurd h0 (by first | (show ¬ ((1 : Int) = 0); decide) | (show ¬ ((2 : Int) = 0); decide) | (show ¬ ((6 : Int) = 0); decide) | (show ¬ ((3 : Int) = 0); decide))
          | (refine ⟨by first | rfl | (rw [List.set_set]), ?_⟩
             first
               | exact HAL.out.imp id (fun e => HAV.out.trans e)
               | (dsimp only; rw [pl_at _ _ hp]; dsimp only; first | exact .inl rfl | exact .inr (dls_at _ _ hqa) | exact HAL.out.imp id (fun e => HAV.out.trans e) | exact .inr HAV.out)
               | (dsimp only; rw [HX.out]; dsimp only; first | exact HAL.out.imp id (fun e => HAV.out.trans e) | exact .inr HAV.out))
set_option maxHeartbeats 16000000 in
set_option maxRecDepth 20000 in
theorem lock1 {w : World} {st : St} {al : List Int} {y n q : Nat} {R : Nat → Prop} (h : MAt b w c st.seats st.pls al) (hR : Ref04.RO w y R n st.ws st.ts) (hd : ∀ i, R i → ¬ fm b i) (hf : st.ts.length < 1000000) (n8 : n ≤ 8) (hn : st.seats.length = n) (hws : st.ws.length ≤ 100000) (hwd : Mem.Wd st.ws) (hq : q < st.seats.length) (hal : (st.pls.getD q p0).o = 0 ∨ al.getD q 0 = (st.pls.getD q p0).o) (now : Int) (hs : (st.pls.getD q p0).s = 1) :
    Calls Try.prog 108 #[.pointer (some ⟨b.x, 0, none⟩), .pointer (some ⟨y, 0, none⟩), .int .i64 q, .int .i64 q, .int .i64 now] w fun e w' =>
      e = .returned (didm (lockS n 0 c st q q (lateB st.seats q now)).1) ∧ Post b c y n R st.seats al q w (lockS n 0 c st q q (lateB st.seats q now)).1.1 (lockS n 0 c st q q (lateB st.seats q now)).2 w' := by
  have hp : q < st.pls.length := by rw [h.l1]; exact hq
  have hqa : q < al.length := by rw [h.l2]; exact hq
  have hok := h.ok q hp
  obtain ⟨⟨ks, kr, kn, ko⟩, hx⟩ : ∃ x, st.pls.getD q p0 = x := ⟨_, rfl⟩
  rw [hx] at hok hs hal
  obtain ⟨o1, o2, o3⟩ := hok
  dsimp only at o1 o2 o3 hs hal
  subst hs
  obtain ⟨av, hav⟩ : ∃ v, al.getD q 0 = v := ⟨_, rfl⟩
  have oa := h.wd q
  rw [hav] at oa hal
  have n3 := h.top.cell (i := 3) rfl
  have n4 := h.top.cell (i := 4) rfl
  have i4 := h.nrow.cell (col_get hp)
  have i3 := h.prow.cell (col_get hp)
  rw [hx] at i4 i3
  dsimp only at i4 i3
  have hlx := h.lt b.x (fm_all b).1
  have hlp := h.lt b.pc (fm_all b).2.2.2.2.1
  have hln := h.lt b.nb (fm_all b).2.2.2.2.2.1
  have hlm := h.lt
  have hlr := hR.lt
  have D1 : Upd (fun _ => False) w ((w.alloc (.cells #[.int .i64 0, .int .i64 0, .int .i64 0, .int .i64 0] 138)).alloc (.cells #[.int .i64 0, .int .i64 0, .int .i64 0, .int .i64 0] 138)) := ((Upd.refl _ w).alloc _).alloc _
  have h1 := h.keep D1 (fun _ _ => id)
  have g1 := hR.keep D1 (fun _ _ => id)
  have R0 : Row ((w.alloc (.cells #[.int .i64 0, .int .i64 0, .int .i64 0, .int .i64 0] 138)).alloc (.cells #[.int .i64 0, .int .i64 0, .int .i64 0, .int .i64 0] 138)) w.heap.size [.int .i64 0, .int .i64 0, .int .i64 0, .int .i64 0] := (Row.new' rfl).alloc _
  have R1 : Row ((w.alloc (.cells #[.int .i64 0, .int .i64 0, .int .i64 0, .int .i64 0] 138)).alloc (.cells #[.int .i64 0, .int .i64 0, .int .i64 0, .int .i64 0] 138)) (w.heap.size + 1) [.int .i64 0, .int .i64 0, .int .i64 0, .int .i64 0] := Row.new' (by simp)
  have up1 : Upd (fun i => fm b i ∨ R i) w ((w.alloc (.cells #[.int .i64 0, .int .i64 0, .int .i64 0, .int .i64 0] 138)).alloc (.cells #[.int .i64 0, .int .i64 0, .int .i64 0, .int .i64 0] 138)) := D1.mono fun _ _ z => z.elim
  obtain ⟨D, hD⟩ : ∃ D, w.heap.size = D := ⟨_, rfl⟩
  have HD := Lib.hid hD
  obtain ⟨W, hW⟩ : ∃ W, (w.alloc (.cells #[.int .i64 0, .int .i64 0, .int .i64 0, .int .i64 0] 138)).alloc (.cells #[.int .i64 0, .int .i64 0, .int .i64 0, .int .i64 0] 138) = W := ⟨_, rfl⟩
  rw [hW] at h1 g1 R0 R1 up1
  rw [hD] at R0 R1 hlm hlr
  have HW := Lib.hid hW
  have HWD := Lib.hid (show W.heap.size = D + 2 by rw [← hW, ← hD]; simp)
  have nD : ¬ R D := fun h => by have := hlr D h; omega
  have nD1 : ¬ R (D + 1) := fun h => by have := hlr _ h; omega
  clear D1 hW hD
  have hq8 : q ≤ 8 := by omega
  have hq1 : (0 : Int) ≤ (q : Int) := by omega
  have hq2 : (q : Int) < (st.seats.length : Int) := by omega
  have HLM := Lib.hid hlm
  have HLR := Lib.hid hlr
  have HX := Lib.hid hx
  have HAL := Lib.hid hal
  have HAV := Lib.hid hav
  have nx : ¬ R b.x := fun h => hd _ h (fm_all b).1
  have no : ¬ R b.ob := fun h => hd _ h (fm_all b).2.2.2.2.2.2.1
  have HF := Lib.hid hf
  have HK64 := Lib.hid (show n ≤ 64 by omega)
  have HWS := Lib.hid hws
  have HDD := Lib.hid hd
  have HWDD := Lib.hid hwd
  clear hlm hlr hR hd hf hws h hx hn hwd hal hav
  have ne1 : IntKind.i64.wrap 3 = 3 := rfl
  have c1 := h1.top.cell (i := 1) rfl
  have KDnv := wdC (b := b) (w := W) c1 kn 2 o3 (by decide)
  obtain ⟨nv, hnvnv⟩ : ∃ nv, stA 0 kn + 2 = nv := ⟨_, rfl⟩
  rw [hnvnv] at KDnv
  have HNVnv := Lib.hid hnvnv
  have HKDnv := Lib.hid KDnv
  clear KDnv hnvnv
  have KA := Ref04.storeR W g1 HF.out HK64.out HWS.out q (nv) 1
  have HKA := Lib.hid KA
  clear KA
  go_enter Try.func108, Try.ntmps108
  go_upto_region 4 with (fail)
  rw [HW.out, HD.out]
  clear n3 n4 i4 i3 hlx hlp hln
  go_wp2_with fail
  refine HKDnv.out.mono ?_
  rintro e w' ⟨rfl, rfl⟩
  go_wp2_with fail
  refine HKA.out.mono ?_
  rintro e w5 ⟨rfl, R', hR5, u5, hR5s⟩
  clear c1
  have HS : Hid (∀ i, R' i → (R i ∨ D ≤ i) ∧ ¬ fm b i ∧ i ≠ D ∧ i ≠ D + 1) := Lib.hid fun i hi => by
    rcases hR5s i hi with h | h
    · exact ⟨.inl h, HDD.out i h, by have := HLR.out i h; omega, by have := HLR.out i h; omega⟩
    · have := HWD.out
      have h : W.heap.size ≤ i := h
      exact ⟨.inr (by omega), fun e => by have := HLM.out i e; omega, by omega, by omega⟩
  have A5 := h1.keep u5 (fun i hi h => HDD.out i h hi)
  have up5 : Upd (fun i => fm b i ∨ R i) w w5 := (up1).trans (u5.mono fun i _ h => .inr h)
  have g5 := hR5
  have dm : ∀ i, fm b i → i ≠ D ∧ i ≠ D + 1 := fun i hi => by have := HLM.out i hi; exact ⟨by omega, by omega⟩
  have R5 := (R1).upd u5 nD1
  have Q5 := (R0).upd u5 nD
  have t3 := A5.top.cell (i := 3) rfl
  have s3 := A5.prow.cell (col_get (t := q) (by rw [A5.l1]; exact hq))
  rw [HX.out] at s3
  dsimp only at s3
  have v3 := A5.prow.frozen q
  have A6 : MAt b (w5.setCell ⟨b.pc, q, none⟩ (.int .i64 (3))) c st.seats _ _ := A5.setPc q hq ⟨2, kr, kn, ko⟩ (by rw [HX.out]) ⟨(show (0 : Int) ≤ 2 ∧ (2 : Int) ≤ 8 by decide), o2, o3⟩
  have U6 := Upd.one w5 b.pc q (.int .i64 (3))
  have g6 := g5.keep U6 (fun i hi e => (HS.out i hi).2.1 (e ▸ (fm_all b).2.2.2.2.1))
  have up6 := up5.trans (U6.mono fun i _ e => .inl (e ▸ (fm_all b).2.2.2.2.1))
  have R6 := R5.upd U6 (fun e => (dm b.pc (fm_all b).2.2.2.2.1).2 e.symm)
  have Q6 := Q5.upd U6 (fun e => (dm b.pc (fm_all b).2.2.2.2.1).1 e.symm)
  go_upto_region 36 with (fail)
  obtain ⟨w6, hw6⟩ : ∃ w', w5.setCell ⟨b.pc, q, none⟩ (.int .i64 (3)) = w' := ⟨_, rfl⟩
  rw [hw6] at A6 g6 up6 R6 Q6 ⊢
  clear hw6 U6 A5 g5 up5 R5 Q5 t3 s3 v3
  have r0 := R6.cell (i := 0) rfl
  have q0 := Q6.cell (i := 0) rfl
  have z0 := Q6.frozen 0
  have r1 := R6.cell (i := 1) rfl
  have q1 := Q6.cell (i := 1) rfl
  have z1 := Q6.frozen 1
  have r2 := R6.cell (i := 2) rfl
  have q2 := Q6.cell (i := 2) rfl
  have z2 := Q6.frozen 2
  have r3 := R6.cell (i := 3) rfl
  have q3 := Q6.cell (i := 3) rfl
  have z3 := Q6.frozen 3
  go_wp2_with fail
  have U9 : Upd (fun i => i = D) w6 ((((w6.setCell ⟨D, 0, none⟩ (.int .i64 0)).setCell ⟨D, 1, none⟩ (.int .i64 0)).setCell ⟨D, 2, none⟩ (.int .i64 0)).setCell ⟨D, 3, none⟩ (.int .i64 0)) := (((Upd.one _ _ _ _).trans (Upd.one _ _ _ _)).trans (Upd.one _ _ _ _)).trans (Upd.one _ _ _ _)
  have RF := (((Q6.set 0 (.int .i64 0)).set 1 (.int .i64 0)).set 2 (.int .i64 0)).set 3 (.int .i64 0)
  have f0 := RF.cell (i := 0) rfl
  have f1 := RF.cell (i := 1) rfl
  have f2 := RF.cell (i := 2) rfl
  have f3 := RF.cell (i := 3) rfl
  have A99 := A6.keep U9 (fun i hi => (dm i hi).1)
  have g99 := g6.keep U9 (fun i hi e => (HS.out i hi).2.2.1 e)
  have up99 := up6.then U9 (fun i hi e => by have := HD.out; omega)
  obtain ⟨w99, hw99⟩ : ∃ w', ((((w6.setCell ⟨D, 0, none⟩ (.int .i64 0)).setCell ⟨D, 1, none⟩ (.int .i64 0)).setCell ⟨D, 2, none⟩ (.int .i64 0)).setCell ⟨D, 3, none⟩ (.int .i64 0)) = w' := ⟨_, rfl⟩
  rw [hw99] at f0 f1 f2 f3 A99 g99 up99 ⊢
  refine bodyPost_ret (v := didm (0, false, false, false)) (by simp [results, Try.results108, go_sem, didm, b2i, f0, f1, f2, f3]) rfl ?_
  have E : lockS n 0 c st q q (lateB st.seats q now) = ((0, false, false, false), { st with pls := st.pls.set q ⟨2, kr, kn, ko⟩, ws := wrt n st.ws q nv 1, ts := Cache.after n st.ws.length st.ts q (nv) true }) := by
    unfold lockS; rw [HX.out]; dsimp only; rw [if_neg (show ¬ ((1 : Int) = 0) by decide), if_pos rfl, HNVnv.out]
  rw [E]
  refine ⟨rfl, _, _, A99, ?_, ?_, ?_, ?_, ?_, ?_, R', g99, up99, fun i hi => (by rw [HD.out]; exact (HS.out i hi).1)⟩
  · first | rfl | simp
  · intro u hu; first | rfl | exact dls_other _ _ hu
  · first | rfl | simp
  · intro u hu; first | rfl | (dsimp only; rw [pl_other _ _ hu, pl_other _ _ hu]) | (dsimp only; rw [pl_other _ _ hu])
  · first | rfl | (dsimp only; done) | (dsimp only; rw [pl_at _ _ hp, pl_at _ _ hp]) | (dsimp only; rw [pl_at _ _ hp, HX.out])
  · intro h0
    first
      | exact absurd h0 (by first | (show ¬ ((1 : Int) = 0); decide) | (show ¬ ((2 : Int) = 0); decide) | (show ¬ ((6 : Int) = 0); decide) | (show ¬ ((3 : Int) = 0); decide))
      | (refine ⟨by first | rfl | (rw [List.set_set]), ?_⟩
         first
           | exact HAL.out.imp id (fun e => HAV.out.trans e)
           | (dsimp only; rw [pl_at _ _ hp]; dsimp only; first | exact .inl rfl | exact .inr (dls_at _ _ hqa) | exact HAL.out.imp id (fun e => HAV.out.trans e) | exact .inr HAV.out)
           | (dsimp only; rw [HX.out]; dsimp only; first | exact HAL.out.imp id (fun e => HAV.out.trans e) | exact .inr HAV.out))
set_option maxHeartbeats 16000000 in
set_option maxRecDepth 20000 in
theorem lock2 {w : World} {st : St} {al : List Int} {y n q : Nat} {R : Nat → Prop} (h : MAt b w c st.seats st.pls al) (hR : Ref04.RO w y R n st.ws st.ts) (hd : ∀ i, R i → ¬ fm b i) (hf : st.ts.length < 1000000) (n8 : n ≤ 8) (hn : st.seats.length = n) (hws : st.ws.length ≤ 100000) (hwd : Mem.Wd st.ws) (hq : q < st.seats.length) (hal : (st.pls.getD q p0).o = 0 ∨ al.getD q 0 = (st.pls.getD q p0).o) (now : Int) (hs : (st.pls.getD q p0).s = 2) :
    Calls Try.prog 108 #[.pointer (some ⟨b.x, 0, none⟩), .pointer (some ⟨y, 0, none⟩), .int .i64 q, .int .i64 q, .int .i64 now] w fun e w' =>
      e = .returned (didm (lockS n 0 c st q q (lateB st.seats q now)).1) ∧ Post b c y n R st.seats al q w (lockS n 0 c st q q (lateB st.seats q now)).1.1 (lockS n 0 c st q q (lateB st.seats q now)).2 w' := by
  have hp : q < st.pls.length := by rw [h.l1]; exact hq
  have hqa : q < al.length := by rw [h.l2]; exact hq
  have hok := h.ok q hp
  obtain ⟨⟨ks, kr, kn, ko⟩, hx⟩ : ∃ x, st.pls.getD q p0 = x := ⟨_, rfl⟩
  rw [hx] at hok hs hal
  obtain ⟨o1, o2, o3⟩ := hok
  dsimp only at o1 o2 o3 hs hal
  subst hs
  obtain ⟨av, hav⟩ : ∃ v, al.getD q 0 = v := ⟨_, rfl⟩
  have oa := h.wd q
  rw [hav] at oa hal
  have n3 := h.top.cell (i := 3) rfl
  have n4 := h.top.cell (i := 4) rfl
  have i4 := h.nrow.cell (col_get hp)
  have i3 := h.prow.cell (col_get hp)
  rw [hx] at i4 i3
  dsimp only at i4 i3
  have hlx := h.lt b.x (fm_all b).1
  have hlp := h.lt b.pc (fm_all b).2.2.2.2.1
  have hln := h.lt b.nb (fm_all b).2.2.2.2.2.1
  have hlm := h.lt
  have hlr := hR.lt
  have D1 : Upd (fun _ => False) w ((w.alloc (.cells #[.int .i64 0, .int .i64 0, .int .i64 0, .int .i64 0] 138)).alloc (.cells #[.int .i64 0, .int .i64 0, .int .i64 0, .int .i64 0] 138)) := ((Upd.refl _ w).alloc _).alloc _
  have h1 := h.keep D1 (fun _ _ => id)
  have g1 := hR.keep D1 (fun _ _ => id)
  have R0 : Row ((w.alloc (.cells #[.int .i64 0, .int .i64 0, .int .i64 0, .int .i64 0] 138)).alloc (.cells #[.int .i64 0, .int .i64 0, .int .i64 0, .int .i64 0] 138)) w.heap.size [.int .i64 0, .int .i64 0, .int .i64 0, .int .i64 0] := (Row.new' rfl).alloc _
  have R1 : Row ((w.alloc (.cells #[.int .i64 0, .int .i64 0, .int .i64 0, .int .i64 0] 138)).alloc (.cells #[.int .i64 0, .int .i64 0, .int .i64 0, .int .i64 0] 138)) (w.heap.size + 1) [.int .i64 0, .int .i64 0, .int .i64 0, .int .i64 0] := Row.new' (by simp)
  have up1 : Upd (fun i => fm b i ∨ R i) w ((w.alloc (.cells #[.int .i64 0, .int .i64 0, .int .i64 0, .int .i64 0] 138)).alloc (.cells #[.int .i64 0, .int .i64 0, .int .i64 0, .int .i64 0] 138)) := D1.mono fun _ _ z => z.elim
  obtain ⟨D, hD⟩ : ∃ D, w.heap.size = D := ⟨_, rfl⟩
  have HD := Lib.hid hD
  obtain ⟨W, hW⟩ : ∃ W, (w.alloc (.cells #[.int .i64 0, .int .i64 0, .int .i64 0, .int .i64 0] 138)).alloc (.cells #[.int .i64 0, .int .i64 0, .int .i64 0, .int .i64 0] 138) = W := ⟨_, rfl⟩
  rw [hW] at h1 g1 R0 R1 up1
  rw [hD] at R0 R1 hlm hlr
  have HW := Lib.hid hW
  have HWD := Lib.hid (show W.heap.size = D + 2 by rw [← hW, ← hD]; simp)
  have nD : ¬ R D := fun h => by have := hlr D h; omega
  have nD1 : ¬ R (D + 1) := fun h => by have := hlr _ h; omega
  clear D1 hW hD
  have hq8 : q ≤ 8 := by omega
  have hq1 : (0 : Int) ≤ (q : Int) := by omega
  have hq2 : (q : Int) < (st.seats.length : Int) := by omega
  have HLM := Lib.hid hlm
  have HLR := Lib.hid hlr
  have HX := Lib.hid hx
  have HAL := Lib.hid hal
  have HAV := Lib.hid hav
  have nx : ¬ R b.x := fun h => hd _ h (fm_all b).1
  have no : ¬ R b.ob := fun h => hd _ h (fm_all b).2.2.2.2.2.2.1
  have HF := Lib.hid hf
  have HK64 := Lib.hid (show n ≤ 64 by omega)
  have HWS := Lib.hid hws
  have HDD := Lib.hid hd
  have HWDD := Lib.hid hwd
  clear hlm hlr hR hd hf hws h hx hn hwd hal hav
  have ne1 : IntKind.i64.wrap 4 = 4 := rfl
  have c1 := h1.top.cell (i := 1) rfl
  have KDnv := wdC (b := b) (w := W) c1 kn 0 o3 (by decide)
  obtain ⟨nv, hnvnv⟩ : ∃ nv, stA 0 kn + 0 = nv := ⟨_, rfl⟩
  rw [hnvnv] at KDnv
  have HNVnv := Lib.hid hnvnv
  have HKDnv := Lib.hid KDnv
  clear KDnv hnvnv
  have HNZ : Hid (stA 0 kn = nv) := Lib.hid (by have := HNVnv.out; omega)
  have KA := Ref04.storeR W g1 HF.out HK64.out HWS.out q (nv) 0
  have HKA := Lib.hid KA
  clear KA
  go_enter Try.func108, Try.ntmps108
  go_upto_region 4 with (fail)
  rw [HW.out, HD.out]
  clear n3 n4 i4 i3 hlx hlp hln
  go_wp2_with fail
  refine HKDnv.out.mono ?_
  rintro e w' ⟨rfl, rfl⟩
  go_wp2_with fail
  refine HKA.out.mono ?_
  rintro e w5 ⟨rfl, R', hR5, u5, hR5s⟩
  clear c1
  have HS : Hid (∀ i, R' i → (R i ∨ D ≤ i) ∧ ¬ fm b i ∧ i ≠ D ∧ i ≠ D + 1) := Lib.hid fun i hi => by
    rcases hR5s i hi with h | h
    · exact ⟨.inl h, HDD.out i h, by have := HLR.out i h; omega, by have := HLR.out i h; omega⟩
    · have := HWD.out
      have h : W.heap.size ≤ i := h
      exact ⟨.inr (by omega), fun e => by have := HLM.out i e; omega, by omega, by omega⟩
  have A5 := h1.keep u5 (fun i hi h => HDD.out i h hi)
  have up5 : Upd (fun i => fm b i ∨ R i) w w5 := (up1).trans (u5.mono fun i _ h => .inr h)
  have g5 := hR5
  have dm : ∀ i, fm b i → i ≠ D ∧ i ≠ D + 1 := fun i hi => by have := HLM.out i hi; exact ⟨by omega, by omega⟩
  have R5 := (R1).upd u5 nD1
  have Q5 := (R0).upd u5 nD
  have t3 := A5.top.cell (i := 3) rfl
  have s3 := A5.prow.cell (col_get (t := q) (by rw [A5.l1]; exact hq))
  rw [HX.out] at s3
  dsimp only at s3
  have v3 := A5.prow.frozen q
  have A6 : MAt b (w5.setCell ⟨b.pc, q, none⟩ (.int .i64 (4))) c st.seats _ _ := A5.setPc q hq ⟨3, kr, kn, ko⟩ (by rw [HX.out]) ⟨(show (0 : Int) ≤ 3 ∧ (3 : Int) ≤ 8 by decide), o2, o3⟩
  have U6 := Upd.one w5 b.pc q (.int .i64 (4))
  have g6 := g5.keep U6 (fun i hi e => (HS.out i hi).2.1 (e ▸ (fm_all b).2.2.2.2.1))
  have up6 := up5.trans (U6.mono fun i _ e => .inl (e ▸ (fm_all b).2.2.2.2.1))
  have R6 := R5.upd U6 (fun e => (dm b.pc (fm_all b).2.2.2.2.1).2 e.symm)
  have Q6 := Q5.upd U6 (fun e => (dm b.pc (fm_all b).2.2.2.2.1).1 e.symm)
  go_upto_region 36 with (fail)
  obtain ⟨w6, hw6⟩ : ∃ w', w5.setCell ⟨b.pc, q, none⟩ (.int .i64 (4)) = w' := ⟨_, rfl⟩
  rw [hw6] at A6 g6 up6 R6 Q6 ⊢
  clear hw6 U6 A5 g5 up5 R5 Q5 t3 s3 v3
  have r0 := R6.cell (i := 0) rfl
  have q0 := Q6.cell (i := 0) rfl
  have z0 := Q6.frozen 0
  have r1 := R6.cell (i := 1) rfl
  have q1 := Q6.cell (i := 1) rfl
  have z1 := Q6.frozen 1
  have r2 := R6.cell (i := 2) rfl
  have q2 := Q6.cell (i := 2) rfl
  have z2 := Q6.frozen 2
  have r3 := R6.cell (i := 3) rfl
  have q3 := Q6.cell (i := 3) rfl
  have z3 := Q6.frozen 3
  go_wp2_with fail
  have U9 : Upd (fun i => i = D) w6 ((((w6.setCell ⟨D, 0, none⟩ (.int .i64 0)).setCell ⟨D, 1, none⟩ (.int .i64 0)).setCell ⟨D, 2, none⟩ (.int .i64 0)).setCell ⟨D, 3, none⟩ (.int .i64 0)) := (((Upd.one _ _ _ _).trans (Upd.one _ _ _ _)).trans (Upd.one _ _ _ _)).trans (Upd.one _ _ _ _)
  have RF := (((Q6.set 0 (.int .i64 0)).set 1 (.int .i64 0)).set 2 (.int .i64 0)).set 3 (.int .i64 0)
  have f0 := RF.cell (i := 0) rfl
  have f1 := RF.cell (i := 1) rfl
  have f2 := RF.cell (i := 2) rfl
  have f3 := RF.cell (i := 3) rfl
  have A99 := A6.keep U9 (fun i hi => (dm i hi).1)
  have g99 := g6.keep U9 (fun i hi e => (HS.out i hi).2.2.1 e)
  have up99 := up6.then U9 (fun i hi e => by have := HD.out; omega)
  obtain ⟨w99, hw99⟩ : ∃ w', ((((w6.setCell ⟨D, 0, none⟩ (.int .i64 0)).setCell ⟨D, 1, none⟩ (.int .i64 0)).setCell ⟨D, 2, none⟩ (.int .i64 0)).setCell ⟨D, 3, none⟩ (.int .i64 0)) = w' := ⟨_, rfl⟩
  rw [hw99] at f0 f1 f2 f3 A99 g99 up99 ⊢
  refine bodyPost_ret (v := didm (0, false, false, false)) (by simp [results, Try.results108, go_sem, didm, b2i, f0, f1, f2, f3]) rfl ?_
  have E : lockS n 0 c st q q (lateB st.seats q now) = ((0, false, false, false), { st with pls := st.pls.set q ⟨3, kr, kn, ko⟩, ws := wrt n st.ws q nv 0, ts := Cache.after n st.ws.length st.ts q (nv) true }) := by
    unfold lockS; rw [HX.out]; dsimp only; rw [if_neg (show ¬ ((2 : Int) = 0) by decide), if_neg (show ¬ ((2 : Int) = 1) by decide), if_pos rfl, HNZ.out]
  rw [E]
  refine ⟨rfl, _, _, A99, ?_, ?_, ?_, ?_, ?_, ?_, R', g99, up99, fun i hi => (by rw [HD.out]; exact (HS.out i hi).1)⟩
  · first | rfl | simp
  · intro u hu; first | rfl | exact dls_other _ _ hu
  · first | rfl | simp
  · intro u hu; first | rfl | (dsimp only; rw [pl_other _ _ hu, pl_other _ _ hu]) | (dsimp only; rw [pl_other _ _ hu])
  · first | rfl | (dsimp only; done) | (dsimp only; rw [pl_at _ _ hp, pl_at _ _ hp]) | (dsimp only; rw [pl_at _ _ hp, HX.out])
  · intro h0
    first
      | exact absurd h0 (by first | (show ¬ ((1 : Int) = 0); decide) | (show ¬ ((2 : Int) = 0); decide) | (show ¬ ((6 : Int) = 0); decide) | (show ¬ ((3 : Int) = 0); decide))
      | (refine ⟨by first | rfl | (rw [List.set_set]), ?_⟩
         first
           | exact HAL.out.imp id (fun e => HAV.out.trans e)
           | (dsimp only; rw [pl_at _ _ hp]; dsimp only; first | exact .inl rfl | exact .inr (dls_at _ _ hqa) | exact HAL.out.imp id (fun e => HAV.out.trans e) | exact .inr HAV.out)
           | (dsimp only; rw [HX.out]; dsimp only; first | exact HAL.out.imp id (fun e => HAV.out.trans e) | exact .inr HAV.out))
set_option maxHeartbeats 16000000 in
set_option maxRecDepth 20000 in
theorem lock3 {w : World} {st : St} {al : List Int} {y n q : Nat} {R : Nat → Prop} (h : MAt b w c st.seats st.pls al) (hR : Ref04.RO w y R n st.ws st.ts) (hd : ∀ i, R i → ¬ fm b i) (hf : st.ts.length < 1000000) (n8 : n ≤ 8) (hn : st.seats.length = n) (hws : st.ws.length ≤ 100000) (hwd : Mem.Wd st.ws) (hq : q < st.seats.length) (hal : (st.pls.getD q p0).o = 0 ∨ al.getD q 0 = (st.pls.getD q p0).o) (now : Int) (hs : (st.pls.getD q p0).s = 3) :
    Calls Try.prog 108 #[.pointer (some ⟨b.x, 0, none⟩), .pointer (some ⟨y, 0, none⟩), .int .i64 q, .int .i64 q, .int .i64 now] w fun e w' =>
      e = .returned (didm (lockS n 0 c st q q (lateB st.seats q now)).1) ∧ Post b c y n R st.seats al q w (lockS n 0 c st q q (lateB st.seats q now)).1.1 (lockS n 0 c st q q (lateB st.seats q now)).2 w' := by
  have hp : q < st.pls.length := by rw [h.l1]; exact hq
  have hqa : q < al.length := by rw [h.l2]; exact hq
  have hok := h.ok q hp
  obtain ⟨⟨ks, kr, kn, ko⟩, hx⟩ : ∃ x, st.pls.getD q p0 = x := ⟨_, rfl⟩
  rw [hx] at hok hs hal
  obtain ⟨o1, o2, o3⟩ := hok
  dsimp only at o1 o2 o3 hs hal
  subst hs
  obtain ⟨av, hav⟩ : ∃ v, al.getD q 0 = v := ⟨_, rfl⟩
  have oa := h.wd q
  rw [hav] at oa hal
  have n3 := h.top.cell (i := 3) rfl
  have n4 := h.top.cell (i := 4) rfl
  have i4 := h.nrow.cell (col_get hp)
  have i3 := h.prow.cell (col_get hp)
  rw [hx] at i4 i3
  dsimp only at i4 i3
  have hlx := h.lt b.x (fm_all b).1
  have hlp := h.lt b.pc (fm_all b).2.2.2.2.1
  have hln := h.lt b.nb (fm_all b).2.2.2.2.2.1
  have hlm := h.lt
  have hlr := hR.lt
  have D1 : Upd (fun _ => False) w ((w.alloc (.cells #[.int .i64 0, .int .i64 0, .int .i64 0, .int .i64 0] 138)).alloc (.cells #[.int .i64 0, .int .i64 0, .int .i64 0, .int .i64 0] 138)) := ((Upd.refl _ w).alloc _).alloc _
  have h1 := h.keep D1 (fun _ _ => id)
  have g1 := hR.keep D1 (fun _ _ => id)
  have R0 : Row ((w.alloc (.cells #[.int .i64 0, .int .i64 0, .int .i64 0, .int .i64 0] 138)).alloc (.cells #[.int .i64 0, .int .i64 0, .int .i64 0, .int .i64 0] 138)) w.heap.size [.int .i64 0, .int .i64 0, .int .i64 0, .int .i64 0] := (Row.new' rfl).alloc _
  have R1 : Row ((w.alloc (.cells #[.int .i64 0, .int .i64 0, .int .i64 0, .int .i64 0] 138)).alloc (.cells #[.int .i64 0, .int .i64 0, .int .i64 0, .int .i64 0] 138)) (w.heap.size + 1) [.int .i64 0, .int .i64 0, .int .i64 0, .int .i64 0] := Row.new' (by simp)
  have up1 : Upd (fun i => fm b i ∨ R i) w ((w.alloc (.cells #[.int .i64 0, .int .i64 0, .int .i64 0, .int .i64 0] 138)).alloc (.cells #[.int .i64 0, .int .i64 0, .int .i64 0, .int .i64 0] 138)) := D1.mono fun _ _ z => z.elim
  obtain ⟨D, hD⟩ : ∃ D, w.heap.size = D := ⟨_, rfl⟩
  have HD := Lib.hid hD
  obtain ⟨W, hW⟩ : ∃ W, (w.alloc (.cells #[.int .i64 0, .int .i64 0, .int .i64 0, .int .i64 0] 138)).alloc (.cells #[.int .i64 0, .int .i64 0, .int .i64 0, .int .i64 0] 138) = W := ⟨_, rfl⟩
  rw [hW] at h1 g1 R0 R1 up1
  rw [hD] at R0 R1 hlm hlr
  have HW := Lib.hid hW
  have HWD := Lib.hid (show W.heap.size = D + 2 by rw [← hW, ← hD]; simp)
  have nD : ¬ R D := fun h => by have := hlr D h; omega
  have nD1 : ¬ R (D + 1) := fun h => by have := hlr _ h; omega
  clear D1 hW hD
  have hq8 : q ≤ 8 := by omega
  have hq1 : (0 : Int) ≤ (q : Int) := by omega
  have hq2 : (q : Int) < (st.seats.length : Int) := by omega
  have HLM := Lib.hid hlm
  have HLR := Lib.hid hlr
  have HX := Lib.hid hx
  have HAL := Lib.hid hal
  have HAV := Lib.hid hav
  have nx : ¬ R b.x := fun h => hd _ h (fm_all b).1
  have no : ¬ R b.ob := fun h => hd _ h (fm_all b).2.2.2.2.2.2.1
  have HF := Lib.hid hf
  have HK64 := Lib.hid (show n ≤ 64 by omega)
  have HWS := Lib.hid hws
  have HDD := Lib.hid hd
  have HWDD := Lib.hid hwd
  clear hlm hlr hR hd hf hws h hx hn hwd hal hav
  have ne1 : IntKind.i64.wrap 5 = 5 := rfl
  have c1 := h1.top.cell (i := 1) rfl
  have KDnv := wdC (b := b) (w := W) c1 kn 1 o3 (by decide)
  obtain ⟨nv, hnvnv⟩ : ∃ nv, stA 0 kn + 1 = nv := ⟨_, rfl⟩
  rw [hnvnv] at KDnv
  have HNVnv := Lib.hid hnvnv
  have HKDnv := Lib.hid KDnv
  clear KDnv hnvnv
  have KA := Ref04.storeR W g1 HF.out HK64.out HWS.out q (nv) 0
  have HKA := Lib.hid KA
  clear KA
  go_enter Try.func108, Try.ntmps108
  go_upto_region 4 with (fail)
  rw [HW.out, HD.out]
  clear n3 n4 i4 i3 hlx hlp hln
  go_wp2_with fail
  refine HKDnv.out.mono ?_
  rintro e w' ⟨rfl, rfl⟩
  go_wp2_with fail
  refine HKA.out.mono ?_
  rintro e w5 ⟨rfl, R', hR5, u5, hR5s⟩
  clear c1
  have HS : Hid (∀ i, R' i → (R i ∨ D ≤ i) ∧ ¬ fm b i ∧ i ≠ D ∧ i ≠ D + 1) := Lib.hid fun i hi => by
    rcases hR5s i hi with h | h
    · exact ⟨.inl h, HDD.out i h, by have := HLR.out i h; omega, by have := HLR.out i h; omega⟩
    · have := HWD.out
      have h : W.heap.size ≤ i := h
      exact ⟨.inr (by omega), fun e => by have := HLM.out i e; omega, by omega, by omega⟩
  have A5 := h1.keep u5 (fun i hi h => HDD.out i h hi)
  have up5 : Upd (fun i => fm b i ∨ R i) w w5 := (up1).trans (u5.mono fun i _ h => .inr h)
  have g5 := hR5
  have dm : ∀ i, fm b i → i ≠ D ∧ i ≠ D + 1 := fun i hi => by have := HLM.out i hi; exact ⟨by omega, by omega⟩
  have R5 := (R1).upd u5 nD1
  have Q5 := (R0).upd u5 nD
  have t3 := A5.top.cell (i := 3) rfl
  have s3 := A5.prow.cell (col_get (t := q) (by rw [A5.l1]; exact hq))
  rw [HX.out] at s3
  dsimp only at s3
  have v3 := A5.prow.frozen q
  have A6 : MAt b (w5.setCell ⟨b.pc, q, none⟩ (.int .i64 (5))) c st.seats _ _ := A5.setPc q hq ⟨4, kr, kn, ko⟩ (by rw [HX.out]) ⟨(show (0 : Int) ≤ 4 ∧ (4 : Int) ≤ 8 by decide), o2, o3⟩
  have U6 := Upd.one w5 b.pc q (.int .i64 (5))
  have g6 := g5.keep U6 (fun i hi e => (HS.out i hi).2.1 (e ▸ (fm_all b).2.2.2.2.1))
  have up6 := up5.trans (U6.mono fun i _ e => .inl (e ▸ (fm_all b).2.2.2.2.1))
  have R6 := R5.upd U6 (fun e => (dm b.pc (fm_all b).2.2.2.2.1).2 e.symm)
  have Q6 := Q5.upd U6 (fun e => (dm b.pc (fm_all b).2.2.2.2.1).1 e.symm)
  go_upto_region 36 with (fail)
  obtain ⟨w6, hw6⟩ : ∃ w', w5.setCell ⟨b.pc, q, none⟩ (.int .i64 (5)) = w' := ⟨_, rfl⟩
  rw [hw6] at A6 g6 up6 R6 Q6 ⊢
  clear hw6 U6 A5 g5 up5 R5 Q5 t3 s3 v3
  have r0 := R6.cell (i := 0) rfl
  have q0 := Q6.cell (i := 0) rfl
  have z0 := Q6.frozen 0
  have r1 := R6.cell (i := 1) rfl
  have q1 := Q6.cell (i := 1) rfl
  have z1 := Q6.frozen 1
  have r2 := R6.cell (i := 2) rfl
  have q2 := Q6.cell (i := 2) rfl
  have z2 := Q6.frozen 2
  have r3 := R6.cell (i := 3) rfl
  have q3 := Q6.cell (i := 3) rfl
  have z3 := Q6.frozen 3
  go_wp2_with fail
  have U9 : Upd (fun i => i = D) w6 ((((w6.setCell ⟨D, 0, none⟩ (.int .i64 0)).setCell ⟨D, 1, none⟩ (.int .i64 0)).setCell ⟨D, 2, none⟩ (.int .i64 0)).setCell ⟨D, 3, none⟩ (.int .i64 0)) := (((Upd.one _ _ _ _).trans (Upd.one _ _ _ _)).trans (Upd.one _ _ _ _)).trans (Upd.one _ _ _ _)
  have RF := (((Q6.set 0 (.int .i64 0)).set 1 (.int .i64 0)).set 2 (.int .i64 0)).set 3 (.int .i64 0)
  have f0 := RF.cell (i := 0) rfl
  have f1 := RF.cell (i := 1) rfl
  have f2 := RF.cell (i := 2) rfl
  have f3 := RF.cell (i := 3) rfl
  have A99 := A6.keep U9 (fun i hi => (dm i hi).1)
  have g99 := g6.keep U9 (fun i hi e => (HS.out i hi).2.2.1 e)
  have up99 := up6.then U9 (fun i hi e => by have := HD.out; omega)
  obtain ⟨w99, hw99⟩ : ∃ w', ((((w6.setCell ⟨D, 0, none⟩ (.int .i64 0)).setCell ⟨D, 1, none⟩ (.int .i64 0)).setCell ⟨D, 2, none⟩ (.int .i64 0)).setCell ⟨D, 3, none⟩ (.int .i64 0)) = w' := ⟨_, rfl⟩
  rw [hw99] at f0 f1 f2 f3 A99 g99 up99 ⊢
  refine bodyPost_ret (v := didm (0, false, false, false)) (by simp [results, Try.results108, go_sem, didm, b2i, f0, f1, f2, f3]) rfl ?_
  have E : lockS n 0 c st q q (lateB st.seats q now) = ((0, false, false, false), { st with pls := st.pls.set q ⟨4, kr, kn, ko⟩, ws := wrt n st.ws q nv 0, ts := Cache.after n st.ws.length st.ts q (nv) true }) := by
    unfold lockS; rw [HX.out]; dsimp only; rw [if_neg (show ¬ ((3 : Int) = 0) by decide), if_neg (show ¬ ((3 : Int) = 1) by decide), if_neg (show ¬ ((3 : Int) = 2) by decide), if_pos rfl, HNVnv.out]
  rw [E]
  refine ⟨rfl, _, _, A99, ?_, ?_, ?_, ?_, ?_, ?_, R', g99, up99, fun i hi => (by rw [HD.out]; exact (HS.out i hi).1)⟩
  · first | rfl | simp
  · intro u hu; first | rfl | exact dls_other _ _ hu
  · first | rfl | simp
  · intro u hu; first | rfl | (dsimp only; rw [pl_other _ _ hu, pl_other _ _ hu]) | (dsimp only; rw [pl_other _ _ hu])
  · first | rfl | (dsimp only; done) | (dsimp only; rw [pl_at _ _ hp, pl_at _ _ hp]) | (dsimp only; rw [pl_at _ _ hp, HX.out])
  · intro h0
    first
      | exact absurd h0 (by first | (show ¬ ((1 : Int) = 0); decide) | (show ¬ ((2 : Int) = 0); decide) | (show ¬ ((6 : Int) = 0); decide) | (show ¬ ((3 : Int) = 0); decide))
      | (refine ⟨by first | rfl | (rw [List.set_set]), ?_⟩
         first
           | exact HAL.out.imp id (fun e => HAV.out.trans e)
           | (dsimp only; rw [pl_at _ _ hp]; dsimp only; first | exact .inl rfl | exact .inr (dls_at _ _ hqa) | exact HAL.out.imp id (fun e => HAV.out.trans e) | exact .inr HAV.out)
           | (dsimp only; rw [HX.out]; dsimp only; first | exact HAL.out.imp id (fun e => HAV.out.trans e) | exact .inr HAV.out))
set_option maxHeartbeats 16000000 in
set_option maxRecDepth 20000 in
theorem lock4 {w : World} {st : St} {al : List Int} {y n q : Nat} {R : Nat → Prop} (h : MAt b w c st.seats st.pls al) (hR : Ref04.RO w y R n st.ws st.ts) (hd : ∀ i, R i → ¬ fm b i) (hf : st.ts.length < 1000000) (n8 : n ≤ 8) (hn : st.seats.length = n) (hws : st.ws.length ≤ 100000) (hwd : Mem.Wd st.ws) (hq : q < st.seats.length) (hal : (st.pls.getD q p0).o = 0 ∨ al.getD q 0 = (st.pls.getD q p0).o) (now : Int) (hs : (st.pls.getD q p0).s = 4) :
    Calls Try.prog 108 #[.pointer (some ⟨b.x, 0, none⟩), .pointer (some ⟨y, 0, none⟩), .int .i64 q, .int .i64 q, .int .i64 now] w fun e w' =>
      e = .returned (didm (lockS n 0 c st q q (lateB st.seats q now)).1) ∧ Post b c y n R st.seats al q w (lockS n 0 c st q q (lateB st.seats q now)).1.1 (lockS n 0 c st q q (lateB st.seats q now)).2 w' := by
  have hp : q < st.pls.length := by rw [h.l1]; exact hq
  have hqa : q < al.length := by rw [h.l2]; exact hq
  have hok := h.ok q hp
  obtain ⟨⟨ks, kr, kn, ko⟩, hx⟩ : ∃ x, st.pls.getD q p0 = x := ⟨_, rfl⟩
  rw [hx] at hok hs hal
  obtain ⟨o1, o2, o3⟩ := hok
  dsimp only at o1 o2 o3 hs hal
  subst hs
  obtain ⟨av, hav⟩ : ∃ v, al.getD q 0 = v := ⟨_, rfl⟩
  have oa := h.wd q
  rw [hav] at oa hal
  have n3 := h.top.cell (i := 3) rfl
  have n4 := h.top.cell (i := 4) rfl
  have i4 := h.nrow.cell (col_get hp)
  have i3 := h.prow.cell (col_get hp)
  rw [hx] at i4 i3
  dsimp only at i4 i3
  have hlx := h.lt b.x (fm_all b).1
  have hlp := h.lt b.pc (fm_all b).2.2.2.2.1
  have hln := h.lt b.nb (fm_all b).2.2.2.2.2.1
  have hlm := h.lt
  have hlr := hR.lt
  have D1 : Upd (fun _ => False) w ((w.alloc (.cells #[.int .i64 0, .int .i64 0, .int .i64 0, .int .i64 0] 138)).alloc (.cells #[.int .i64 0, .int .i64 0, .int .i64 0, .int .i64 0] 138)) := ((Upd.refl _ w).alloc _).alloc _
  have h1 := h.keep D1 (fun _ _ => id)
  have g1 := hR.keep D1 (fun _ _ => id)
  have R0 : Row ((w.alloc (.cells #[.int .i64 0, .int .i64 0, .int .i64 0, .int .i64 0] 138)).alloc (.cells #[.int .i64 0, .int .i64 0, .int .i64 0, .int .i64 0] 138)) w.heap.size [.int .i64 0, .int .i64 0, .int .i64 0, .int .i64 0] := (Row.new' rfl).alloc _
  have R1 : Row ((w.alloc (.cells #[.int .i64 0, .int .i64 0, .int .i64 0, .int .i64 0] 138)).alloc (.cells #[.int .i64 0, .int .i64 0, .int .i64 0, .int .i64 0] 138)) (w.heap.size + 1) [.int .i64 0, .int .i64 0, .int .i64 0, .int .i64 0] := Row.new' (by simp)
  have up1 : Upd (fun i => fm b i ∨ R i) w ((w.alloc (.cells #[.int .i64 0, .int .i64 0, .int .i64 0, .int .i64 0] 138)).alloc (.cells #[.int .i64 0, .int .i64 0, .int .i64 0, .int .i64 0] 138)) := D1.mono fun _ _ z => z.elim
  obtain ⟨D, hD⟩ : ∃ D, w.heap.size = D := ⟨_, rfl⟩
  have HD := Lib.hid hD
  obtain ⟨W, hW⟩ : ∃ W, (w.alloc (.cells #[.int .i64 0, .int .i64 0, .int .i64 0, .int .i64 0] 138)).alloc (.cells #[.int .i64 0, .int .i64 0, .int .i64 0, .int .i64 0] 138) = W := ⟨_, rfl⟩
  rw [hW] at h1 g1 R0 R1 up1
  rw [hD] at R0 R1 hlm hlr
  have HW := Lib.hid hW
  have HWD := Lib.hid (show W.heap.size = D + 2 by rw [← hW, ← hD]; simp)
  have nD : ¬ R D := fun h => by have := hlr D h; omega
  have nD1 : ¬ R (D + 1) := fun h => by have := hlr _ h; omega
  clear D1 hW hD
  have hq8 : q ≤ 8 := by omega
  have hq1 : (0 : Int) ≤ (q : Int) := by omega
  have hq2 : (q : Int) < (st.seats.length : Int) := by omega
  have HLM := Lib.hid hlm
  have HLR := Lib.hid hlr
  have HX := Lib.hid hx
  have HAL := Lib.hid hal
  have HAV := Lib.hid hav
  have nx : ¬ R b.x := fun h => hd _ h (fm_all b).1
  have no : ¬ R b.ob := fun h => hd _ h (fm_all b).2.2.2.2.2.2.1
  have HF := Lib.hid hf
  have HK64 := Lib.hid (show n ≤ 64 by omega)
  have HWS := Lib.hid hws
  have HDD := Lib.hid hd
  have HWDD := Lib.hid hwd
  clear hlm hlr hR hd hf hws h hx hn hwd hal hav
  have ne1 : IntKind.i64.wrap 6 = 6 := rfl
  have c1 := h1.top.cell (i := 1) rfl
  have c5a := h1.top.cell (i := 5) rfl
  have m0 := h1.orow.cell (ints_get (k := .i64) hqa)
  obtain ⟨g, hg⟩ : ∃ g, rd n st.ws q (0) = g := ⟨_, rfl⟩
  have hgw := rd_wd HWDD.out n q (0)
  rw [hg] at hgw
  have hu3 : IntKind.u32.wrap kn = kn := by rw [show IntKind.u32.wrap kn = kn % 4294967296 from rfl]; omega
  have hgi : IntKind.i64.wrap g = g := IntWalk.i64_in _ (by omega)
  have KA := Ref04.swapR W.drew (g1.drewN 1) HF.out HK64.out HWS.out q (0) kn
  rw [hg] at KA
  have HKA := Lib.hid KA
  clear KA
  have h1d := h1.keep ((Upd.refl (fun _ => False) W).drewN 1) (fun _ _ => id)
  go_enter Try.func108, Try.ntmps108
  go_upto_region 4 with (fail)
  rw [HW.out, HD.out]
  clear n3 n4 i4 i3 hlx hlp hln
  go_wp2_with fail
  go_region_held3 (fun w' => w'.cell? ⟨b.x, 1, none⟩ = some (.int .i64 0) ∧ w'.cell? ⟨b.x, 5, none⟩ = some (.slice (some ⟨b.ob, 0, none⟩) st.seats.length st.seats.length)) ((first | exact ⟨c1, c5a⟩ | exact ⟨e1, e5⟩ | exact ⟨f1, f5⟩))
    ((go_at_call 113; refine HKA.out.mono ?_; rintro e w5 ⟨rfl, R', hR5, u5, hR5s⟩; have e1 := cell_upd u5 c1 nx; have e5 := cell_upd u5 c5a nx; have A5' := h1d.keep u5 (fun i hi h => HDD.out i h hi); have m5 := cell_upd u5 m0 no; have fz5 := A5'.orow.frozen q; have A6' := A5'.setOt q g hgw; have f1 := A6'.top.cell (i := 1) rfl; have f5 := A6'.top.cell (i := 5) rfl))
  clear e1 e5 A5' A6' m5 fz5 f1 f5 c1 c5a m0
  have HS : Hid (∀ i, R' i → (R i ∨ D ≤ i) ∧ ¬ fm b i ∧ i ≠ D ∧ i ≠ D + 1) := Lib.hid fun i hi => by
    rcases hR5s i hi with h | h
    · exact ⟨.inl h, HDD.out i h, by have := HLR.out i h; omega, by have := HLR.out i h; omega⟩
    · have := HWD.out
      have h : W.heap.size ≤ i := h
      exact ⟨.inr (by omega), fun e => by have := HLM.out i e; omega, by omega, by omega⟩
  have A5 := (h1.keep ((Upd.refl (fun _ => False) W).drewN 1) (fun _ _ => id)).keep u5 (fun i hi h => HDD.out i h hi)
  have up5 : Upd (fun i => fm b i ∨ R i) w w5 := (up1.drewN 1).trans (u5.mono fun i _ h => .inr h)
  have g5 := hR5
  have dm : ∀ i, fm b i → i ≠ D ∧ i ≠ D + 1 := fun i hi => by have := HLM.out i hi; exact ⟨by omega, by omega⟩
  have R5 := (R1.drewN 1).upd u5 nD1
  have Q5 := (R0.drewN 1).upd u5 nD
  have A6 := A5.setOt q g hgw
  have U6 := Upd.one w5 b.ob q (.int .i64 (g))
  have g6 := g5.keep U6 (fun i hi e => (HS.out i hi).2.1 (e ▸ (fm_all b).2.2.2.2.2.2.1))
  have up6 := up5.trans (U6.mono fun i _ e => .inl (e ▸ (fm_all b).2.2.2.2.2.2.1))
  have R6 := R5.upd U6 (fun e => (dm b.ob (fm_all b).2.2.2.2.2.2.1).2 e.symm)
  have Q6 := Q5.upd U6 (fun e => (dm b.ob (fm_all b).2.2.2.2.2.2.1).1 e.symm)
  obtain ⟨w6, hw6⟩ : ∃ w', w5.setCell ⟨b.ob, q, none⟩ (.int .i64 (g)) = w' := ⟨_, rfl⟩
  rw [hw6] at A6 g6 up6 R6 Q6 ⊢
  clear hw6 U6 A5 g5 up5 R5 Q5
  have y1 := R6.cell (i := 1) rfl
  have y2 := R6.frozen 1
  have U7 := Upd.one w6 (D + 1) 1 (.int .i64 1)
  have A7 := A6.keep U7 (fun i hi e => (dm i hi).2 e)
  have R7 := R6.set 1 (.int .i64 1)
  have Q7 := Q6.upd U7 (by omega)
  have g7 := g6.keep U7 (fun i hi e => (HS.out i hi).2.2.2 e)
  have up7 := up6.then U7 (fun i hi e => by have := HD.out; omega)
  have c5 := A7.top.cell (i := 5) rfl
  have b5 := A7.orow.cell (ints_get (k := .i64) (by rw [A7.l2]; exact hq))
  rw [dls_at _ _ hqa] at b5
  by_cases hg0 : g = 0
  · subst hg0
    go_upto_region 22 with (fail)
    obtain ⟨w7, hw7⟩ : ∃ w', w6.setCell ⟨D + 1, 1, none⟩ (.int .i64 1) = w' := ⟨_, rfl⟩
    rw [hw7] at A7 R7 Q7 g7 up7 ⊢
    clear hw7 y1 y2 U7 A6 R6 Q6 g6 up6
    clear c5 b5
    have y1 := R7.cell (i := 0) rfl
    have y2 := R7.frozen 0
    have U8 := Upd.one w7 (D + 1) 0 (.int .i64 1)
    have A8 := A7.keep U8 (fun i hi e => (dm i hi).2 e)
    have R8 := R7.set 0 (.int .i64 1)
    have Q8 := Q7.upd U8 (by omega)
    have g8 := g7.keep U8 (fun i hi e => (HS.out i hi).2.2.2 e)
    have up8 := up7.then U8 (fun i hi e => by have := HD.out; omega)
    go_upto_region 35 with (fail)
    obtain ⟨w8, hw8⟩ : ∃ w', w7.setCell ⟨D + 1, 0, none⟩ (.int .i64 1) = w' := ⟨_, rfl⟩
    rw [hw8] at A8 R8 Q8 g8 up8 ⊢
    clear hw8 y1 y2 U8 A7 R7 Q7 g7 up7
    have t3 := A8.top.cell (i := 3) rfl
    have s3 := A8.prow.cell (col_get (t := q) (by rw [A8.l1]; exact hq))
    rw [HX.out] at s3
    dsimp only at s3
    have v3 := A8.prow.frozen q
    have A9 : MAt b (w8.setCell ⟨b.pc, q, none⟩ (.int .i64 (6))) c st.seats _ _ := A8.setPc q hq ⟨5, kr, kn, 0⟩ (by rw [HX.out]) ⟨(show (0 : Int) ≤ 5 ∧ (5 : Int) ≤ 8 by decide), o2, o3⟩
    have U9 := Upd.one w8 b.pc q (.int .i64 (6))
    have g9 := g8.keep U9 (fun i hi e => (HS.out i hi).2.1 (e ▸ (fm_all b).2.2.2.2.1))
    have up9 := up8.trans (U9.mono fun i _ e => .inl (e ▸ (fm_all b).2.2.2.2.1))
    have R9 := R8.upd U9 (fun e => (dm b.pc (fm_all b).2.2.2.2.1).2 e.symm)
    have Q9 := Q8.upd U9 (fun e => (dm b.pc (fm_all b).2.2.2.2.1).1 e.symm)
    go_upto_region 36 with (fail)
    obtain ⟨w9, hw9⟩ : ∃ w', w8.setCell ⟨b.pc, q, none⟩ (.int .i64 (6)) = w' := ⟨_, rfl⟩
    rw [hw9] at A9 g9 up9 R9 Q9 ⊢
    clear hw9 U9 A8 g8 up8 R8 Q8 t3 s3 v3
    have r0 := R9.cell (i := 0) rfl
    have q0 := Q9.cell (i := 0) rfl
    have z0 := Q9.frozen 0
    have r1 := R9.cell (i := 1) rfl
    have q1 := Q9.cell (i := 1) rfl
    have z1 := Q9.frozen 1
    have r2 := R9.cell (i := 2) rfl
    have q2 := Q9.cell (i := 2) rfl
    have z2 := Q9.frozen 2
    have r3 := R9.cell (i := 3) rfl
    have q3 := Q9.cell (i := 3) rfl
    have z3 := Q9.frozen 3
    go_wp2_with fail
    have U9 : Upd (fun i => i = D) w9 ((((w9.setCell ⟨D, 0, none⟩ (.int .i64 1)).setCell ⟨D, 1, none⟩ (.int .i64 1)).setCell ⟨D, 2, none⟩ (.int .i64 0)).setCell ⟨D, 3, none⟩ (.int .i64 0)) := (((Upd.one _ _ _ _).trans (Upd.one _ _ _ _)).trans (Upd.one _ _ _ _)).trans (Upd.one _ _ _ _)
    have RF := (((Q9.set 0 (.int .i64 1)).set 1 (.int .i64 1)).set 2 (.int .i64 0)).set 3 (.int .i64 0)
    have f0 := RF.cell (i := 0) rfl
    have f1 := RF.cell (i := 1) rfl
    have f2 := RF.cell (i := 2) rfl
    have f3 := RF.cell (i := 3) rfl
    have A99 := A9.keep U9 (fun i hi => (dm i hi).1)
    have g99 := g9.keep U9 (fun i hi e => (HS.out i hi).2.2.1 e)
    have up99 := up9.then U9 (fun i hi e => by have := HD.out; omega)
    obtain ⟨w99, hw99⟩ : ∃ w', ((((w9.setCell ⟨D, 0, none⟩ (.int .i64 1)).setCell ⟨D, 1, none⟩ (.int .i64 1)).setCell ⟨D, 2, none⟩ (.int .i64 0)).setCell ⟨D, 3, none⟩ (.int .i64 0)) = w' := ⟨_, rfl⟩
    rw [hw99] at f0 f1 f2 f3 A99 g99 up99 ⊢
    refine bodyPost_ret (v := didm (1, true, false, false)) (by simp [results, Try.results108, go_sem, didm, b2i, f0, f1, f2, f3]) rfl ?_
    have E : lockS n 0 c st q q (lateB st.seats q now) = ((1, true, false, false), { st with pls := st.pls.set q ⟨4, kr, kn, 0⟩, ws := wrt n st.ws q 0 kn, ts := Cache.after n st.ws.length st.ts q (0) true }) := by
      unfold lockS; rw [HX.out]; dsimp only; rw [if_neg (show ¬ ((4 : Int) = 0) by decide), if_neg (show ¬ ((4 : Int) = 1) by decide), if_neg (show ¬ ((4 : Int) = 2) by decide), if_neg (show ¬ ((4 : Int) = 3) by decide), if_pos rfl, hg, if_pos rfl]
    rw [E]
    refine ⟨rfl, _, _, A99, ?_, ?_, ?_, ?_, ?_, ?_, R', g99, up99, fun i hi => (by rw [HD.out]; exact (HS.out i hi).1)⟩
    · first | rfl | simp
    · intro u hu; first | rfl | exact dls_other _ _ hu
    · first | rfl | simp
    · intro u hu; first | rfl | (dsimp only; rw [pl_other _ _ hu, pl_other _ _ hu]) | (dsimp only; rw [pl_other _ _ hu])
    · first | rfl | (dsimp only; done) | (dsimp only; rw [pl_at _ _ hp, pl_at _ _ hp]) | (dsimp only; rw [pl_at _ _ hp, HX.out])
    · intro h0
      first
        | exact absurd h0 (by first | (show ¬ ((1 : Int) = 0); decide) | (show ¬ ((2 : Int) = 0); decide) | (show ¬ ((6 : Int) = 0); decide) | (show ¬ ((3 : Int) = 0); decide))
        | (refine ⟨by first | rfl | (rw [List.set_set]), ?_⟩
           first
             | exact HAL.out.imp id (fun e => HAV.out.trans e)
             | (dsimp only; rw [pl_at _ _ hp]; dsimp only; first | exact .inl rfl | exact .inr (dls_at _ _ hqa) | exact HAL.out.imp id (fun e => HAV.out.trans e) | exact .inr HAV.out)
             | (dsimp only; rw [HX.out]; dsimp only; first | exact HAL.out.imp id (fun e => HAV.out.trans e) | exact .inr HAV.out))
  · have hg0' : (g == 0) = false := by simpa using hg0
    go_upto_region 35 with (fail)
    obtain ⟨w7, hw7⟩ : ∃ w', w6.setCell ⟨D + 1, 1, none⟩ (.int .i64 1) = w' := ⟨_, rfl⟩
    rw [hw7] at A7 R7 Q7 g7 up7 ⊢
    clear hw7 y1 y2 U7 A6 R6 Q6 g6 up6
    clear c5 b5
    have t3 := A7.top.cell (i := 3) rfl
    have s3 := A7.prow.cell (col_get (t := q) (by rw [A7.l1]; exact hq))
    rw [HX.out] at s3
    dsimp only at s3
    have v3 := A7.prow.frozen q
    have A8 : MAt b (w7.setCell ⟨b.pc, q, none⟩ (.int .i64 (6))) c st.seats _ _ := A7.setPc q hq ⟨5, kr, kn, g⟩ (by rw [HX.out]) ⟨(show (0 : Int) ≤ 5 ∧ (5 : Int) ≤ 8 by decide), o2, o3⟩
    have U8 := Upd.one w7 b.pc q (.int .i64 (6))
    have g8 := g7.keep U8 (fun i hi e => (HS.out i hi).2.1 (e ▸ (fm_all b).2.2.2.2.1))
    have up8 := up7.trans (U8.mono fun i _ e => .inl (e ▸ (fm_all b).2.2.2.2.1))
    have R8 := R7.upd U8 (fun e => (dm b.pc (fm_all b).2.2.2.2.1).2 e.symm)
    have Q8 := Q7.upd U8 (fun e => (dm b.pc (fm_all b).2.2.2.2.1).1 e.symm)
    go_upto_region 36 with (fail)
    obtain ⟨w8, hw8⟩ : ∃ w', w7.setCell ⟨b.pc, q, none⟩ (.int .i64 (6)) = w' := ⟨_, rfl⟩
    rw [hw8] at A8 g8 up8 R8 Q8 ⊢
    clear hw8 U8 A7 g7 up7 R7 Q7 t3 s3 v3
    have r0 := R8.cell (i := 0) rfl
    have q0 := Q8.cell (i := 0) rfl
    have z0 := Q8.frozen 0
    have r1 := R8.cell (i := 1) rfl
    have q1 := Q8.cell (i := 1) rfl
    have z1 := Q8.frozen 1
    have r2 := R8.cell (i := 2) rfl
    have q2 := Q8.cell (i := 2) rfl
    have z2 := Q8.frozen 2
    have r3 := R8.cell (i := 3) rfl
    have q3 := Q8.cell (i := 3) rfl
    have z3 := Q8.frozen 3
    go_wp2_with fail
    have U9 : Upd (fun i => i = D) w8 ((((w8.setCell ⟨D, 0, none⟩ (.int .i64 0)).setCell ⟨D, 1, none⟩ (.int .i64 1)).setCell ⟨D, 2, none⟩ (.int .i64 0)).setCell ⟨D, 3, none⟩ (.int .i64 0)) := (((Upd.one _ _ _ _).trans (Upd.one _ _ _ _)).trans (Upd.one _ _ _ _)).trans (Upd.one _ _ _ _)
    have RF := (((Q8.set 0 (.int .i64 0)).set 1 (.int .i64 1)).set 2 (.int .i64 0)).set 3 (.int .i64 0)
    have f0 := RF.cell (i := 0) rfl
    have f1 := RF.cell (i := 1) rfl
    have f2 := RF.cell (i := 2) rfl
    have f3 := RF.cell (i := 3) rfl
    have A99 := A8.keep U9 (fun i hi => (dm i hi).1)
    have g99 := g8.keep U9 (fun i hi e => (HS.out i hi).2.2.1 e)
    have up99 := up8.then U9 (fun i hi e => by have := HD.out; omega)
    obtain ⟨w99, hw99⟩ : ∃ w', ((((w8.setCell ⟨D, 0, none⟩ (.int .i64 0)).setCell ⟨D, 1, none⟩ (.int .i64 1)).setCell ⟨D, 2, none⟩ (.int .i64 0)).setCell ⟨D, 3, none⟩ (.int .i64 0)) = w' := ⟨_, rfl⟩
    rw [hw99] at f0 f1 f2 f3 A99 g99 up99 ⊢
    refine bodyPost_ret (v := didm (0, true, false, false)) (by simp [results, Try.results108, go_sem, didm, b2i, f0, f1, f2, f3]) rfl ?_
    have E : lockS n 0 c st q q (lateB st.seats q now) = ((0, true, false, false), { st with pls := st.pls.set q ⟨5, kr, kn, g⟩, ws := wrt n st.ws q 0 kn, ts := Cache.after n st.ws.length st.ts q (0) true }) := by
      unfold lockS; rw [HX.out]; dsimp only; rw [if_neg (show ¬ ((4 : Int) = 0) by decide), if_neg (show ¬ ((4 : Int) = 1) by decide), if_neg (show ¬ ((4 : Int) = 2) by decide), if_neg (show ¬ ((4 : Int) = 3) by decide), if_pos rfl, hg, if_neg hg0]
    rw [E]
    refine ⟨rfl, _, _, A99, ?_, ?_, ?_, ?_, ?_, ?_, R', g99, up99, fun i hi => (by rw [HD.out]; exact (HS.out i hi).1)⟩
    · first | rfl | simp
    · intro u hu; first | rfl | exact dls_other _ _ hu
    · first | rfl | simp
    · intro u hu; first | rfl | (dsimp only; rw [pl_other _ _ hu, pl_other _ _ hu]) | (dsimp only; rw [pl_other _ _ hu])
    · first | rfl | (dsimp only; done) | (dsimp only; rw [pl_at _ _ hp, pl_at _ _ hp]) | (dsimp only; rw [pl_at _ _ hp, HX.out])
    · intro h0
      first
        | exact absurd h0 (by first | (show ¬ ((1 : Int) = 0); decide) | (show ¬ ((2 : Int) = 0); decide) | (show ¬ ((6 : Int) = 0); decide) | (show ¬ ((3 : Int) = 0); decide))
        | (refine ⟨by first | rfl | (rw [List.set_set]), ?_⟩
           first
             | exact HAL.out.imp id (fun e => HAV.out.trans e)
             | (dsimp only; rw [pl_at _ _ hp]; dsimp only; first | exact .inl rfl | exact .inr (dls_at _ _ hqa) | exact HAL.out.imp id (fun e => HAV.out.trans e) | exact .inr HAV.out)
             | (dsimp only; rw [HX.out]; dsimp only; first | exact HAL.out.imp id (fun e => HAV.out.trans e) | exact .inr HAV.out))
set_option maxHeartbeats 16000000 in
set_option maxRecDepth 20000 in
theorem lock5 {w : World} {st : St} {al : List Int} {y n q : Nat} {R : Nat → Prop} (h : MAt b w c st.seats st.pls al) (hR : Ref04.RO w y R n st.ws st.ts) (hd : ∀ i, R i → ¬ fm b i) (hf : st.ts.length < 1000000) (n8 : n ≤ 8) (hn : st.seats.length = n) (hws : st.ws.length ≤ 100000) (hwd : Mem.Wd st.ws) (hq : q < st.seats.length) (hal : (st.pls.getD q p0).o = 0 ∨ al.getD q 0 = (st.pls.getD q p0).o) (now : Int) (hne : (st.pls.getD q p0).o ≠ 0) (hs : (st.pls.getD q p0).s = 5) :
    Calls Try.prog 108 #[.pointer (some ⟨b.x, 0, none⟩), .pointer (some ⟨y, 0, none⟩), .int .i64 q, .int .i64 q, .int .i64 now] w fun e w' =>
      e = .returned (didm (lockS n 0 c st q q (lateB st.seats q now)).1) ∧ Post b c y n R st.seats al q w (lockS n 0 c st q q (lateB st.seats q now)).1.1 (lockS n 0 c st q q (lateB st.seats q now)).2 w' := by
  have hp : q < st.pls.length := by rw [h.l1]; exact hq
  have hqa : q < al.length := by rw [h.l2]; exact hq
  have hok := h.ok q hp
  obtain ⟨⟨ks, kr, kn, ko⟩, hx⟩ : ∃ x, st.pls.getD q p0 = x := ⟨_, rfl⟩
  rw [hx] at hok hs hal hne
  obtain ⟨o1, o2, o3⟩ := hok
  dsimp only at o1 o2 o3 hs hal hne
  subst hs
  obtain ⟨av, hav⟩ : ∃ v, al.getD q 0 = v := ⟨_, rfl⟩
  have oa := h.wd q
  rw [hav] at oa hal
  have hao : av = ko := hal.resolve_left hne
  subst hao
  have n3 := h.top.cell (i := 3) rfl
  have n4 := h.top.cell (i := 4) rfl
  have i4 := h.nrow.cell (col_get hp)
  have i3 := h.prow.cell (col_get hp)
  rw [hx] at i4 i3
  dsimp only at i4 i3
  have hlx := h.lt b.x (fm_all b).1
  have hlp := h.lt b.pc (fm_all b).2.2.2.2.1
  have hln := h.lt b.nb (fm_all b).2.2.2.2.2.1
  have hlm := h.lt
  have hlr := hR.lt
  have D1 : Upd (fun _ => False) w ((w.alloc (.cells #[.int .i64 0, .int .i64 0, .int .i64 0, .int .i64 0] 138)).alloc (.cells #[.int .i64 0, .int .i64 0, .int .i64 0, .int .i64 0] 138)) := ((Upd.refl _ w).alloc _).alloc _
  have h1 := h.keep D1 (fun _ _ => id)
  have g1 := hR.keep D1 (fun _ _ => id)
  have R0 : Row ((w.alloc (.cells #[.int .i64 0, .int .i64 0, .int .i64 0, .int .i64 0] 138)).alloc (.cells #[.int .i64 0, .int .i64 0, .int .i64 0, .int .i64 0] 138)) w.heap.size [.int .i64 0, .int .i64 0, .int .i64 0, .int .i64 0] := (Row.new' rfl).alloc _
  have R1 : Row ((w.alloc (.cells #[.int .i64 0, .int .i64 0, .int .i64 0, .int .i64 0] 138)).alloc (.cells #[.int .i64 0, .int .i64 0, .int .i64 0, .int .i64 0] 138)) (w.heap.size + 1) [.int .i64 0, .int .i64 0, .int .i64 0, .int .i64 0] := Row.new' (by simp)
  have up1 : Upd (fun i => fm b i ∨ R i) w ((w.alloc (.cells #[.int .i64 0, .int .i64 0, .int .i64 0, .int .i64 0] 138)).alloc (.cells #[.int .i64 0, .int .i64 0, .int .i64 0, .int .i64 0] 138)) := D1.mono fun _ _ z => z.elim
  obtain ⟨D, hD⟩ : ∃ D, w.heap.size = D := ⟨_, rfl⟩
  have HD := Lib.hid hD
  obtain ⟨W, hW⟩ : ∃ W, (w.alloc (.cells #[.int .i64 0, .int .i64 0, .int .i64 0, .int .i64 0] 138)).alloc (.cells #[.int .i64 0, .int .i64 0, .int .i64 0, .int .i64 0] 138) = W := ⟨_, rfl⟩
  rw [hW] at h1 g1 R0 R1 up1
  rw [hD] at R0 R1 hlm hlr
  have HW := Lib.hid hW
  have HWD := Lib.hid (show W.heap.size = D + 2 by rw [← hW, ← hD]; simp)
  have nD : ¬ R D := fun h => by have := hlr D h; omega
  have nD1 : ¬ R (D + 1) := fun h => by have := hlr _ h; omega
  clear D1 hW hD
  have hq8 : q ≤ 8 := by omega
  have hq1 : (0 : Int) ≤ (q : Int) := by omega
  have hq2 : (q : Int) < (st.seats.length : Int) := by omega
  have HLM := Lib.hid hlm
  have HLR := Lib.hid hlr
  have HX := Lib.hid hx
  have HAL := Lib.hid hal
  have HAV := Lib.hid hav
  have nx : ¬ R b.x := fun h => hd _ h (fm_all b).1
  have no : ¬ R b.ob := fun h => hd _ h (fm_all b).2.2.2.2.2.2.1
  have HF := Lib.hid hf
  have HK64 := Lib.hid (show n ≤ 64 by omega)
  have HWS := Lib.hid hws
  have HDD := Lib.hid hd
  have HWDD := Lib.hid hwd
  clear hlm hlr hR hd hf hws h hx hn hwd hal hav
  have ne1 : IntKind.i64.wrap 7 = 7 := rfl
  have c1 := h1.top.cell (i := 1) rfl
  have c5 := h1.top.cell (i := 5) rfl
  have b5 := h1.orow.cell (ints_get (k := .i64) hqa)
  rw [HAV.out] at b5
  have KDnv := wdC (b := b) (w := W) c1 av 1 oa (by decide)
  obtain ⟨nv, hnvnv⟩ : ∃ nv, stA 0 av + 1 = nv := ⟨_, rfl⟩
  rw [hnvnv] at KDnv
  have HNVnv := Lib.hid hnvnv
  have HKDnv := Lib.hid KDnv
  clear KDnv hnvnv
  have hu3 : IntKind.u32.wrap kn = kn := by rw [show IntKind.u32.wrap kn = kn % 4294967296 from rfl]; omega
  have KA := Ref04.storeR W g1 HF.out HK64.out HWS.out q (nv) kn
  have HKA := Lib.hid KA
  clear KA
  go_enter Try.func108, Try.ntmps108
  go_upto_region 4 with (fail)
  rw [HW.out, HD.out]
  clear n3 n4 i4 i3 hlx hlp hln
  go_wp2_with fail
  refine HKDnv.out.mono ?_
  rintro e w' ⟨rfl, rfl⟩
  go_wp2_with fail
  refine HKA.out.mono ?_
  rintro e w5 ⟨rfl, R', hR5, u5, hR5s⟩
  clear c1 c5 b5
  have HS : Hid (∀ i, R' i → (R i ∨ D ≤ i) ∧ ¬ fm b i ∧ i ≠ D ∧ i ≠ D + 1) := Lib.hid fun i hi => by
    rcases hR5s i hi with h | h
    · exact ⟨.inl h, HDD.out i h, by have := HLR.out i h; omega, by have := HLR.out i h; omega⟩
    · have := HWD.out
      have h : W.heap.size ≤ i := h
      exact ⟨.inr (by omega), fun e => by have := HLM.out i e; omega, by omega, by omega⟩
  have A5 := h1.keep u5 (fun i hi h => HDD.out i h hi)
  have up5 : Upd (fun i => fm b i ∨ R i) w w5 := (up1).trans (u5.mono fun i _ h => .inr h)
  have g5 := hR5
  have dm : ∀ i, fm b i → i ≠ D ∧ i ≠ D + 1 := fun i hi => by have := HLM.out i hi; exact ⟨by omega, by omega⟩
  have R5 := (R1).upd u5 nD1
  have Q5 := (R0).upd u5 nD
  have t3 := A5.top.cell (i := 3) rfl
  have s3 := A5.prow.cell (col_get (t := q) (by rw [A5.l1]; exact hq))
  rw [HX.out] at s3
  dsimp only at s3
  have v3 := A5.prow.frozen q
  have A6 : MAt b (w5.setCell ⟨b.pc, q, none⟩ (.int .i64 (7))) c st.seats _ _ := A5.setPc q hq ⟨6, kr, kn, av⟩ (by rw [HX.out]) ⟨(show (0 : Int) ≤ 6 ∧ (6 : Int) ≤ 8 by decide), o2, o3⟩
  have U6 := Upd.one w5 b.pc q (.int .i64 (7))
  have g6 := g5.keep U6 (fun i hi e => (HS.out i hi).2.1 (e ▸ (fm_all b).2.2.2.2.1))
  have up6 := up5.trans (U6.mono fun i _ e => .inl (e ▸ (fm_all b).2.2.2.2.1))
  have R6 := R5.upd U6 (fun e => (dm b.pc (fm_all b).2.2.2.2.1).2 e.symm)
  have Q6 := Q5.upd U6 (fun e => (dm b.pc (fm_all b).2.2.2.2.1).1 e.symm)
  go_upto_region 36 with (fail)
  obtain ⟨w6, hw6⟩ : ∃ w', w5.setCell ⟨b.pc, q, none⟩ (.int .i64 (7)) = w' := ⟨_, rfl⟩
  rw [hw6] at A6 g6 up6 R6 Q6 ⊢
  clear hw6 U6 A5 g5 up5 R5 Q5 t3 s3 v3
  have r0 := R6.cell (i := 0) rfl
  have q0 := Q6.cell (i := 0) rfl
  have z0 := Q6.frozen 0
  have r1 := R6.cell (i := 1) rfl
  have q1 := Q6.cell (i := 1) rfl
  have z1 := Q6.frozen 1
  have r2 := R6.cell (i := 2) rfl
  have q2 := Q6.cell (i := 2) rfl
  have z2 := Q6.frozen 2
  have r3 := R6.cell (i := 3) rfl
  have q3 := Q6.cell (i := 3) rfl
  have z3 := Q6.frozen 3
  go_wp2_with fail
  have U9 : Upd (fun i => i = D) w6 ((((w6.setCell ⟨D, 0, none⟩ (.int .i64 0)).setCell ⟨D, 1, none⟩ (.int .i64 0)).setCell ⟨D, 2, none⟩ (.int .i64 0)).setCell ⟨D, 3, none⟩ (.int .i64 0)) := (((Upd.one _ _ _ _).trans (Upd.one _ _ _ _)).trans (Upd.one _ _ _ _)).trans (Upd.one _ _ _ _)
  have RF := (((Q6.set 0 (.int .i64 0)).set 1 (.int .i64 0)).set 2 (.int .i64 0)).set 3 (.int .i64 0)
  have f0 := RF.cell (i := 0) rfl
  have f1 := RF.cell (i := 1) rfl
  have f2 := RF.cell (i := 2) rfl
  have f3 := RF.cell (i := 3) rfl
  have A99 := A6.keep U9 (fun i hi => (dm i hi).1)
  have g99 := g6.keep U9 (fun i hi e => (HS.out i hi).2.2.1 e)
  have up99 := up6.then U9 (fun i hi e => by have := HD.out; omega)
  obtain ⟨w99, hw99⟩ : ∃ w', ((((w6.setCell ⟨D, 0, none⟩ (.int .i64 0)).setCell ⟨D, 1, none⟩ (.int .i64 0)).setCell ⟨D, 2, none⟩ (.int .i64 0)).setCell ⟨D, 3, none⟩ (.int .i64 0)) = w' := ⟨_, rfl⟩
  rw [hw99] at f0 f1 f2 f3 A99 g99 up99 ⊢
  refine bodyPost_ret (v := didm (0, false, false, false)) (by simp [results, Try.results108, go_sem, didm, b2i, f0, f1, f2, f3]) rfl ?_
  have E : lockS n 0 c st q q (lateB st.seats q now) = ((0, false, false, false), { st with pls := st.pls.set q ⟨6, kr, kn, av⟩, ws := wrt n st.ws q nv kn, ts := Cache.after n st.ws.length st.ts q (nv) true }) := by
    unfold lockS; rw [HX.out]; dsimp only; rw [if_neg (show ¬ ((5 : Int) = 0) by decide), if_neg (show ¬ ((5 : Int) = 1) by decide), if_neg (show ¬ ((5 : Int) = 2) by decide), if_neg (show ¬ ((5 : Int) = 3) by decide), if_neg (show ¬ ((5 : Int) = 4) by decide), if_pos rfl, HNVnv.out]
  rw [E]
  refine ⟨rfl, _, _, A99, ?_, ?_, ?_, ?_, ?_, ?_, R', g99, up99, fun i hi => (by rw [HD.out]; exact (HS.out i hi).1)⟩
  · first | rfl | simp
  · intro u hu; first | rfl | exact dls_other _ _ hu
  · first | rfl | simp
  · intro u hu; first | rfl | (dsimp only; rw [pl_other _ _ hu, pl_other _ _ hu]) | (dsimp only; rw [pl_other _ _ hu])
  · first | rfl | (dsimp only; done) | (dsimp only; rw [pl_at _ _ hp, pl_at _ _ hp]) | (dsimp only; rw [pl_at _ _ hp, HX.out])
  · intro h0
    first
      | exact absurd h0 (by first | (show ¬ ((1 : Int) = 0); decide) | (show ¬ ((2 : Int) = 0); decide) | (show ¬ ((6 : Int) = 0); decide) | (show ¬ ((3 : Int) = 0); decide))
      | (refine ⟨by first | rfl | (rw [List.set_set]), ?_⟩
         first
           | exact HAL.out.imp id (fun e => HAV.out.trans e)
           | (dsimp only; rw [pl_at _ _ hp]; dsimp only; first | exact .inl rfl | exact .inr (dls_at _ _ hqa) | exact HAL.out.imp id (fun e => HAV.out.trans e) | exact .inr HAV.out)
           | (dsimp only; rw [HX.out]; dsimp only; first | exact HAL.out.imp id (fun e => HAV.out.trans e) | exact .inr HAV.out))
set_option maxHeartbeats 16000000 in
set_option maxRecDepth 20000 in
theorem lock6 {w : World} {st : St} {al : List Int} {y n q : Nat} {R : Nat → Prop} (h : MAt b w c st.seats st.pls al) (hR : Ref04.RO w y R n st.ws st.ts) (hd : ∀ i, R i → ¬ fm b i) (hf : st.ts.length < 1000000) (n8 : n ≤ 8) (hn : st.seats.length = n) (hws : st.ws.length ≤ 100000) (hwd : Mem.Wd st.ws) (hq : q < st.seats.length) (hal : (st.pls.getD q p0).o = 0 ∨ al.getD q 0 = (st.pls.getD q p0).o) (now : Int) (hs : (st.pls.getD q p0).s = 6) :
    Calls Try.prog 108 #[.pointer (some ⟨b.x, 0, none⟩), .pointer (some ⟨y, 0, none⟩), .int .i64 q, .int .i64 q, .int .i64 now] w fun e w' =>
      e = .returned (didm (lockS n 0 c st q q (lateB st.seats q now)).1) ∧ Post b c y n R st.seats al q w (lockS n 0 c st q q (lateB st.seats q now)).1.1 (lockS n 0 c st q q (lateB st.seats q now)).2 w' := by
  have hp : q < st.pls.length := by rw [h.l1]; exact hq
  have hqa : q < al.length := by rw [h.l2]; exact hq
  have hok := h.ok q hp
  obtain ⟨⟨ks, kr, kn, ko⟩, hx⟩ : ∃ x, st.pls.getD q p0 = x := ⟨_, rfl⟩
  rw [hx] at hok hs hal
  obtain ⟨o1, o2, o3⟩ := hok
  dsimp only at o1 o2 o3 hs hal
  subst hs
  obtain ⟨av, hav⟩ : ∃ v, al.getD q 0 = v := ⟨_, rfl⟩
  have oa := h.wd q
  rw [hav] at oa hal
  have n3 := h.top.cell (i := 3) rfl
  have n4 := h.top.cell (i := 4) rfl
  have i4 := h.nrow.cell (col_get hp)
  have i3 := h.prow.cell (col_get hp)
  rw [hx] at i4 i3
  dsimp only at i4 i3
  have hlx := h.lt b.x (fm_all b).1
  have hlp := h.lt b.pc (fm_all b).2.2.2.2.1
  have hln := h.lt b.nb (fm_all b).2.2.2.2.2.1
  have hlm := h.lt
  have hlr := hR.lt
  have D1 : Upd (fun _ => False) w ((w.alloc (.cells #[.int .i64 0, .int .i64 0, .int .i64 0, .int .i64 0] 138)).alloc (.cells #[.int .i64 0, .int .i64 0, .int .i64 0, .int .i64 0] 138)) := ((Upd.refl _ w).alloc _).alloc _
  have h1 := h.keep D1 (fun _ _ => id)
  have g1 := hR.keep D1 (fun _ _ => id)
  have R0 : Row ((w.alloc (.cells #[.int .i64 0, .int .i64 0, .int .i64 0, .int .i64 0] 138)).alloc (.cells #[.int .i64 0, .int .i64 0, .int .i64 0, .int .i64 0] 138)) w.heap.size [.int .i64 0, .int .i64 0, .int .i64 0, .int .i64 0] := (Row.new' rfl).alloc _
  have R1 : Row ((w.alloc (.cells #[.int .i64 0, .int .i64 0, .int .i64 0, .int .i64 0] 138)).alloc (.cells #[.int .i64 0, .int .i64 0, .int .i64 0, .int .i64 0] 138)) (w.heap.size + 1) [.int .i64 0, .int .i64 0, .int .i64 0, .int .i64 0] := Row.new' (by simp)
  have up1 : Upd (fun i => fm b i ∨ R i) w ((w.alloc (.cells #[.int .i64 0, .int .i64 0, .int .i64 0, .int .i64 0] 138)).alloc (.cells #[.int .i64 0, .int .i64 0, .int .i64 0, .int .i64 0] 138)) := D1.mono fun _ _ z => z.elim
  obtain ⟨D, hD⟩ : ∃ D, w.heap.size = D := ⟨_, rfl⟩
  have HD := Lib.hid hD
  obtain ⟨W, hW⟩ : ∃ W, (w.alloc (.cells #[.int .i64 0, .int .i64 0, .int .i64 0, .int .i64 0] 138)).alloc (.cells #[.int .i64 0, .int .i64 0, .int .i64 0, .int .i64 0] 138) = W := ⟨_, rfl⟩
  rw [hW] at h1 g1 R0 R1 up1
  rw [hD] at R0 R1 hlm hlr
  have HW := Lib.hid hW
  have HWD := Lib.hid (show W.heap.size = D + 2 by rw [← hW, ← hD]; simp)
  have nD : ¬ R D := fun h => by have := hlr D h; omega
  have nD1 : ¬ R (D + 1) := fun h => by have := hlr _ h; omega
  clear D1 hW hD
  have hq8 : q ≤ 8 := by omega
  have hq1 : (0 : Int) ≤ (q : Int) := by omega
  have hq2 : (q : Int) < (st.seats.length : Int) := by omega
  have HLM := Lib.hid hlm
  have HLR := Lib.hid hlr
  have HX := Lib.hid hx
  have HAL := Lib.hid hal
  have HAV := Lib.hid hav
  have nx : ¬ R b.x := fun h => hd _ h (fm_all b).1
  have no : ¬ R b.ob := fun h => hd _ h (fm_all b).2.2.2.2.2.2.1
  have HF := Lib.hid hf
  have HK64 := Lib.hid (show n ≤ 64 by omega)
  have HWS := Lib.hid hws
  have HDD := Lib.hid hd
  have HWDD := Lib.hid hwd
  clear hlm hlr hR hd hf hws h hx hn hwd hal hav
  have ne1 : IntKind.i64.wrap 8 = 8 := rfl
  have c1 := h1.top.cell (i := 1) rfl
  have KDnv := wdC (b := b) (w := W) c1 kn 0 o3 (by decide)
  obtain ⟨nv, hnvnv⟩ : ∃ nv, stA 0 kn + 0 = nv := ⟨_, rfl⟩
  rw [hnvnv] at KDnv
  have HNVnv := Lib.hid hnvnv
  have HKDnv := Lib.hid KDnv
  clear KDnv hnvnv
  have HNZ : Hid (stA 0 kn = nv) := Lib.hid (by have := HNVnv.out; omega)
  obtain ⟨g, hg⟩ : ∃ g, rd n st.ws q (nv) = g := ⟨_, rfl⟩
  have hgw := rd_wd HWDD.out n q (nv)
  rw [hg] at hgw
  have KA := Ref04.loadR W g1 HF.out HK64.out HWS.out q (nv)
  rw [hg] at KA
  have HKA := Lib.hid KA
  clear KA
  obtain ⟨dl, hdl⟩ : ∃ d, (st.seats.getD q (0, -1)).2 = d := ⟨_, rfl⟩
  have HDL := Lib.hid hdl
  obtain ⟨lt, hlt⟩ : ∃ x, lateB st.seats q now = x := ⟨_, rfl⟩
  rw [hlt]
  have hlt' := hlt
  unfold lateB deadline at hlt'
  rw [inB_mk hq, if_pos rfl, Int.toNat_natCast, hdl] at hlt'
  clear hdl
  go_enter Try.func108, Try.ntmps108
  go_upto_region 4 with (fail)
  rw [HW.out, HD.out]
  clear n3 n4 i4 i3 hlx hlp hln
  go_wp2_with fail
  refine HKDnv.out.mono ?_
  rintro e w' ⟨rfl, rfl⟩
  go_wp2_with fail
  refine HKA.out.mono ?_
  rintro e w5 ⟨rfl, R', hR5, u5, hR5s⟩
  clear c1
  have HS : Hid (∀ i, R' i → (R i ∨ D ≤ i) ∧ ¬ fm b i ∧ i ≠ D ∧ i ≠ D + 1) := Lib.hid fun i hi => by
    rcases hR5s i hi with h | h
    · exact ⟨.inl h, HDD.out i h, by have := HLR.out i h; omega, by have := HLR.out i h; omega⟩
    · have := HWD.out
      have h : W.heap.size ≤ i := h
      exact ⟨.inr (by omega), fun e => by have := HLM.out i e; omega, by omega, by omega⟩
  have A5 := h1.keep u5 (fun i hi h => HDD.out i h hi)
  have up5 : Upd (fun i => fm b i ∨ R i) w w5 := (up1).trans (u5.mono fun i _ h => .inr h)
  have g5 := hR5
  have dm : ∀ i, fm b i → i ≠ D ∧ i ≠ D + 1 := fun i hi => by have := HLM.out i hi; exact ⟨by omega, by omega⟩
  have R5 := (R1).upd u5 nD1
  have Q5 := (R0).upd u5 nD
  by_cases hg0 : g = 0
  · subst hg0
    obtain ⟨cs, cd, htop⟩ := A5.seat.top
    have d0 := A5.top.cell (i := 0) rfl
    have d1 := htop.cell (i := 1) rfl
    have d2 := A5.seat.dl.cell (dls_get hq)
    rw [HDL.out] at d2
    by_cases h0 : 0 ≤ dl
    · have h0' : decide (dl < 0) = false := by rw [decide_eq_false_iff_not]; omega
      by_cases hn : dl ≤ now
      · have hn' : decide (now < dl) = false := by rw [decide_eq_false_iff_not]; omega
        have hltt : lt = true := by rw [← hlt']; simp [h0, hn]
        subst hltt
        clear hlt'
        go_upto_region 35 with (fail)
        clear d0 d1 d2 htop
        have t3 := A5.top.cell (i := 3) rfl
        have s3 := A5.prow.cell (col_get (t := q) (by rw [A5.l1]; exact hq))
        rw [HX.out] at s3
        dsimp only at s3
        have v3 := A5.prow.frozen q
        have A6 : MAt b (w5.setCell ⟨b.pc, q, none⟩ (.int .i64 (8))) c st.seats _ _ := A5.setPc q hq ⟨7, kr, kn, ko⟩ (by rw [HX.out]) ⟨(show (0 : Int) ≤ 7 ∧ (7 : Int) ≤ 8 by decide), o2, o3⟩
        have U6 := Upd.one w5 b.pc q (.int .i64 (8))
        have g6 := g5.keep U6 (fun i hi e => (HS.out i hi).2.1 (e ▸ (fm_all b).2.2.2.2.1))
        have up6 := up5.trans (U6.mono fun i _ e => .inl (e ▸ (fm_all b).2.2.2.2.1))
        have R6 := R5.upd U6 (fun e => (dm b.pc (fm_all b).2.2.2.2.1).2 e.symm)
        have Q6 := Q5.upd U6 (fun e => (dm b.pc (fm_all b).2.2.2.2.1).1 e.symm)
        go_upto_region 36 with (fail)
        obtain ⟨w6, hw6⟩ : ∃ w', w5.setCell ⟨b.pc, q, none⟩ (.int .i64 (8)) = w' := ⟨_, rfl⟩
        rw [hw6] at A6 g6 up6 R6 Q6 ⊢
        clear hw6 U6 A5 g5 up5 R5 Q5 t3 s3 v3
        have r0 := R6.cell (i := 0) rfl
        have q0 := Q6.cell (i := 0) rfl
        have z0 := Q6.frozen 0
        have r1 := R6.cell (i := 1) rfl
        have q1 := Q6.cell (i := 1) rfl
        have z1 := Q6.frozen 1
        have r2 := R6.cell (i := 2) rfl
        have q2 := Q6.cell (i := 2) rfl
        have z2 := Q6.frozen 2
        have r3 := R6.cell (i := 3) rfl
        have q3 := Q6.cell (i := 3) rfl
        have z3 := Q6.frozen 3
        go_wp2_with fail
        have U9 : Upd (fun i => i = D) w6 ((((w6.setCell ⟨D, 0, none⟩ (.int .i64 0)).setCell ⟨D, 1, none⟩ (.int .i64 0)).setCell ⟨D, 2, none⟩ (.int .i64 0)).setCell ⟨D, 3, none⟩ (.int .i64 0)) := (((Upd.one _ _ _ _).trans (Upd.one _ _ _ _)).trans (Upd.one _ _ _ _)).trans (Upd.one _ _ _ _)
        have RF := (((Q6.set 0 (.int .i64 0)).set 1 (.int .i64 0)).set 2 (.int .i64 0)).set 3 (.int .i64 0)
        have f0 := RF.cell (i := 0) rfl
        have f1 := RF.cell (i := 1) rfl
        have f2 := RF.cell (i := 2) rfl
        have f3 := RF.cell (i := 3) rfl
        have A99 := A6.keep U9 (fun i hi => (dm i hi).1)
        have g99 := g6.keep U9 (fun i hi e => (HS.out i hi).2.2.1 e)
        have up99 := up6.then U9 (fun i hi e => by have := HD.out; omega)
        obtain ⟨w99, hw99⟩ : ∃ w', ((((w6.setCell ⟨D, 0, none⟩ (.int .i64 0)).setCell ⟨D, 1, none⟩ (.int .i64 0)).setCell ⟨D, 2, none⟩ (.int .i64 0)).setCell ⟨D, 3, none⟩ (.int .i64 0)) = w' := ⟨_, rfl⟩
        rw [hw99] at f0 f1 f2 f3 A99 g99 up99 ⊢
        refine bodyPost_ret (v := didm (0, false, false, false)) (by simp [results, Try.results108, go_sem, didm, b2i, f0, f1, f2, f3]) rfl ?_
        have E : lockS n 0 c st q q true = ((0, false, false, false), { st with pls := st.pls.set q ⟨7, kr, kn, ko⟩, ts := Cache.after n st.ws.length st.ts q (nv) false }) := by
          unfold lockS; rw [HX.out]; dsimp only; rw [if_neg (show ¬ ((6 : Int) = 0) by decide), if_neg (show ¬ ((6 : Int) = 1) by decide), if_neg (show ¬ ((6 : Int) = 2) by decide), if_neg (show ¬ ((6 : Int) = 3) by decide), if_neg (show ¬ ((6 : Int) = 4) by decide), if_neg (show ¬ ((6 : Int) = 5) by decide), if_pos rfl, HNZ.out, hg, if_neg (by decide), if_neg (by decide)]
        rw [E]
        refine ⟨rfl, _, _, A99, ?_, ?_, ?_, ?_, ?_, ?_, R', g99, up99, fun i hi => (by rw [HD.out]; exact (HS.out i hi).1)⟩
        · first | rfl | simp
        · intro u hu; first | rfl | exact dls_other _ _ hu
        · first | rfl | simp
        · intro u hu; first | rfl | (dsimp only; rw [pl_other _ _ hu, pl_other _ _ hu]) | (dsimp only; rw [pl_other _ _ hu])
        · first | rfl | (dsimp only; done) | (dsimp only; rw [pl_at _ _ hp, pl_at _ _ hp]) | (dsimp only; rw [pl_at _ _ hp, HX.out])
        · intro h0
          first
            | exact absurd h0 (by first | (show ¬ ((1 : Int) = 0); decide) | (show ¬ ((2 : Int) = 0); decide) | (show ¬ ((6 : Int) = 0); decide) | (show ¬ ((3 : Int) = 0); decide))
            | (refine ⟨by first | rfl | (rw [List.set_set]), ?_⟩
               first
                 | exact HAL.out.imp id (fun e => HAV.out.trans e)
                 | (dsimp only; rw [pl_at _ _ hp]; dsimp only; first | exact .inl rfl | exact .inr (dls_at _ _ hqa) | exact HAL.out.imp id (fun e => HAV.out.trans e) | exact .inr HAV.out)
                 | (dsimp only; rw [HX.out]; dsimp only; first | exact HAL.out.imp id (fun e => HAV.out.trans e) | exact .inr HAV.out))
      · have hn' : decide (now < dl) = true := by rw [decide_eq_true_eq]; omega
        have hn2 : now < dl := by omega
        have hltt : lt = false := by rw [← hlt']; simp [hn]
        subst hltt
        clear hlt'
        have r0 := R5.cell (i := 0) rfl
        have q0 := Q5.cell (i := 0) rfl
        have z0 := Q5.frozen 0
        have r1 := R5.cell (i := 1) rfl
        have q1 := Q5.cell (i := 1) rfl
        have z1 := Q5.frozen 1
        have r2 := R5.cell (i := 2) rfl
        have q2 := Q5.cell (i := 2) rfl
        have z2 := Q5.frozen 2
        have r3 := R5.cell (i := 3) rfl
        have q3 := Q5.cell (i := 3) rfl
        have z3 := Q5.frozen 3
        go_wp2_with fail
        have U9 : Upd (fun i => i = D) w5 ((((w5.setCell ⟨D, 0, none⟩ (.int .i64 0)).setCell ⟨D, 1, none⟩ (.int .i64 0)).setCell ⟨D, 2, none⟩ (.int .i64 0)).setCell ⟨D, 3, none⟩ (.int .i64 0)) := (((Upd.one _ _ _ _).trans (Upd.one _ _ _ _)).trans (Upd.one _ _ _ _)).trans (Upd.one _ _ _ _)
        have RF := (((Q5.set 0 (.int .i64 0)).set 1 (.int .i64 0)).set 2 (.int .i64 0)).set 3 (.int .i64 0)
        have f0 := RF.cell (i := 0) rfl
        have f1 := RF.cell (i := 1) rfl
        have f2 := RF.cell (i := 2) rfl
        have f3 := RF.cell (i := 3) rfl
        have A99 := A5.keep U9 (fun i hi => (dm i hi).1)
        have g99 := g5.keep U9 (fun i hi e => (HS.out i hi).2.2.1 e)
        have up99 := up5.then U9 (fun i hi e => by have := HD.out; omega)
        obtain ⟨w99, hw99⟩ : ∃ w', ((((w5.setCell ⟨D, 0, none⟩ (.int .i64 0)).setCell ⟨D, 1, none⟩ (.int .i64 0)).setCell ⟨D, 2, none⟩ (.int .i64 0)).setCell ⟨D, 3, none⟩ (.int .i64 0)) = w' := ⟨_, rfl⟩
        rw [hw99] at f0 f1 f2 f3 A99 g99 up99 ⊢
        refine bodyPost_ret (v := didm (0, false, false, false)) (by simp [results, Try.results108, go_sem, didm, b2i, f0, f1, f2, f3]) rfl ?_
        have E : lockS n 0 c st q q false = ((0, false, false, false), { st with ts := Cache.after n st.ws.length st.ts q (nv) false }) := by
          unfold lockS; rw [HX.out]; dsimp only; rw [if_neg (show ¬ ((6 : Int) = 0) by decide), if_neg (show ¬ ((6 : Int) = 1) by decide), if_neg (show ¬ ((6 : Int) = 2) by decide), if_neg (show ¬ ((6 : Int) = 3) by decide), if_neg (show ¬ ((6 : Int) = 4) by decide), if_neg (show ¬ ((6 : Int) = 5) by decide), if_pos rfl, HNZ.out, hg, if_neg (by decide), if_pos rfl]
        rw [E]
        refine ⟨rfl, _, _, A99, ?_, ?_, ?_, ?_, ?_, ?_, R', g99, up99, fun i hi => (by rw [HD.out]; exact (HS.out i hi).1)⟩
        · first | rfl | simp
        · intro u hu; first | rfl | exact dls_other _ _ hu
        · first | rfl | simp
        · intro u hu; first | rfl | (dsimp only; rw [pl_other _ _ hu, pl_other _ _ hu]) | (dsimp only; rw [pl_other _ _ hu])
        · first | rfl | (dsimp only; done) | (dsimp only; rw [pl_at _ _ hp, pl_at _ _ hp]) | (dsimp only; rw [pl_at _ _ hp, HX.out])
        · intro h0
          first
            | exact absurd h0 (by first | (show ¬ ((1 : Int) = 0); decide) | (show ¬ ((2 : Int) = 0); decide) | (show ¬ ((6 : Int) = 0); decide) | (show ¬ ((3 : Int) = 0); decide))
            | (refine ⟨by first | rfl | (rw [List.set_set]), ?_⟩
               first
                 | exact HAL.out.imp id (fun e => HAV.out.trans e)
                 | (dsimp only; rw [pl_at _ _ hp]; dsimp only; first | exact .inl rfl | exact .inr (dls_at _ _ hqa) | exact HAL.out.imp id (fun e => HAV.out.trans e) | exact .inr HAV.out)
                 | (dsimp only; rw [HX.out]; dsimp only; first | exact HAL.out.imp id (fun e => HAV.out.trans e) | exact .inr HAV.out))
    · have h0' : decide (dl < 0) = true := by rw [decide_eq_true_eq]; omega
      have h02 : dl < 0 := by omega
      have hltt : lt = false := by rw [← hlt']; simp [h0]
      subst hltt
      clear hlt'
      have r0 := R5.cell (i := 0) rfl
      have q0 := Q5.cell (i := 0) rfl
      have z0 := Q5.frozen 0
      have r1 := R5.cell (i := 1) rfl
      have q1 := Q5.cell (i := 1) rfl
      have z1 := Q5.frozen 1
      have r2 := R5.cell (i := 2) rfl
      have q2 := Q5.cell (i := 2) rfl
      have z2 := Q5.frozen 2
      have r3 := R5.cell (i := 3) rfl
      have q3 := Q5.cell (i := 3) rfl
      have z3 := Q5.frozen 3
      go_wp2_with fail
      have U9 : Upd (fun i => i = D) w5 ((((w5.setCell ⟨D, 0, none⟩ (.int .i64 0)).setCell ⟨D, 1, none⟩ (.int .i64 0)).setCell ⟨D, 2, none⟩ (.int .i64 0)).setCell ⟨D, 3, none⟩ (.int .i64 0)) := (((Upd.one _ _ _ _).trans (Upd.one _ _ _ _)).trans (Upd.one _ _ _ _)).trans (Upd.one _ _ _ _)
      have RF := (((Q5.set 0 (.int .i64 0)).set 1 (.int .i64 0)).set 2 (.int .i64 0)).set 3 (.int .i64 0)
      have f0 := RF.cell (i := 0) rfl
      have f1 := RF.cell (i := 1) rfl
      have f2 := RF.cell (i := 2) rfl
      have f3 := RF.cell (i := 3) rfl
      have A99 := A5.keep U9 (fun i hi => (dm i hi).1)
      have g99 := g5.keep U9 (fun i hi e => (HS.out i hi).2.2.1 e)
      have up99 := up5.then U9 (fun i hi e => by have := HD.out; omega)
      obtain ⟨w99, hw99⟩ : ∃ w', ((((w5.setCell ⟨D, 0, none⟩ (.int .i64 0)).setCell ⟨D, 1, none⟩ (.int .i64 0)).setCell ⟨D, 2, none⟩ (.int .i64 0)).setCell ⟨D, 3, none⟩ (.int .i64 0)) = w' := ⟨_, rfl⟩
      rw [hw99] at f0 f1 f2 f3 A99 g99 up99 ⊢
      refine bodyPost_ret (v := didm (0, false, false, false)) (by simp [results, Try.results108, go_sem, didm, b2i, f0, f1, f2, f3]) rfl ?_
      have E : lockS n 0 c st q q false = ((0, false, false, false), { st with ts := Cache.after n st.ws.length st.ts q (nv) false }) := by
        unfold lockS; rw [HX.out]; dsimp only; rw [if_neg (show ¬ ((6 : Int) = 0) by decide), if_neg (show ¬ ((6 : Int) = 1) by decide), if_neg (show ¬ ((6 : Int) = 2) by decide), if_neg (show ¬ ((6 : Int) = 3) by decide), if_neg (show ¬ ((6 : Int) = 4) by decide), if_neg (show ¬ ((6 : Int) = 5) by decide), if_pos rfl, HNZ.out, hg, if_neg (by decide), if_pos rfl]
      rw [E]
      refine ⟨rfl, _, _, A99, ?_, ?_, ?_, ?_, ?_, ?_, R', g99, up99, fun i hi => (by rw [HD.out]; exact (HS.out i hi).1)⟩
      · first | rfl | simp
      · intro u hu; first | rfl | exact dls_other _ _ hu
      · first | rfl | simp
      · intro u hu; first | rfl | (dsimp only; rw [pl_other _ _ hu, pl_other _ _ hu]) | (dsimp only; rw [pl_other _ _ hu])
      · first | rfl | (dsimp only; done) | (dsimp only; rw [pl_at _ _ hp, pl_at _ _ hp]) | (dsimp only; rw [pl_at _ _ hp, HX.out])
      · intro h0
        first
          | exact absurd h0 (by first | (show ¬ ((1 : Int) = 0); decide) | (show ¬ ((2 : Int) = 0); decide) | (show ¬ ((6 : Int) = 0); decide) | (show ¬ ((3 : Int) = 0); decide))
          | (refine ⟨by first | rfl | (rw [List.set_set]), ?_⟩
             first
               | exact HAL.out.imp id (fun e => HAV.out.trans e)
               | (dsimp only; rw [pl_at _ _ hp]; dsimp only; first | exact .inl rfl | exact .inr (dls_at _ _ hqa) | exact HAL.out.imp id (fun e => HAV.out.trans e) | exact .inr HAV.out)
               | (dsimp only; rw [HX.out]; dsimp only; first | exact HAL.out.imp id (fun e => HAV.out.trans e) | exact .inr HAV.out))
  · have hg0' : (g != 0) = true := by simpa using hg0
    clear hlt'
    have y1 := R5.cell (i := 0) rfl
    have y2 := R5.frozen 0
    have U6 := Upd.one w5 (D + 1) 0 (.int .i64 1)
    have A6 := A5.keep U6 (fun i hi e => (dm i hi).2 e)
    have R6 := R5.set 0 (.int .i64 1)
    have Q6 := Q5.upd U6 (by omega)
    have g6 := g5.keep U6 (fun i hi e => (HS.out i hi).2.2.2 e)
    have up6 := up5.then U6 (fun i hi e => by have := HD.out; omega)
    go_upto_region 28 with (fail)
    obtain ⟨w6, hw6⟩ : ∃ w', w5.setCell ⟨D + 1, 0, none⟩ (.int .i64 1) = w' := ⟨_, rfl⟩
    rw [hw6] at A6 R6 Q6 g6 up6 ⊢
    clear hw6 y1 y2 U6 A5 R5 Q5 g5 up5
    have r0 := R6.cell (i := 0) rfl
    have q0 := Q6.cell (i := 0) rfl
    have z0 := Q6.frozen 0
    have r1 := R6.cell (i := 1) rfl
    have q1 := Q6.cell (i := 1) rfl
    have z1 := Q6.frozen 1
    have r2 := R6.cell (i := 2) rfl
    have q2 := Q6.cell (i := 2) rfl
    have z2 := Q6.frozen 2
    have r3 := R6.cell (i := 3) rfl
    have q3 := Q6.cell (i := 3) rfl
    have z3 := Q6.frozen 3
    go_wp2_with fail
    have U9 : Upd (fun i => i = D) w6 ((((w6.setCell ⟨D, 0, none⟩ (.int .i64 1)).setCell ⟨D, 1, none⟩ (.int .i64 0)).setCell ⟨D, 2, none⟩ (.int .i64 0)).setCell ⟨D, 3, none⟩ (.int .i64 0)) := (((Upd.one _ _ _ _).trans (Upd.one _ _ _ _)).trans (Upd.one _ _ _ _)).trans (Upd.one _ _ _ _)
    have RF := (((Q6.set 0 (.int .i64 1)).set 1 (.int .i64 0)).set 2 (.int .i64 0)).set 3 (.int .i64 0)
    have f0 := RF.cell (i := 0) rfl
    have f1 := RF.cell (i := 1) rfl
    have f2 := RF.cell (i := 2) rfl
    have f3 := RF.cell (i := 3) rfl
    have A99 := A6.keep U9 (fun i hi => (dm i hi).1)
    have g99 := g6.keep U9 (fun i hi e => (HS.out i hi).2.2.1 e)
    have up99 := up6.then U9 (fun i hi e => by have := HD.out; omega)
    obtain ⟨w99, hw99⟩ : ∃ w', ((((w6.setCell ⟨D, 0, none⟩ (.int .i64 1)).setCell ⟨D, 1, none⟩ (.int .i64 0)).setCell ⟨D, 2, none⟩ (.int .i64 0)).setCell ⟨D, 3, none⟩ (.int .i64 0)) = w' := ⟨_, rfl⟩
    rw [hw99] at f0 f1 f2 f3 A99 g99 up99 ⊢
    refine bodyPost_ret (v := didm (1, false, false, false)) (by simp [results, Try.results108, go_sem, didm, b2i, f0, f1, f2, f3]) rfl ?_
    have E : lockS n 0 c st q q lt = ((1, false, false, false), { st with ts := Cache.after n st.ws.length st.ts q (nv) false }) := by
      unfold lockS; rw [HX.out]; dsimp only; rw [if_neg (show ¬ ((6 : Int) = 0) by decide), if_neg (show ¬ ((6 : Int) = 1) by decide), if_neg (show ¬ ((6 : Int) = 2) by decide), if_neg (show ¬ ((6 : Int) = 3) by decide), if_neg (show ¬ ((6 : Int) = 4) by decide), if_neg (show ¬ ((6 : Int) = 5) by decide), if_pos rfl, HNZ.out, hg, if_pos hg0]
    rw [E]
    refine ⟨rfl, _, _, A99, ?_, ?_, ?_, ?_, ?_, ?_, R', g99, up99, fun i hi => (by rw [HD.out]; exact (HS.out i hi).1)⟩
    · first | rfl | simp
    · intro u hu; first | rfl | exact dls_other _ _ hu
    · first | rfl | simp
    · intro u hu; first | rfl | (dsimp only; rw [pl_other _ _ hu, pl_other _ _ hu]) | (dsimp only; rw [pl_other _ _ hu])
    · first | rfl | (dsimp only; done) | (dsimp only; rw [pl_at _ _ hp, pl_at _ _ hp]) | (dsimp only; rw [pl_at _ _ hp, HX.out])
    · intro h0
      first
        | exact absurd h0 (by first | (show ¬ ((1 : Int) = 0); decide) | (show ¬ ((2 : Int) = 0); decide) | (show ¬ ((6 : Int) = 0); decide) | (show ¬ ((3 : Int) = 0); decide))
        | (refine ⟨by first | rfl | (rw [List.set_set]), ?_⟩
           first
             | exact HAL.out.imp id (fun e => HAV.out.trans e)
             | (dsimp only; rw [pl_at _ _ hp]; dsimp only; first | exact .inl rfl | exact .inr (dls_at _ _ hqa) | exact HAL.out.imp id (fun e => HAV.out.trans e) | exact .inr HAV.out)
             | (dsimp only; rw [HX.out]; dsimp only; first | exact HAL.out.imp id (fun e => HAV.out.trans e) | exact .inr HAV.out))
set_option maxHeartbeats 16000000 in
set_option maxRecDepth 20000 in
theorem lock7 {w : World} {st : St} {al : List Int} {y n q : Nat} {R : Nat → Prop} (h : MAt b w c st.seats st.pls al) (hR : Ref04.RO w y R n st.ws st.ts) (hd : ∀ i, R i → ¬ fm b i) (hf : st.ts.length < 1000000) (n8 : n ≤ 8) (hn : st.seats.length = n) (hws : st.ws.length ≤ 100000) (hwd : Mem.Wd st.ws) (hq : q < st.seats.length) (hal : (st.pls.getD q p0).o = 0 ∨ al.getD q 0 = (st.pls.getD q p0).o) (now : Int) (hs : (st.pls.getD q p0).s = 7) :
    Calls Try.prog 108 #[.pointer (some ⟨b.x, 0, none⟩), .pointer (some ⟨y, 0, none⟩), .int .i64 q, .int .i64 q, .int .i64 now] w fun e w' =>
      e = .returned (didm (lockS n 0 c st q q (lateB st.seats q now)).1) ∧ Post b c y n R st.seats al q w (lockS n 0 c st q q (lateB st.seats q now)).1.1 (lockS n 0 c st q q (lateB st.seats q now)).2 w' := by
  have hp : q < st.pls.length := by rw [h.l1]; exact hq
  have hqa : q < al.length := by rw [h.l2]; exact hq
  have hok := h.ok q hp
  obtain ⟨⟨ks, kr, kn, ko⟩, hx⟩ : ∃ x, st.pls.getD q p0 = x := ⟨_, rfl⟩
  rw [hx] at hok hs hal
  obtain ⟨o1, o2, o3⟩ := hok
  dsimp only at o1 o2 o3 hs hal
  subst hs
  obtain ⟨av, hav⟩ : ∃ v, al.getD q 0 = v := ⟨_, rfl⟩
  have oa := h.wd q
  rw [hav] at oa hal
  have n3 := h.top.cell (i := 3) rfl
  have n4 := h.top.cell (i := 4) rfl
  have i4 := h.nrow.cell (col_get hp)
  have i3 := h.prow.cell (col_get hp)
  rw [hx] at i4 i3
  dsimp only at i4 i3
  have hlx := h.lt b.x (fm_all b).1
  have hlp := h.lt b.pc (fm_all b).2.2.2.2.1
  have hln := h.lt b.nb (fm_all b).2.2.2.2.2.1
  have hlm := h.lt
  have hlr := hR.lt
  have D1 : Upd (fun _ => False) w ((w.alloc (.cells #[.int .i64 0, .int .i64 0, .int .i64 0, .int .i64 0] 138)).alloc (.cells #[.int .i64 0, .int .i64 0, .int .i64 0, .int .i64 0] 138)) := ((Upd.refl _ w).alloc _).alloc _
  have h1 := h.keep D1 (fun _ _ => id)
  have g1 := hR.keep D1 (fun _ _ => id)
  have R0 : Row ((w.alloc (.cells #[.int .i64 0, .int .i64 0, .int .i64 0, .int .i64 0] 138)).alloc (.cells #[.int .i64 0, .int .i64 0, .int .i64 0, .int .i64 0] 138)) w.heap.size [.int .i64 0, .int .i64 0, .int .i64 0, .int .i64 0] := (Row.new' rfl).alloc _
  have R1 : Row ((w.alloc (.cells #[.int .i64 0, .int .i64 0, .int .i64 0, .int .i64 0] 138)).alloc (.cells #[.int .i64 0, .int .i64 0, .int .i64 0, .int .i64 0] 138)) (w.heap.size + 1) [.int .i64 0, .int .i64 0, .int .i64 0, .int .i64 0] := Row.new' (by simp)
  have up1 : Upd (fun i => fm b i ∨ R i) w ((w.alloc (.cells #[.int .i64 0, .int .i64 0, .int .i64 0, .int .i64 0] 138)).alloc (.cells #[.int .i64 0, .int .i64 0, .int .i64 0, .int .i64 0] 138)) := D1.mono fun _ _ z => z.elim
  obtain ⟨D, hD⟩ : ∃ D, w.heap.size = D := ⟨_, rfl⟩
  have HD := Lib.hid hD
  obtain ⟨W, hW⟩ : ∃ W, (w.alloc (.cells #[.int .i64 0, .int .i64 0, .int .i64 0, .int .i64 0] 138)).alloc (.cells #[.int .i64 0, .int .i64 0, .int .i64 0, .int .i64 0] 138) = W := ⟨_, rfl⟩
  rw [hW] at h1 g1 R0 R1 up1
  rw [hD] at R0 R1 hlm hlr
  have HW := Lib.hid hW
  have HWD := Lib.hid (show W.heap.size = D + 2 by rw [← hW, ← hD]; simp)
  have nD : ¬ R D := fun h => by have := hlr D h; omega
  have nD1 : ¬ R (D + 1) := fun h => by have := hlr _ h; omega
  clear D1 hW hD
  have hq8 : q ≤ 8 := by omega
  have hq1 : (0 : Int) ≤ (q : Int) := by omega
  have hq2 : (q : Int) < (st.seats.length : Int) := by omega
  have HLM := Lib.hid hlm
  have HLR := Lib.hid hlr
  have HX := Lib.hid hx
  have HAL := Lib.hid hal
  have HAV := Lib.hid hav
  have nx : ¬ R b.x := fun h => hd _ h (fm_all b).1
  have no : ¬ R b.ob := fun h => hd _ h (fm_all b).2.2.2.2.2.2.1
  have HF := Lib.hid hf
  have HK64 := Lib.hid (show n ≤ 64 by omega)
  have HWS := Lib.hid hws
  have HDD := Lib.hid hd
  have HWDD := Lib.hid hwd
  clear hlm hlr hR hd hf hws h hx hn hwd hal hav
  have ne1 : IntKind.i64.wrap 9 = 9 := rfl
  have KDnv := wdC (b := b) (w := W) (h1.top.cell (i := 1) rfl) kn 0 o3 (by decide)
  obtain ⟨nv, hnvnv⟩ : ∃ nv, stA 0 kn + 0 = nv := ⟨_, rfl⟩
  rw [hnvnv] at KDnv
  have HNVnv := Lib.hid hnvnv
  have HKX := Lib.hid KDnv
  clear KDnv hnvnv
  have HNZ : Hid (stA 0 kn = nv) := Lib.hid (by have := HNVnv.out; omega)
  obtain ⟨cb, hcb⟩ : ∃ x, (Mem.inB q n && Mem.casB st.ws nv 0) = x := ⟨_, rfl⟩
  have HCB := Lib.hid hcb
  clear hcb HKX
  go_enter Try.func108, Try.ntmps108
  go_upto_region 4 with (fail)
  rw [HW.out, HD.out]
  clear n3 n4 i4 i3 hlx hlp hln
  have A2 := h1
  have R2 := R1
  have Q2 := R0
  have g2 := g1
  have up2 := up1
  obtain ⟨w2, hw2⟩ : ∃ w2, W = w2 := ⟨_, rfl⟩
  rw [hw2] at A2 R2 Q2 g2 up2 HWD ⊢
  clear hw2 h1 R1 R0 g1 up1
  have HS : Hid (∀ i, R i → (R i ∨ D ≤ i) ∧ ¬ fm b i ∧ i ≠ D ∧ i ≠ D + 1) := Lib.hid fun i hi => ⟨.inl hi, HDD.out i hi, by have := HLR.out i hi; omega, by have := HLR.out i hi; omega⟩
  have dm : ∀ i, fm b i → i ≠ D ∧ i ≠ D + 1 := fun i hi => by have := HLM.out i hi; exact ⟨by omega, by omega⟩
  have y1 := R2.cell (i := 0) rfl
  have y2 := R2.frozen 0
  have U3 := Upd.one w2 (D + 1) 0 (.int .i64 1)
  have A3 := A2.keep U3 (fun i hi e => (dm i hi).2 e)
  have R3 := R2.set 0 (.int .i64 1)
  have Q3 := Q2.upd U3 (by omega)
  have g3 := g2.keep U3 (fun i hi e => (HS.out i hi).2.2.2 e)
  have up3 := up2.then U3 (fun i hi e => by have := HD.out; omega)
  go_upto_region 33 with (fail)
  obtain ⟨w3, hw3⟩ : ∃ w', w2.setCell ⟨D + 1, 0, none⟩ (.int .i64 1) = w' := ⟨_, rfl⟩
  rw [hw3] at A3 R3 Q3 g3 up3 ⊢
  clear hw3 y1 y2 U3 A2 R2 Q2 g2 up2
  clear HS dm
  have HW4 : Hid (D + 2 ≤ w3.heap.size) := Lib.hid (by have := R3.lt; omega)
  have c1 := A3.top.cell (i := 1) rfl
  have KD := wdC (b := b) (w := w3) c1 kn 0 o3 (by decide)
  rw [HNVnv.out] at KD
  have HKDnv := Lib.hid KD
  clear KD
  go_wp2_with fail
  cases cb with
  | true =>
    have KA := Ref04.casR w3 g3 HF.out HK64.out HWS.out q (nv) 0 2
    rw [HCB.out, if_pos rfl] at KA
    have HKA := Lib.hid KA
    clear KA
    refine HKDnv.out.mono ?_
    rintro e w' ⟨rfl, rfl⟩
    go_wp2_with fail
    refine HKA.out.mono ?_
    rintro e w5 ⟨rfl, R', hR5, u5, hR5s⟩
    have HW3 := HWD
    have HS : Hid (∀ i, R' i → (R i ∨ D ≤ i) ∧ ¬ fm b i ∧ i ≠ D ∧ i ≠ D + 1) := Lib.hid fun i hi => by
      rcases hR5s i hi with h | h
      · exact ⟨.inl h, HDD.out i h, by have := HLR.out i h; omega, by have := HLR.out i h; omega⟩
      · have := HW4.out
        have h : w3.heap.size ≤ i := h
        exact ⟨.inr (by omega), fun e => by have := HLM.out i e; omega, by omega, by omega⟩
    have A5 := A3.keep u5 (fun i hi h => HDD.out i h hi)
    have up5 : Upd (fun i => fm b i ∨ R i) w w5 := (up3).trans (u5.mono fun i _ h => .inr h)
    have g5 := hR5
    have dm : ∀ i, fm b i → i ≠ D ∧ i ≠ D + 1 := fun i hi => by have := HLM.out i hi; exact ⟨by omega, by omega⟩
    have R5 := (R3).upd u5 nD1
    have Q5 := (Q3).upd u5 nD
    clear A3 R3 Q3 g3 up3
    have y1 := R5.cell (i := 0) rfl
    have y2 := R5.frozen 0
    have U6 := Upd.one w5 (D + 1) 0 (.int .i64 2)
    have A6 := A5.keep U6 (fun i hi e => (dm i hi).2 e)
    have R6 := R5.set 0 (.int .i64 2)
    have Q6 := Q5.upd U6 (by omega)
    have g6 := g5.keep U6 (fun i hi e => (HS.out i hi).2.2.2 e)
    have up6 := up5.then U6 (fun i hi e => by have := HD.out; omega)
    go_upto_region 35 with (fail)
    obtain ⟨w6, hw6⟩ : ∃ w', w5.setCell ⟨D + 1, 0, none⟩ (.int .i64 2) = w' := ⟨_, rfl⟩
    rw [hw6] at A6 R6 Q6 g6 up6 ⊢
    clear hw6 y1 y2 U6 A5 R5 Q5 g5 up5
    have t3 := A6.top.cell (i := 3) rfl
    have s3 := A6.prow.cell (col_get (t := q) (by rw [A6.l1]; exact hq))
    rw [HX.out] at s3
    dsimp only at s3
    have v3 := A6.prow.frozen q
    have A7 : MAt b (w6.setCell ⟨b.pc, q, none⟩ (.int .i64 (9))) c st.seats _ _ := A6.setPc q hq ⟨8, kr, kn, ko⟩ (by rw [HX.out]) ⟨(show (0 : Int) ≤ 8 ∧ (8 : Int) ≤ 8 by decide), o2, o3⟩
    have U7 := Upd.one w6 b.pc q (.int .i64 (9))
    have g7 := g6.keep U7 (fun i hi e => (HS.out i hi).2.1 (e ▸ (fm_all b).2.2.2.2.1))
    have up7 := up6.trans (U7.mono fun i _ e => .inl (e ▸ (fm_all b).2.2.2.2.1))
    have R7 := R6.upd U7 (fun e => (dm b.pc (fm_all b).2.2.2.2.1).2 e.symm)
    have Q7 := Q6.upd U7 (fun e => (dm b.pc (fm_all b).2.2.2.2.1).1 e.symm)
    go_upto_region 36 with (fail)
    obtain ⟨w7, hw7⟩ : ∃ w', w6.setCell ⟨b.pc, q, none⟩ (.int .i64 (9)) = w' := ⟨_, rfl⟩
    rw [hw7] at A7 g7 up7 R7 Q7 ⊢
    clear hw7 U7 A6 g6 up6 R6 Q6 t3 s3 v3
    have r0 := R7.cell (i := 0) rfl
    have q0 := Q7.cell (i := 0) rfl
    have z0 := Q7.frozen 0
    have r1 := R7.cell (i := 1) rfl
    have q1 := Q7.cell (i := 1) rfl
    have z1 := Q7.frozen 1
    have r2 := R7.cell (i := 2) rfl
    have q2 := Q7.cell (i := 2) rfl
    have z2 := Q7.frozen 2
    have r3 := R7.cell (i := 3) rfl
    have q3 := Q7.cell (i := 3) rfl
    have z3 := Q7.frozen 3
    go_wp2_with fail
    have U9 : Upd (fun i => i = D) w7 ((((w7.setCell ⟨D, 0, none⟩ (.int .i64 2)).setCell ⟨D, 1, none⟩ (.int .i64 0)).setCell ⟨D, 2, none⟩ (.int .i64 0)).setCell ⟨D, 3, none⟩ (.int .i64 0)) := (((Upd.one _ _ _ _).trans (Upd.one _ _ _ _)).trans (Upd.one _ _ _ _)).trans (Upd.one _ _ _ _)
    have RF := (((Q7.set 0 (.int .i64 2)).set 1 (.int .i64 0)).set 2 (.int .i64 0)).set 3 (.int .i64 0)
    have f0 := RF.cell (i := 0) rfl
    have f1 := RF.cell (i := 1) rfl
    have f2 := RF.cell (i := 2) rfl
    have f3 := RF.cell (i := 3) rfl
    have A99 := A7.keep U9 (fun i hi => (dm i hi).1)
    have g99 := g7.keep U9 (fun i hi e => (HS.out i hi).2.2.1 e)
    have up99 := up7.then U9 (fun i hi e => by have := HD.out; omega)
    obtain ⟨w99, hw99⟩ : ∃ w', ((((w7.setCell ⟨D, 0, none⟩ (.int .i64 2)).setCell ⟨D, 1, none⟩ (.int .i64 0)).setCell ⟨D, 2, none⟩ (.int .i64 0)).setCell ⟨D, 3, none⟩ (.int .i64 0)) = w' := ⟨_, rfl⟩
    rw [hw99] at f0 f1 f2 f3 A99 g99 up99 ⊢
    refine bodyPost_ret (v := didm (2, false, false, false)) (by simp [results, Try.results108, go_sem, didm, b2i, f0, f1, f2, f3]) rfl ?_
    have E : lockS n 0 c st q q (lateB st.seats q now) = ((2, false, false, false), { st with ws := Mem.put st.ws nv 2, ts := Cache.after n st.ws.length st.ts q (nv) true }) := by
      unfold lockS; rw [HX.out]; dsimp only; rw [if_neg (show ¬ ((7 : Int) = 0) by decide), if_neg (show ¬ ((7 : Int) = 1) by decide), if_neg (show ¬ ((7 : Int) = 2) by decide), if_neg (show ¬ ((7 : Int) = 3) by decide), if_neg (show ¬ ((7 : Int) = 4) by decide), if_neg (show ¬ ((7 : Int) = 5) by decide), if_neg (show ¬ ((7 : Int) = 6) by decide), HNZ.out, HCB.out, if_pos rfl]
    rw [E]
    refine ⟨rfl, _, _, A99, ?_, ?_, ?_, ?_, ?_, ?_, R', g99, up99, fun i hi => (by rw [HD.out]; exact (HS.out i hi).1)⟩
    · first | rfl | simp
    · intro u hu; first | rfl | exact dls_other _ _ hu
    · first | rfl | simp
    · intro u hu; first | rfl | (dsimp only; rw [pl_other _ _ hu, pl_other _ _ hu]) | (dsimp only; rw [pl_other _ _ hu])
    · first | rfl | (dsimp only; done) | (dsimp only; rw [pl_at _ _ hp, pl_at _ _ hp]) | (dsimp only; rw [pl_at _ _ hp, HX.out])
    · intro h0
      first
        | exact absurd h0 (by first | (show ¬ ((1 : Int) = 0); decide) | (show ¬ ((2 : Int) = 0); decide) | (show ¬ ((6 : Int) = 0); decide) | (show ¬ ((3 : Int) = 0); decide))
        | (refine ⟨by first | rfl | (rw [List.set_set]), ?_⟩
           first
             | exact HAL.out.imp id (fun e => HAV.out.trans e)
             | (dsimp only; rw [pl_at _ _ hp]; dsimp only; first | exact .inl rfl | exact .inr (dls_at _ _ hqa) | exact HAL.out.imp id (fun e => HAV.out.trans e) | exact .inr HAV.out)
             | (dsimp only; rw [HX.out]; dsimp only; first | exact HAL.out.imp id (fun e => HAV.out.trans e) | exact .inr HAV.out))
  | false =>
    have KA := Ref04.casR w3 g3 HF.out HK64.out HWS.out q (nv) 0 2
    rw [HCB.out, if_neg (by decide)] at KA
    have HKA := Lib.hid KA
    clear KA
    refine HKDnv.out.mono ?_
    rintro e w' ⟨rfl, rfl⟩
    go_wp2_with fail
    refine HKA.out.mono ?_
    rintro e w5 ⟨rfl, R', hR5, u5, hR5s⟩
    have HW3 := HWD
    have HS : Hid (∀ i, R' i → (R i ∨ D ≤ i) ∧ ¬ fm b i ∧ i ≠ D ∧ i ≠ D + 1) := Lib.hid fun i hi => by
      rcases hR5s i hi with h | h
      · exact ⟨.inl h, HDD.out i h, by have := HLR.out i h; omega, by have := HLR.out i h; omega⟩
      · have := HW4.out
        have h : w3.heap.size ≤ i := h
        exact ⟨.inr (by omega), fun e => by have := HLM.out i e; omega, by omega, by omega⟩
    have A5 := A3.keep u5 (fun i hi h => HDD.out i h hi)
    have up5 : Upd (fun i => fm b i ∨ R i) w w5 := (up3).trans (u5.mono fun i _ h => .inr h)
    have g5 := hR5
    have dm : ∀ i, fm b i → i ≠ D ∧ i ≠ D + 1 := fun i hi => by have := HLM.out i hi; exact ⟨by omega, by omega⟩
    have R5 := (R3).upd u5 nD1
    have Q5 := (Q3).upd u5 nD
    clear A3 R3 Q3 g3 up3
    have t3 := A5.top.cell (i := 3) rfl
    have s3 := A5.prow.cell (col_get (t := q) (by rw [A5.l1]; exact hq))
    rw [HX.out] at s3
    dsimp only at s3
    have v3 := A5.prow.frozen q
    have A6 : MAt b (w5.setCell ⟨b.pc, q, none⟩ (.int .i64 (9))) c st.seats _ _ := A5.setPc q hq ⟨8, kr, kn, ko⟩ (by rw [HX.out]) ⟨(show (0 : Int) ≤ 8 ∧ (8 : Int) ≤ 8 by decide), o2, o3⟩
    have U6 := Upd.one w5 b.pc q (.int .i64 (9))
    have g6 := g5.keep U6 (fun i hi e => (HS.out i hi).2.1 (e ▸ (fm_all b).2.2.2.2.1))
    have up6 := up5.trans (U6.mono fun i _ e => .inl (e ▸ (fm_all b).2.2.2.2.1))
    have R6 := R5.upd U6 (fun e => (dm b.pc (fm_all b).2.2.2.2.1).2 e.symm)
    have Q6 := Q5.upd U6 (fun e => (dm b.pc (fm_all b).2.2.2.2.1).1 e.symm)
    go_upto_region 36 with (fail)
    obtain ⟨w6, hw6⟩ : ∃ w', w5.setCell ⟨b.pc, q, none⟩ (.int .i64 (9)) = w' := ⟨_, rfl⟩
    rw [hw6] at A6 g6 up6 R6 Q6 ⊢
    clear hw6 U6 A5 g5 up5 R5 Q5 t3 s3 v3
    have r0 := R6.cell (i := 0) rfl
    have q0 := Q6.cell (i := 0) rfl
    have z0 := Q6.frozen 0
    have r1 := R6.cell (i := 1) rfl
    have q1 := Q6.cell (i := 1) rfl
    have z1 := Q6.frozen 1
    have r2 := R6.cell (i := 2) rfl
    have q2 := Q6.cell (i := 2) rfl
    have z2 := Q6.frozen 2
    have r3 := R6.cell (i := 3) rfl
    have q3 := Q6.cell (i := 3) rfl
    have z3 := Q6.frozen 3
    go_wp2_with fail
    have U9 : Upd (fun i => i = D) w6 ((((w6.setCell ⟨D, 0, none⟩ (.int .i64 1)).setCell ⟨D, 1, none⟩ (.int .i64 0)).setCell ⟨D, 2, none⟩ (.int .i64 0)).setCell ⟨D, 3, none⟩ (.int .i64 0)) := (((Upd.one _ _ _ _).trans (Upd.one _ _ _ _)).trans (Upd.one _ _ _ _)).trans (Upd.one _ _ _ _)
    have RF := (((Q6.set 0 (.int .i64 1)).set 1 (.int .i64 0)).set 2 (.int .i64 0)).set 3 (.int .i64 0)
    have f0 := RF.cell (i := 0) rfl
    have f1 := RF.cell (i := 1) rfl
    have f2 := RF.cell (i := 2) rfl
    have f3 := RF.cell (i := 3) rfl
    have A99 := A6.keep U9 (fun i hi => (dm i hi).1)
    have g99 := g6.keep U9 (fun i hi e => (HS.out i hi).2.2.1 e)
    have up99 := up6.then U9 (fun i hi e => by have := HD.out; omega)
    obtain ⟨w99, hw99⟩ : ∃ w', ((((w6.setCell ⟨D, 0, none⟩ (.int .i64 1)).setCell ⟨D, 1, none⟩ (.int .i64 0)).setCell ⟨D, 2, none⟩ (.int .i64 0)).setCell ⟨D, 3, none⟩ (.int .i64 0)) = w' := ⟨_, rfl⟩
    rw [hw99] at f0 f1 f2 f3 A99 g99 up99 ⊢
    refine bodyPost_ret (v := didm (1, false, false, false)) (by simp [results, Try.results108, go_sem, didm, b2i, f0, f1, f2, f3]) rfl ?_
    have E : lockS n 0 c st q q (lateB st.seats q now) = ((1, false, false, false), { st with ts := Cache.after n st.ws.length st.ts q (nv) true }) := by
      unfold lockS; rw [HX.out]; dsimp only; rw [if_neg (show ¬ ((7 : Int) = 0) by decide), if_neg (show ¬ ((7 : Int) = 1) by decide), if_neg (show ¬ ((7 : Int) = 2) by decide), if_neg (show ¬ ((7 : Int) = 3) by decide), if_neg (show ¬ ((7 : Int) = 4) by decide), if_neg (show ¬ ((7 : Int) = 5) by decide), if_neg (show ¬ ((7 : Int) = 6) by decide), HNZ.out, HCB.out, if_neg (by decide)]
    rw [E]
    refine ⟨rfl, _, _, A99, ?_, ?_, ?_, ?_, ?_, ?_, R', g99, up99, fun i hi => (by rw [HD.out]; exact (HS.out i hi).1)⟩
    · first | rfl | simp
    · intro u hu; first | rfl | exact dls_other _ _ hu
    · first | rfl | simp
    · intro u hu; first | rfl | (dsimp only; rw [pl_other _ _ hu, pl_other _ _ hu]) | (dsimp only; rw [pl_other _ _ hu])
    · first | rfl | (dsimp only; done) | (dsimp only; rw [pl_at _ _ hp, pl_at _ _ hp]) | (dsimp only; rw [pl_at _ _ hp, HX.out])
    · intro h0
      first
        | exact absurd h0 (by first | (show ¬ ((1 : Int) = 0); decide) | (show ¬ ((2 : Int) = 0); decide) | (show ¬ ((6 : Int) = 0); decide) | (show ¬ ((3 : Int) = 0); decide))
        | (refine ⟨by first | rfl | (rw [List.set_set]), ?_⟩
           first
             | exact HAL.out.imp id (fun e => HAV.out.trans e)
             | (dsimp only; rw [pl_at _ _ hp]; dsimp only; first | exact .inl rfl | exact .inr (dls_at _ _ hqa) | exact HAL.out.imp id (fun e => HAV.out.trans e) | exact .inr HAV.out)
             | (dsimp only; rw [HX.out]; dsimp only; first | exact HAL.out.imp id (fun e => HAV.out.trans e) | exact .inr HAV.out))
set_option maxHeartbeats 16000000 in
set_option maxRecDepth 20000 in
theorem unl0 {w : World} {st : St} {al : List Int} {y n q : Nat} {R : Nat → Prop} (h : MAt b w c st.seats st.pls al) (hR : Ref04.RO w y R n st.ws st.ts) (hd : ∀ i, R i → ¬ fm b i) (hf : st.ts.length < 1000000) (n8 : n ≤ 8) (hn : st.seats.length = n) (hws : st.ws.length ≤ 100000) (hwd : Mem.Wd st.ws) (hq : q < st.seats.length) (hal : (st.pls.getD q p0).o = 0 ∨ al.getD q 0 = (st.pls.getD q p0).o) (hs : (st.pls.getD q p0).s = 0) :
    Calls Try.prog 109 #[.pointer (some ⟨b.x, 0, none⟩), .pointer (some ⟨y, 0, none⟩), .int .i64 q, .int .i64 q] w fun e w' =>
      e = .returned (.int .i64 (unlS n 0 st q q).1) ∧ Post b c y n R st.seats al q w (unlS n 0 st q q).1 (unlS n 0 st q q).2 w' := by
  have hp : q < st.pls.length := by rw [h.l1]; exact hq
  have hqa : q < al.length := by rw [h.l2]; exact hq
  have hok := h.ok q hp
  obtain ⟨⟨ks, kr, kn, ko⟩, hx⟩ : ∃ x, st.pls.getD q p0 = x := ⟨_, rfl⟩
  rw [hx] at hok hs hal
  obtain ⟨o1, o2, o3⟩ := hok
  dsimp only at o1 o2 o3 hs hal
  subst hs
  obtain ⟨av, hav⟩ : ∃ v, al.getD q 0 = v := ⟨_, rfl⟩
  have oa := h.wd q
  rw [hav] at oa hal
  have n3 := h.top.cell (i := 3) rfl
  have n4 := h.top.cell (i := 4) rfl
  have i4 := h.nrow.cell (col_get hp)
  have i3 := h.prow.cell (col_get hp)
  rw [hx] at i4 i3
  dsimp only at i4 i3
  have hlx := h.lt b.x (fm_all b).1
  have hlp := h.lt b.pc (fm_all b).2.2.2.2.1
  have hln := h.lt b.nb (fm_all b).2.2.2.2.2.1
  have hlm := h.lt
  have hlr := hR.lt
  obtain ⟨W, rfl⟩ : ∃ W, W = w := ⟨_, rfl⟩
  obtain ⟨D, hD⟩ : ∃ D, W.heap.size = D := ⟨_, rfl⟩
  have HD := Lib.hid hD
  have h1 := h
  have g1 := hR
  have up1 : Upd (fun i => fm b i ∨ R i) W W := Upd.refl _ _
  rw [hD] at hlm hlr
  have HWD := Lib.hid hD
  clear hD
  have hq8 : q ≤ 8 := by omega
  have hq1 : (0 : Int) ≤ (q : Int) := by omega
  have hq2 : (q : Int) < (st.seats.length : Int) := by omega
  have HLM := Lib.hid hlm
  have HLR := Lib.hid hlr
  have HX := Lib.hid hx
  have HAL := Lib.hid hal
  have HAV := Lib.hid hav
  have nx : ¬ R b.x := fun h => hd _ h (fm_all b).1
  have no : ¬ R b.ob := fun h => hd _ h (fm_all b).2.2.2.2.2.2.1
  have HF := Lib.hid hf
  have HK64 := Lib.hid (show n ≤ 64 by omega)
  have HWS := Lib.hid hws
  have HDD := Lib.hid hd
  have HWDD := Lib.hid hwd
  clear hlm hlr hR hd hf hws h hx hn hwd hal hav
  have c1 := h1.top.cell (i := 1) rfl
  have c5a := h1.top.cell (i := 5) rfl
  have m0 := h1.orow.cell (ints_get (k := .i64) hqa)
  have KDnv := wdC (b := b) (w := W.drew) c1 kn 1 o3 (by decide)
  obtain ⟨nv, hnvnv⟩ : ∃ nv, stA 0 kn + 1 = nv := ⟨_, rfl⟩
  rw [hnvnv] at KDnv
  have HNVnv := Lib.hid hnvnv
  have HKDnv := Lib.hid KDnv
  clear KDnv hnvnv
  obtain ⟨g, hg⟩ : ∃ g, rd n st.ws q (nv) = g := ⟨_, rfl⟩
  have hgw := rd_wd HWDD.out n q (nv)
  rw [hg] at hgw
  have hgi : IntKind.i64.wrap g = g := IntWalk.i64_in _ (by omega)
  have KA := Ref04.loadR W.drew (g1.drewN 1) HF.out HK64.out HWS.out q (nv)
  rw [hg] at KA
  have HKA := Lib.hid KA
  clear KA
  go_enter Try.func109, Try.ntmps109
  go_upto_region 3 with (fail)
  clear n3 n4 i4 i3 hlx hlp hln
  go_wp2_with fail
  go_region_held3 (fun w' => w'.cell? ⟨b.x, 5, none⟩ = some (.slice (some ⟨b.ob, 0, none⟩) st.seats.length st.seats.length)) ((first | exact c5a | exact e5 | exact f5))
    ((first
      | (go_at_call 107; refine HKDnv.out.mono ?_; rintro e w' ⟨rfl, rfl⟩)
      | (go_at_call 111; refine HKA.out.mono ?_; rintro e w5 ⟨rfl, R', hR5, u5, hR5s⟩; have e5 := cell_upd u5 c5a nx; have A5' := (h1.keep ((Upd.refl (fun _ => False) W).drewN 1) (fun _ _ => id)).keep u5 (fun i hi h => HDD.out i h hi); have m5 := cell_upd u5 m0 no; have fz5 := A5'.orow.frozen q; have A6' := A5'.setOt q g hgw; have f5 := A6'.top.cell (i := 5) rfl)))
  clear e5 A5' A6' m5 fz5 f5 c1 c5a m0
  have HS : Hid (∀ i, R' i → (R i ∨ D ≤ i) ∧ ¬ fm b i) := Lib.hid fun i hi => by
    rcases hR5s i hi with h | h
    · exact ⟨.inl h, HDD.out i h⟩
    · have := HWD.out
      have h : W.heap.size ≤ i := h
      exact ⟨.inr (by omega), fun e => by have := HLM.out i e; omega⟩
  have A5 := (h1.keep ((Upd.refl (fun _ => False) W).drewN 1) (fun _ _ => id)).keep u5 (fun i hi h => HDD.out i h hi)
  have up5 : Upd (fun i => fm b i ∨ R i) W w5 := (up1.drewN 1).trans (u5.mono fun i _ h => .inr h)
  have g5 := hR5
  have dm : ∀ i, fm b i → i ≠ D ∧ i ≠ D + 1 := fun i hi => by have := HLM.out i hi; exact ⟨by omega, by omega⟩
  have A6 := A5.setOt q g hgw
  have U6 := Upd.one w5 b.ob q (.int .i64 (g))
  have g6 := g5.keep U6 (fun i hi e => (HS.out i hi).2 (e ▸ (fm_all b).2.2.2.2.2.2.1))
  have up6 := up5.trans (U6.mono fun i _ e => .inl (e ▸ (fm_all b).2.2.2.2.2.2.1))
  obtain ⟨w6, hw6⟩ : ∃ w', w5.setCell ⟨b.ob, q, none⟩ (.int .i64 (g)) = w' := ⟨_, rfl⟩
  rw [hw6] at A6 g6 up6 ⊢
  clear hw6 U6 A5 g5 up5
  have t3 := A6.top.cell (i := 3) rfl
  have s3 := A6.prow.cell (col_get (t := q) (by rw [A6.l1]; exact hq))
  rw [HX.out] at s3
  dsimp only at s3
  have v3 := A6.prow.frozen q
  have A7 : MAt b (w6.setCell ⟨b.pc, q, none⟩ (.int .i64 (2))) c st.seats _ _ := A6.setPc q hq ⟨1, kr, kn, ko⟩ (by rw [HX.out]) ⟨(show (0 : Int) ≤ 1 ∧ (1 : Int) ≤ 8 by decide), o2, o3⟩
  have U7 := Upd.one w6 b.pc q (.int .i64 (2))
  have g7 := g6.keep U7 (fun i hi e => (HS.out i hi).2 (e ▸ (fm_all b).2.2.2.2.1))
  have up7 := up6.trans (U7.mono fun i _ e => .inl (e ▸ (fm_all b).2.2.2.2.1))
  go_upto_region 6 with (fail)
  obtain ⟨w7, hw7⟩ : ∃ w', w6.setCell ⟨b.pc, q, none⟩ (.int .i64 (2)) = w' := ⟨_, rfl⟩
  rw [hw7] at A7 g7 up7 ⊢
  clear hw7 U7 A6 g6 up6 t3 s3 v3
  have HX7 := Lib.hid (show (st.pls.set q ⟨1, kr, kn, ko⟩).getD q p0 = ⟨1, kr, kn, ko⟩ by rw [pl_at _ _ hp])
  have c5 := A7.top.cell (i := 5) rfl
  have b5 := A7.orow.cell (ints_get (k := .i64) (by rw [A7.l2]; exact hq))
  rw [dls_at _ _ hqa] at b5
  by_cases hg0 : g = 0
  · subst hg0
    have A98 := A7.other q ⟨1, kr, kn, 0⟩ (by simpa using hp) (by rw [HX7.out]) (by rw [HX7.out]) (by rw [HX7.out])
    rw [List.set_set] at A98
    clear A7
    have A7 := A98
    go_wp2_with fail
    go_ret
    have A99 := A7
    have g99 := g7
    have up99 := up7
    have E : unlS n 0 st q q = (0, { st with pls := st.pls.set q ⟨1, kr, kn, 0⟩, ts := Cache.after n st.ws.length st.ts q (nv) false }) := by
      unfold unlS; rw [HX.out]; dsimp only; rw [if_pos (show (0 : Int) = 0 ∨ (0 : Int) = 2 by decide), HNVnv.out, hg, if_neg (by decide), if_pos rfl]
    rw [E]
    refine ⟨rfl, _, _, A99, ?_, ?_, ?_, ?_, ?_, ?_, R', g99, up99, fun i hi => (by rw [HD.out]; exact (HS.out i hi).1)⟩
    · first | rfl | simp
    · intro u hu; first | rfl | exact dls_other _ _ hu
    · first | rfl | simp
    · intro u hu; first | rfl | (dsimp only; rw [pl_other _ _ hu, pl_other _ _ hu]) | (dsimp only; rw [pl_other _ _ hu])
    · first | rfl | (dsimp only; done) | (dsimp only; rw [pl_at _ _ hp, pl_at _ _ hp]) | (dsimp only; rw [pl_at _ _ hp, HX.out])
    · intro h0
      first
        | exact absurd h0 (by first | (show ¬ ((1 : Int) = 0); decide) | (show ¬ ((2 : Int) = 0); decide) | (show ¬ ((6 : Int) = 0); decide) | (show ¬ ((3 : Int) = 0); decide))
        | (refine ⟨by first | rfl | (rw [List.set_set]), ?_⟩
           first
             | exact HAL.out.imp id (fun e => HAV.out.trans e)
             | (dsimp only; rw [pl_at _ _ hp]; dsimp only; first | exact .inl rfl | exact .inr (dls_at _ _ hqa) | exact HAL.out.imp id (fun e => HAV.out.trans e) | exact .inr HAV.out)
             | (dsimp only; rw [HX.out]; dsimp only; first | exact HAL.out.imp id (fun e => HAV.out.trans e) | exact .inr HAV.out))
  · have hg0' : (g != 0) = true := by simpa using hg0
    have t3 := A7.top.cell (i := 3) rfl
    have s3 := A7.prow.cell (col_get (t := q) (by rw [A7.l1]; exact hq))
    rw [HX7.out] at s3
    dsimp only at s3
    have v3 := A7.prow.frozen q
    have A8 : MAt b (w7.setCell ⟨b.pc, q, none⟩ (.int .i64 (4))) c st.seats _ _ := A7.setPc q hq ⟨3, kr, kn, g⟩ (by rw [HX7.out]) ⟨(show (0 : Int) ≤ 3 ∧ (3 : Int) ≤ 8 by decide), o2, o3⟩
    have U8 := Upd.one w7 b.pc q (.int .i64 (4))
    have g8 := g7.keep U8 (fun i hi e => (HS.out i hi).2 (e ▸ (fm_all b).2.2.2.2.1))
    have up8 := up7.trans (U8.mono fun i _ e => .inl (e ▸ (fm_all b).2.2.2.2.1))
    rw [List.set_set] at A8
    go_upto_region 26 with (fail)
    obtain ⟨w8, hw8⟩ : ∃ w', w7.setCell ⟨b.pc, q, none⟩ (.int .i64 (4)) = w' := ⟨_, rfl⟩
    rw [hw8] at A8 g8 up8 ⊢
    clear hw8 U8 A7 g7 up7 t3 s3 v3 c5 b5
    go_wp2_with fail
    go_ret
    have A99 := A8
    have g99 := g8
    have up99 := up8
    have E : unlS n 0 st q q = (0, { st with pls := st.pls.set q ⟨3, kr, kn, g⟩, ts := Cache.after n st.ws.length st.ts q (nv) false }) := by
      unfold unlS; rw [HX.out]; dsimp only; rw [if_pos (show (0 : Int) = 0 ∨ (0 : Int) = 2 by decide), HNVnv.out, hg, if_pos hg0]
    rw [E]
    refine ⟨rfl, _, _, A99, ?_, ?_, ?_, ?_, ?_, ?_, R', g99, up99, fun i hi => (by rw [HD.out]; exact (HS.out i hi).1)⟩
    · first | rfl | simp
    · intro u hu; first | rfl | exact dls_other _ _ hu
    · first | rfl | simp
    · intro u hu; first | rfl | (dsimp only; rw [pl_other _ _ hu, pl_other _ _ hu]) | (dsimp only; rw [pl_other _ _ hu])
    · first | rfl | (dsimp only; done) | (dsimp only; rw [pl_at _ _ hp, pl_at _ _ hp]) | (dsimp only; rw [pl_at _ _ hp, HX.out])
    · intro h0
      first
        | exact absurd h0 (by first | (show ¬ ((1 : Int) = 0); decide) | (show ¬ ((2 : Int) = 0); decide) | (show ¬ ((6 : Int) = 0); decide) | (show ¬ ((3 : Int) = 0); decide))
        | (refine ⟨by first | rfl | (rw [List.set_set]), ?_⟩
           first
             | exact HAL.out.imp id (fun e => HAV.out.trans e)
             | (dsimp only; rw [pl_at _ _ hp]; dsimp only; first | exact .inl rfl | exact .inr (dls_at _ _ hqa) | exact HAL.out.imp id (fun e => HAV.out.trans e) | exact .inr HAV.out)
             | (dsimp only; rw [HX.out]; dsimp only; first | exact HAL.out.imp id (fun e => HAV.out.trans e) | exact .inr HAV.out))
set_option maxHeartbeats 16000000 in
set_option maxRecDepth 20000 in
theorem unl1 {w : World} {st : St} {al : List Int} {y n q : Nat} {R : Nat → Prop} (h : MAt b w c st.seats st.pls al) (hR : Ref04.RO w y R n st.ws st.ts) (hd : ∀ i, R i → ¬ fm b i) (hf : st.ts.length < 1000000) (n8 : n ≤ 8) (hn : st.seats.length = n) (hws : st.ws.length ≤ 100000) (hwd : Mem.Wd st.ws) (hq : q < st.seats.length) (hal : (st.pls.getD q p0).o = 0 ∨ al.getD q 0 = (st.pls.getD q p0).o) (hs : (st.pls.getD q p0).s = 1) :
    Calls Try.prog 109 #[.pointer (some ⟨b.x, 0, none⟩), .pointer (some ⟨y, 0, none⟩), .int .i64 q, .int .i64 q] w fun e w' =>
      e = .returned (.int .i64 (unlS n 0 st q q).1) ∧ Post b c y n R st.seats al q w (unlS n 0 st q q).1 (unlS n 0 st q q).2 w' := by
  have hp : q < st.pls.length := by rw [h.l1]; exact hq
  have hqa : q < al.length := by rw [h.l2]; exact hq
  have hok := h.ok q hp
  obtain ⟨⟨ks, kr, kn, ko⟩, hx⟩ : ∃ x, st.pls.getD q p0 = x := ⟨_, rfl⟩
  rw [hx] at hok hs hal
  obtain ⟨o1, o2, o3⟩ := hok
  dsimp only at o1 o2 o3 hs hal
  subst hs
  obtain ⟨av, hav⟩ : ∃ v, al.getD q 0 = v := ⟨_, rfl⟩
  have oa := h.wd q
  rw [hav] at oa hal
  have n3 := h.top.cell (i := 3) rfl
  have n4 := h.top.cell (i := 4) rfl
  have i4 := h.nrow.cell (col_get hp)
  have i3 := h.prow.cell (col_get hp)
  rw [hx] at i4 i3
  dsimp only at i4 i3
  have hlx := h.lt b.x (fm_all b).1
  have hlp := h.lt b.pc (fm_all b).2.2.2.2.1
  have hln := h.lt b.nb (fm_all b).2.2.2.2.2.1
  have hlm := h.lt
  have hlr := hR.lt
  obtain ⟨W, rfl⟩ : ∃ W, W = w := ⟨_, rfl⟩
  obtain ⟨D, hD⟩ : ∃ D, W.heap.size = D := ⟨_, rfl⟩
  have HD := Lib.hid hD
  have h1 := h
  have g1 := hR
  have up1 : Upd (fun i => fm b i ∨ R i) W W := Upd.refl _ _
  rw [hD] at hlm hlr
  have HWD := Lib.hid hD
  clear hD
  have hq8 : q ≤ 8 := by omega
  have hq1 : (0 : Int) ≤ (q : Int) := by omega
  have hq2 : (q : Int) < (st.seats.length : Int) := by omega
  have HLM := Lib.hid hlm
  have HLR := Lib.hid hlr
  have HX := Lib.hid hx
  have HAL := Lib.hid hal
  have HAV := Lib.hid hav
  have nx : ¬ R b.x := fun h => hd _ h (fm_all b).1
  have no : ¬ R b.ob := fun h => hd _ h (fm_all b).2.2.2.2.2.2.1
  have HF := Lib.hid hf
  have HK64 := Lib.hid (show n ≤ 64 by omega)
  have HWS := Lib.hid hws
  have HDD := Lib.hid hd
  have HWDD := Lib.hid hwd
  clear hlm hlr hR hd hf hws h hx hn hwd hal hav
  have hu3 : IntKind.u32.wrap kn = kn := by rw [show IntKind.u32.wrap kn = kn % 4294967296 from rfl]; omega
  obtain ⟨cb, hcb⟩ : ∃ x, (Mem.inB q n && Mem.casB st.ws (0) kn) = x := ⟨_, rfl⟩
  have HCB := Lib.hid hcb
  clear hcb
  cases cb with
  | true =>
    go_enter Try.func109, Try.ntmps109
    go_upto_region 3 with (fail)
    clear n3 n4 i4 i3 hlx hlp hln
    have A1 := h1
    obtain ⟨w1, rfl⟩ : ∃ w1, w1 = W := ⟨_, rfl⟩
    have HS := Lib.hid (fun i (hi : R i) => (show (R i ∨ D ≤ i) ∧ ¬ fm b i from ⟨.inl hi, HDD.out i hi⟩))
    have dm : ∀ i, fm b i → i ≠ D ∧ i ≠ D + 1 := fun i hi => by have := HLM.out i hi; exact ⟨by omega, by omega⟩
    clear h1
    have t3 := A1.top.cell (i := 3) rfl
    have s3 := A1.prow.cell (col_get (t := q) (by rw [A1.l1]; exact hq))
    rw [HX.out] at s3
    dsimp only at s3
    have v3 := A1.prow.frozen q
    have A2 : MAt b (w1.setCell ⟨b.pc, q, none⟩ (.int .i64 (3))) c st.seats _ _ := A1.setPc q hq ⟨2, kr, kn, ko⟩ (by rw [HX.out]) ⟨(show (0 : Int) ≤ 2 ∧ (2 : Int) ≤ 8 by decide), o2, o3⟩
    have U2 := Upd.one w1 b.pc q (.int .i64 (3))
    have g2 := g1.keep U2 (fun i hi e => (HS.out i hi).2 (e ▸ (fm_all b).2.2.2.2.1))
    have up2 := up1.trans (U2.mono fun i _ e => .inl (e ▸ (fm_all b).2.2.2.2.1))
    go_upto_region 10 with (fail)
    obtain ⟨w2, hw2⟩ : ∃ w', w1.setCell ⟨b.pc, q, none⟩ (.int .i64 (3)) = w' := ⟨_, rfl⟩
    rw [hw2] at A2 g2 up2 ⊢
    clear hw2 U2 A1 g1 up1 t3 s3 v3
    have HW4 : Hid (D ≤ w2.heap.size) := Lib.hid (by have := HWD.out; have := up2.size; omega)
    have HX2 := Lib.hid (show (st.pls.set q ⟨2, kr, kn, ko⟩).getD q p0 = ⟨2, kr, kn, ko⟩ by rw [pl_at _ _ hp])
    have c1 := A2.top.cell (i := 1) rfl
    clear HS dm
    have KA := Ref04.casR w2 g2 HF.out HK64.out HWS.out q (0) kn 0
    rw [HCB.out, if_pos rfl] at KA
    have HKA := Lib.hid KA
    clear KA
    go_wp2_with fail
    refine HKA.out.mono ?_
    rintro e w5 ⟨rfl, R', hR5, u5, hR5s⟩
    clear c1
    have HS : Hid (∀ i, R' i → (R i ∨ D ≤ i) ∧ ¬ fm b i) := Lib.hid fun i hi => by
      rcases hR5s i hi with h | h
      · exact ⟨.inl h, HDD.out i h⟩
      · have := HW4.out
        have h : w2.heap.size ≤ i := h
        exact ⟨.inr (by omega), fun e => by have := HLM.out i e; omega⟩
    have A5 := A2.keep u5 (fun i hi h => HDD.out i h hi)
    have up5 : Upd (fun i => fm b i ∨ R i) w1 w5 := (up2).trans (u5.mono fun i _ h => .inr h)
    have g5 := hR5
    have dm : ∀ i, fm b i → i ≠ D ∧ i ≠ D + 1 := fun i hi => by have := HLM.out i hi; exact ⟨by omega, by omega⟩
    clear A2 g2 up2
    have t3 := A5.top.cell (i := 3) rfl
    have s3 := A5.prow.cell (col_get (t := q) (by rw [A5.l1]; exact hq))
    rw [HX2.out] at s3
    dsimp only at s3
    have v3 := A5.prow.frozen q
    have A6 : MAt b (w5.setCell ⟨b.pc, q, none⟩ (.int .i64 (6))) c st.seats _ _ := A5.setPc q hq ⟨5, kr, kn, ko⟩ (by rw [HX2.out]) ⟨(show (0 : Int) ≤ 5 ∧ (5 : Int) ≤ 8 by decide), o2, o3⟩
    have U6 := Upd.one w5 b.pc q (.int .i64 (6))
    have g6 := g5.keep U6 (fun i hi e => (HS.out i hi).2 (e ▸ (fm_all b).2.2.2.2.1))
    have up6 := up5.trans (U6.mono fun i _ e => .inl (e ▸ (fm_all b).2.2.2.2.1))
    rw [List.set_set] at A6
    go_upto_region 26 with (fail)
    obtain ⟨w6, hw6⟩ : ∃ w', w5.setCell ⟨b.pc, q, none⟩ (.int .i64 (6)) = w' := ⟨_, rfl⟩
    rw [hw6] at A6 g6 up6 ⊢
    clear hw6 U6 A5 g5 up5 t3 s3 v3
    go_wp2_with fail
    go_ret
    have A99 := A6
    have g99 := g6
    have up99 := up6
    have E : unlS n 0 st q q = (0, { st with pls := st.pls.set q ⟨5, kr, kn, ko⟩, ws := Mem.put st.ws (0) 0, ts := Cache.after n st.ws.length st.ts q (0) true }) := by
      unfold unlS; rw [HX.out]; dsimp only; rw [if_neg (show ¬ ((1 : Int) = 0 ∨ (1 : Int) = 2) by decide), if_pos rfl, HCB.out, if_pos rfl]
    rw [E]
    refine ⟨rfl, _, _, A99, ?_, ?_, ?_, ?_, ?_, ?_, R', g99, up99, fun i hi => (by rw [HD.out]; exact (HS.out i hi).1)⟩
    · first | rfl | simp
    · intro u hu; first | rfl | exact dls_other _ _ hu
    · first | rfl | simp
    · intro u hu; first | rfl | (dsimp only; rw [pl_other _ _ hu, pl_other _ _ hu]) | (dsimp only; rw [pl_other _ _ hu])
    · first | rfl | (dsimp only; done) | (dsimp only; rw [pl_at _ _ hp, pl_at _ _ hp]) | (dsimp only; rw [pl_at _ _ hp, HX.out])
    · intro h0
      first
        | exact absurd h0 (by first | (show ¬ ((1 : Int) = 0); decide) | (show ¬ ((2 : Int) = 0); decide) | (show ¬ ((6 : Int) = 0); decide) | (show ¬ ((3 : Int) = 0); decide))
        | (refine ⟨by first | rfl | (rw [List.set_set]), ?_⟩
           first
             | exact HAL.out.imp id (fun e => HAV.out.trans e)
             | (dsimp only; rw [pl_at _ _ hp]; dsimp only; first | exact .inl rfl | exact .inr (dls_at _ _ hqa) | exact HAL.out.imp id (fun e => HAV.out.trans e) | exact .inr HAV.out)
             | (dsimp only; rw [HX.out]; dsimp only; first | exact HAL.out.imp id (fun e => HAV.out.trans e) | exact .inr HAV.out))
  | false =>
    go_enter Try.func109, Try.ntmps109
    go_upto_region 3 with (fail)
    clear n3 n4 i4 i3 hlx hlp hln
    have A1 := h1
    obtain ⟨w1, rfl⟩ : ∃ w1, w1 = W := ⟨_, rfl⟩
    have HS := Lib.hid (fun i (hi : R i) => (show (R i ∨ D ≤ i) ∧ ¬ fm b i from ⟨.inl hi, HDD.out i hi⟩))
    have dm : ∀ i, fm b i → i ≠ D ∧ i ≠ D + 1 := fun i hi => by have := HLM.out i hi; exact ⟨by omega, by omega⟩
    clear h1
    have t3 := A1.top.cell (i := 3) rfl
    have s3 := A1.prow.cell (col_get (t := q) (by rw [A1.l1]; exact hq))
    rw [HX.out] at s3
    dsimp only at s3
    have v3 := A1.prow.frozen q
    have A2 : MAt b (w1.setCell ⟨b.pc, q, none⟩ (.int .i64 (3))) c st.seats _ _ := A1.setPc q hq ⟨2, kr, kn, ko⟩ (by rw [HX.out]) ⟨(show (0 : Int) ≤ 2 ∧ (2 : Int) ≤ 8 by decide), o2, o3⟩
    have U2 := Upd.one w1 b.pc q (.int .i64 (3))
    have g2 := g1.keep U2 (fun i hi e => (HS.out i hi).2 (e ▸ (fm_all b).2.2.2.2.1))
    have up2 := up1.trans (U2.mono fun i _ e => .inl (e ▸ (fm_all b).2.2.2.2.1))
    go_upto_region 10 with (fail)
    obtain ⟨w2, hw2⟩ : ∃ w', w1.setCell ⟨b.pc, q, none⟩ (.int .i64 (3)) = w' := ⟨_, rfl⟩
    rw [hw2] at A2 g2 up2 ⊢
    clear hw2 U2 A1 g1 up1 t3 s3 v3
    have HW4 : Hid (D ≤ w2.heap.size) := Lib.hid (by have := HWD.out; have := up2.size; omega)
    have HX2 := Lib.hid (show (st.pls.set q ⟨2, kr, kn, ko⟩).getD q p0 = ⟨2, kr, kn, ko⟩ by rw [pl_at _ _ hp])
    have c1 := A2.top.cell (i := 1) rfl
    clear HS dm
    have KA := Ref04.casR w2 g2 HF.out HK64.out HWS.out q (0) kn 0
    rw [HCB.out, if_neg (by decide)] at KA
    have HKA := Lib.hid KA
    clear KA
    go_wp2_with fail
    refine HKA.out.mono ?_
    rintro e w5 ⟨rfl, R', hR5, u5, hR5s⟩
    clear c1
    have HS : Hid (∀ i, R' i → (R i ∨ D ≤ i) ∧ ¬ fm b i) := Lib.hid fun i hi => by
      rcases hR5s i hi with h | h
      · exact ⟨.inl h, HDD.out i h⟩
      · have := HW4.out
        have h : w2.heap.size ≤ i := h
        exact ⟨.inr (by omega), fun e => by have := HLM.out i e; omega⟩
    have A5 := A2.keep u5 (fun i hi h => HDD.out i h hi)
    have up5 : Upd (fun i => fm b i ∨ R i) w1 w5 := (up2).trans (u5.mono fun i _ h => .inr h)
    have g5 := hR5
    have dm : ∀ i, fm b i → i ≠ D ∧ i ≠ D + 1 := fun i hi => by have := HLM.out i hi; exact ⟨by omega, by omega⟩
    clear A2 g2 up2
    go_wp2_with fail
    go_ret
    have A99 := A5
    have g99 := g5
    have up99 := up5
    have E : unlS n 0 st q q = (0, { st with pls := st.pls.set q ⟨2, kr, kn, ko⟩, ts := Cache.after n st.ws.length st.ts q (0) true }) := by
      unfold unlS; rw [HX.out]; dsimp only; rw [if_neg (show ¬ ((1 : Int) = 0 ∨ (1 : Int) = 2) by decide), if_pos rfl, HCB.out, if_neg (by decide)]
    rw [E]
    refine ⟨rfl, _, _, A99, ?_, ?_, ?_, ?_, ?_, ?_, R', g99, up99, fun i hi => (by rw [HD.out]; exact (HS.out i hi).1)⟩
    · first | rfl | simp
    · intro u hu; first | rfl | exact dls_other _ _ hu
    · first | rfl | simp
    · intro u hu; first | rfl | (dsimp only; rw [pl_other _ _ hu, pl_other _ _ hu]) | (dsimp only; rw [pl_other _ _ hu])
    · first | rfl | (dsimp only; done) | (dsimp only; rw [pl_at _ _ hp, pl_at _ _ hp]) | (dsimp only; rw [pl_at _ _ hp, HX.out])
    · intro h0
      first
        | exact absurd h0 (by first | (show ¬ ((1 : Int) = 0); decide) | (show ¬ ((2 : Int) = 0); decide) | (show ¬ ((6 : Int) = 0); decide) | (show ¬ ((3 : Int) = 0); decide))
        | (refine ⟨by first | rfl | (rw [List.set_set]), ?_⟩
           first
             | exact HAL.out.imp id (fun e => HAV.out.trans e)
             | (dsimp only; rw [pl_at _ _ hp]; dsimp only; first | exact .inl rfl | exact .inr (dls_at _ _ hqa) | exact HAL.out.imp id (fun e => HAV.out.trans e) | exact .inr HAV.out)
             | (dsimp only; rw [HX.out]; dsimp only; first | exact HAL.out.imp id (fun e => HAV.out.trans e) | exact .inr HAV.out))
set_option maxHeartbeats 16000000 in
set_option maxRecDepth 20000 in
theorem unl2 {w : World} {st : St} {al : List Int} {y n q : Nat} {R : Nat → Prop} (h : MAt b w c st.seats st.pls al) (hR : Ref04.RO w y R n st.ws st.ts) (hd : ∀ i, R i → ¬ fm b i) (hf : st.ts.length < 1000000) (n8 : n ≤ 8) (hn : st.seats.length = n) (hws : st.ws.length ≤ 100000) (hwd : Mem.Wd st.ws) (hq : q < st.seats.length) (hal : (st.pls.getD q p0).o = 0 ∨ al.getD q 0 = (st.pls.getD q p0).o) (hs : (st.pls.getD q p0).s = 2) :
    Calls Try.prog 109 #[.pointer (some ⟨b.x, 0, none⟩), .pointer (some ⟨y, 0, none⟩), .int .i64 q, .int .i64 q] w fun e w' =>
      e = .returned (.int .i64 (unlS n 0 st q q).1) ∧ Post b c y n R st.seats al q w (unlS n 0 st q q).1 (unlS n 0 st q q).2 w' := by
  have hp : q < st.pls.length := by rw [h.l1]; exact hq
  have hqa : q < al.length := by rw [h.l2]; exact hq
  have hok := h.ok q hp
  obtain ⟨⟨ks, kr, kn, ko⟩, hx⟩ : ∃ x, st.pls.getD q p0 = x := ⟨_, rfl⟩
  rw [hx] at hok hs hal
  obtain ⟨o1, o2, o3⟩ := hok
  dsimp only at o1 o2 o3 hs hal
  subst hs
  obtain ⟨av, hav⟩ : ∃ v, al.getD q 0 = v := ⟨_, rfl⟩
  have oa := h.wd q
  rw [hav] at oa hal
  have n3 := h.top.cell (i := 3) rfl
  have n4 := h.top.cell (i := 4) rfl
  have i4 := h.nrow.cell (col_get hp)
  have i3 := h.prow.cell (col_get hp)
  rw [hx] at i4 i3
  dsimp only at i4 i3
  have hlx := h.lt b.x (fm_all b).1
  have hlp := h.lt b.pc (fm_all b).2.2.2.2.1
  have hln := h.lt b.nb (fm_all b).2.2.2.2.2.1
  have hlm := h.lt
  have hlr := hR.lt
  obtain ⟨W, rfl⟩ : ∃ W, W = w := ⟨_, rfl⟩
  obtain ⟨D, hD⟩ : ∃ D, W.heap.size = D := ⟨_, rfl⟩
  have HD := Lib.hid hD
  have h1 := h
  have g1 := hR
  have up1 : Upd (fun i => fm b i ∨ R i) W W := Upd.refl _ _
  rw [hD] at hlm hlr
  have HWD := Lib.hid hD
  clear hD
  have hq8 : q ≤ 8 := by omega
  have hq1 : (0 : Int) ≤ (q : Int) := by omega
  have hq2 : (q : Int) < (st.seats.length : Int) := by omega
  have HLM := Lib.hid hlm
  have HLR := Lib.hid hlr
  have HX := Lib.hid hx
  have HAL := Lib.hid hal
  have HAV := Lib.hid hav
  have nx : ¬ R b.x := fun h => hd _ h (fm_all b).1
  have no : ¬ R b.ob := fun h => hd _ h (fm_all b).2.2.2.2.2.2.1
  have HF := Lib.hid hf
  have HK64 := Lib.hid (show n ≤ 64 by omega)
  have HWS := Lib.hid hws
  have HDD := Lib.hid hd
  have HWDD := Lib.hid hwd
  clear hlm hlr hR hd hf hws h hx hn hwd hal hav
  have c1 := h1.top.cell (i := 1) rfl
  have c5a := h1.top.cell (i := 5) rfl
  have m0 := h1.orow.cell (ints_get (k := .i64) hqa)
  have KDnv := wdC (b := b) (w := W.drew) c1 kn 1 o3 (by decide)
  obtain ⟨nv, hnvnv⟩ : ∃ nv, stA 0 kn + 1 = nv := ⟨_, rfl⟩
  rw [hnvnv] at KDnv
  have HNVnv := Lib.hid hnvnv
  have HKDnv := Lib.hid KDnv
  clear KDnv hnvnv
  obtain ⟨g, hg⟩ : ∃ g, rd n st.ws q (nv) = g := ⟨_, rfl⟩
  have hgw := rd_wd HWDD.out n q (nv)
  rw [hg] at hgw
  have hgi : IntKind.i64.wrap g = g := IntWalk.i64_in _ (by omega)
  have KA := Ref04.loadR W.drew (g1.drewN 1) HF.out HK64.out HWS.out q (nv)
  rw [hg] at KA
  have HKA := Lib.hid KA
  clear KA
  go_enter Try.func109, Try.ntmps109
  go_upto_region 3 with (fail)
  clear n3 n4 i4 i3 hlx hlp hln
  go_wp2_with fail
  go_region_held3 (fun w' => w'.cell? ⟨b.x, 5, none⟩ = some (.slice (some ⟨b.ob, 0, none⟩) st.seats.length st.seats.length)) ((first | exact c5a | exact e5 | exact f5))
    ((first
      | (go_at_call 107; refine HKDnv.out.mono ?_; rintro e w' ⟨rfl, rfl⟩)
      | (go_at_call 111; refine HKA.out.mono ?_; rintro e w5 ⟨rfl, R', hR5, u5, hR5s⟩; have e5 := cell_upd u5 c5a nx; have A5' := (h1.keep ((Upd.refl (fun _ => False) W).drewN 1) (fun _ _ => id)).keep u5 (fun i hi h => HDD.out i h hi); have m5 := cell_upd u5 m0 no; have fz5 := A5'.orow.frozen q; have A6' := A5'.setOt q g hgw; have f5 := A6'.top.cell (i := 5) rfl)))
  clear e5 A5' A6' m5 fz5 f5 c1 c5a m0
  have HS : Hid (∀ i, R' i → (R i ∨ D ≤ i) ∧ ¬ fm b i) := Lib.hid fun i hi => by
    rcases hR5s i hi with h | h
    · exact ⟨.inl h, HDD.out i h⟩
    · have := HWD.out
      have h : W.heap.size ≤ i := h
      exact ⟨.inr (by omega), fun e => by have := HLM.out i e; omega⟩
  have A5 := (h1.keep ((Upd.refl (fun _ => False) W).drewN 1) (fun _ _ => id)).keep u5 (fun i hi h => HDD.out i h hi)
  have up5 : Upd (fun i => fm b i ∨ R i) W w5 := (up1.drewN 1).trans (u5.mono fun i _ h => .inr h)
  have g5 := hR5
  have dm : ∀ i, fm b i → i ≠ D ∧ i ≠ D + 1 := fun i hi => by have := HLM.out i hi; exact ⟨by omega, by omega⟩
  have A6 := A5.setOt q g hgw
  have U6 := Upd.one w5 b.ob q (.int .i64 (g))
  have g6 := g5.keep U6 (fun i hi e => (HS.out i hi).2 (e ▸ (fm_all b).2.2.2.2.2.2.1))
  have up6 := up5.trans (U6.mono fun i _ e => .inl (e ▸ (fm_all b).2.2.2.2.2.2.1))
  obtain ⟨w6, hw6⟩ : ∃ w', w5.setCell ⟨b.ob, q, none⟩ (.int .i64 (g)) = w' := ⟨_, rfl⟩
  rw [hw6] at A6 g6 up6 ⊢
  clear hw6 U6 A5 g5 up5
  have c5 := A6.top.cell (i := 5) rfl
  have b5 := A6.orow.cell (ints_get (k := .i64) (by rw [A6.l2]; exact hq))
  rw [dls_at _ _ hqa] at b5
  by_cases hg0 : g = 0
  · subst hg0
    have A98 := A6.other q ⟨2, kr, kn, 0⟩ hp (by rw [HX.out]) (by rw [HX.out]) (by rw [HX.out])
    clear A6
    have A6 := A98
    go_wp2_with fail
    go_ret
    have A99 := A6
    have g99 := g6
    have up99 := up6
    have E : unlS n 0 st q q = (0, { st with pls := st.pls.set q ⟨2, kr, kn, 0⟩, ts := Cache.after n st.ws.length st.ts q (nv) false }) := by
      unfold unlS; rw [HX.out]; dsimp only; rw [if_pos (show (2 : Int) = 0 ∨ (2 : Int) = 2 by decide), HNVnv.out, hg, if_neg (by decide), if_neg (by decide)]
    rw [E]
    refine ⟨rfl, _, _, A99, ?_, ?_, ?_, ?_, ?_, ?_, R', g99, up99, fun i hi => (by rw [HD.out]; exact (HS.out i hi).1)⟩
    · first | rfl | simp
    · intro u hu; first | rfl | exact dls_other _ _ hu
    · first | rfl | simp
    · intro u hu; first | rfl | (dsimp only; rw [pl_other _ _ hu, pl_other _ _ hu]) | (dsimp only; rw [pl_other _ _ hu])
    · first | rfl | (dsimp only; done) | (dsimp only; rw [pl_at _ _ hp, pl_at _ _ hp]) | (dsimp only; rw [pl_at _ _ hp, HX.out])
    · intro h0
      first
        | exact absurd h0 (by first | (show ¬ ((1 : Int) = 0); decide) | (show ¬ ((2 : Int) = 0); decide) | (show ¬ ((6 : Int) = 0); decide) | (show ¬ ((3 : Int) = 0); decide))
        | (refine ⟨by first | rfl | (rw [List.set_set]), ?_⟩
           first
             | exact HAL.out.imp id (fun e => HAV.out.trans e)
             | (dsimp only; rw [pl_at _ _ hp]; dsimp only; first | exact .inl rfl | exact .inr (dls_at _ _ hqa) | exact HAL.out.imp id (fun e => HAV.out.trans e) | exact .inr HAV.out)
             | (dsimp only; rw [HX.out]; dsimp only; first | exact HAL.out.imp id (fun e => HAV.out.trans e) | exact .inr HAV.out))
  · have hg0' : (g != 0) = true := by simpa using hg0
    have t3 := A6.top.cell (i := 3) rfl
    have s3 := A6.prow.cell (col_get (t := q) (by rw [A6.l1]; exact hq))
    rw [HX.out] at s3
    dsimp only at s3
    have v3 := A6.prow.frozen q
    have A8 : MAt b (w6.setCell ⟨b.pc, q, none⟩ (.int .i64 (4))) c st.seats _ _ := A6.setPc q hq ⟨3, kr, kn, g⟩ (by rw [HX.out]) ⟨(show (0 : Int) ≤ 3 ∧ (3 : Int) ≤ 8 by decide), o2, o3⟩
    have U8 := Upd.one w6 b.pc q (.int .i64 (4))
    have g8 := g6.keep U8 (fun i hi e => (HS.out i hi).2 (e ▸ (fm_all b).2.2.2.2.1))
    have up8 := up6.trans (U8.mono fun i _ e => .inl (e ▸ (fm_all b).2.2.2.2.1))
    go_upto_region 26 with (fail)
    obtain ⟨w8, hw8⟩ : ∃ w', w6.setCell ⟨b.pc, q, none⟩ (.int .i64 (4)) = w' := ⟨_, rfl⟩
    rw [hw8] at A8 g8 up8 ⊢
    clear hw8 U8 A6 g6 up6 t3 s3 v3 c5 b5
    go_wp2_with fail
    go_ret
    have A99 := A8
    have g99 := g8
    have up99 := up8
    have E : unlS n 0 st q q = (0, { st with pls := st.pls.set q ⟨3, kr, kn, g⟩, ts := Cache.after n st.ws.length st.ts q (nv) false }) := by
      unfold unlS; rw [HX.out]; dsimp only; rw [if_pos (show (2 : Int) = 0 ∨ (2 : Int) = 2 by decide), HNVnv.out, hg, if_pos hg0]
    rw [E]
    refine ⟨rfl, _, _, A99, ?_, ?_, ?_, ?_, ?_, ?_, R', g99, up99, fun i hi => (by rw [HD.out]; exact (HS.out i hi).1)⟩
    · first | rfl | simp
    · intro u hu; first | rfl | exact dls_other _ _ hu
    · first | rfl | simp
    · intro u hu; first | rfl | (dsimp only; rw [pl_other _ _ hu, pl_other _ _ hu]) | (dsimp only; rw [pl_other _ _ hu])
    · first | rfl | (dsimp only; done) | (dsimp only; rw [pl_at _ _ hp, pl_at _ _ hp]) | (dsimp only; rw [pl_at _ _ hp, HX.out])
    · intro h0
      first
        | exact absurd h0 (by first | (show ¬ ((1 : Int) = 0); decide) | (show ¬ ((2 : Int) = 0); decide) | (show ¬ ((6 : Int) = 0); decide) | (show ¬ ((3 : Int) = 0); decide))
        | (refine ⟨by first | rfl | (rw [List.set_set]), ?_⟩
           first
             | exact HAL.out.imp id (fun e => HAV.out.trans e)
             | (dsimp only; rw [pl_at _ _ hp]; dsimp only; first | exact .inl rfl | exact .inr (dls_at _ _ hqa) | exact HAL.out.imp id (fun e => HAV.out.trans e) | exact .inr HAV.out)
             | (dsimp only; rw [HX.out]; dsimp only; first | exact HAL.out.imp id (fun e => HAV.out.trans e) | exact .inr HAV.out))
set_option maxHeartbeats 16000000 in
set_option maxRecDepth 20000 in
theorem unl3 {w : World} {st : St} {al : List Int} {y n q : Nat} {R : Nat → Prop} (h : MAt b w c st.seats st.pls al) (hR : Ref04.RO w y R n st.ws st.ts) (hd : ∀ i, R i → ¬ fm b i) (hf : st.ts.length < 1000000) (n8 : n ≤ 8) (hn : st.seats.length = n) (hws : st.ws.length ≤ 100000) (hwd : Mem.Wd st.ws) (hq : q < st.seats.length) (hal : (st.pls.getD q p0).o = 0 ∨ al.getD q 0 = (st.pls.getD q p0).o) (hne : (st.pls.getD q p0).o ≠ 0) (hs : (st.pls.getD q p0).s = 3) :
    Calls Try.prog 109 #[.pointer (some ⟨b.x, 0, none⟩), .pointer (some ⟨y, 0, none⟩), .int .i64 q, .int .i64 q] w fun e w' =>
      e = .returned (.int .i64 (unlS n 0 st q q).1) ∧ Post b c y n R st.seats al q w (unlS n 0 st q q).1 (unlS n 0 st q q).2 w' := by
  have hp : q < st.pls.length := by rw [h.l1]; exact hq
  have hqa : q < al.length := by rw [h.l2]; exact hq
  have hok := h.ok q hp
  obtain ⟨⟨ks, kr, kn, ko⟩, hx⟩ : ∃ x, st.pls.getD q p0 = x := ⟨_, rfl⟩
  rw [hx] at hok hs hal hne
  obtain ⟨o1, o2, o3⟩ := hok
  dsimp only at o1 o2 o3 hs hal hne
  subst hs
  obtain ⟨av, hav⟩ : ∃ v, al.getD q 0 = v := ⟨_, rfl⟩
  have oa := h.wd q
  rw [hav] at oa hal
  have hao : av = ko := hal.resolve_left hne
  subst hao
  have n3 := h.top.cell (i := 3) rfl
  have n4 := h.top.cell (i := 4) rfl
  have i4 := h.nrow.cell (col_get hp)
  have i3 := h.prow.cell (col_get hp)
  rw [hx] at i4 i3
  dsimp only at i4 i3
  have hlx := h.lt b.x (fm_all b).1
  have hlp := h.lt b.pc (fm_all b).2.2.2.2.1
  have hln := h.lt b.nb (fm_all b).2.2.2.2.2.1
  have hlm := h.lt
  have hlr := hR.lt
  obtain ⟨W, rfl⟩ : ∃ W, W = w := ⟨_, rfl⟩
  obtain ⟨D, hD⟩ : ∃ D, W.heap.size = D := ⟨_, rfl⟩
  have HD := Lib.hid hD
  have h1 := h
  have g1 := hR
  have up1 : Upd (fun i => fm b i ∨ R i) W W := Upd.refl _ _
  rw [hD] at hlm hlr
  have HWD := Lib.hid hD
  clear hD
  have hq8 : q ≤ 8 := by omega
  have hq1 : (0 : Int) ≤ (q : Int) := by omega
  have hq2 : (q : Int) < (st.seats.length : Int) := by omega
  have HLM := Lib.hid hlm
  have HLR := Lib.hid hlr
  have HX := Lib.hid hx
  have HAL := Lib.hid hal
  have HAV := Lib.hid hav
  have nx : ¬ R b.x := fun h => hd _ h (fm_all b).1
  have no : ¬ R b.ob := fun h => hd _ h (fm_all b).2.2.2.2.2.2.1
  have HF := Lib.hid hf
  have HK64 := Lib.hid (show n ≤ 64 by omega)
  have HWS := Lib.hid hws
  have HDD := Lib.hid hd
  have HWDD := Lib.hid hwd
  clear hlm hlr hR hd hf hws h hx hn hwd hal hav
  obtain ⟨nv, hnv⟩ : ∃ nv, stA 0 av + 0 = nv := ⟨_, rfl⟩
  have HNVnv := Lib.hid hnv
  have HNZ : Hid (stA 0 av = nv) := Lib.hid (by omega)
  clear hnv
  obtain ⟨cb, hcb⟩ : ∃ x, (Mem.inB q n && Mem.casB st.ws (nv) 0) = x := ⟨_, rfl⟩
  have HCB := Lib.hid hcb
  clear hcb
  cases cb with
  | true =>
    go_enter Try.func109, Try.ntmps109
    go_upto_region 3 with (fail)
    clear n3 n4 i4 i3 hlx hlp hln
    have A1 := h1
    obtain ⟨w1, rfl⟩ : ∃ w1, w1 = W := ⟨_, rfl⟩
    have HS := Lib.hid (fun i (hi : R i) => (show (R i ∨ D ≤ i) ∧ ¬ fm b i from ⟨.inl hi, HDD.out i hi⟩))
    have dm : ∀ i, fm b i → i ≠ D ∧ i ≠ D + 1 := fun i hi => by have := HLM.out i hi; exact ⟨by omega, by omega⟩
    clear h1
    have t3 := A1.top.cell (i := 3) rfl
    have s3 := A1.prow.cell (col_get (t := q) (by rw [A1.l1]; exact hq))
    rw [HX.out] at s3
    dsimp only at s3
    have v3 := A1.prow.frozen q
    have A2 : MAt b (w1.setCell ⟨b.pc, q, none⟩ (.int .i64 (5))) c st.seats _ _ := A1.setPc q hq ⟨4, kr, kn, av⟩ (by rw [HX.out]) ⟨(show (0 : Int) ≤ 4 ∧ (4 : Int) ≤ 8 by decide), o2, o3⟩
    have U2 := Upd.one w1 b.pc q (.int .i64 (5))
    have g2 := g1.keep U2 (fun i hi e => (HS.out i hi).2 (e ▸ (fm_all b).2.2.2.2.1))
    have up2 := up1.trans (U2.mono fun i _ e => .inl (e ▸ (fm_all b).2.2.2.2.1))
    go_upto_region 18 with (fail)
    obtain ⟨w2, hw2⟩ : ∃ w', w1.setCell ⟨b.pc, q, none⟩ (.int .i64 (5)) = w' := ⟨_, rfl⟩
    rw [hw2] at A2 g2 up2 ⊢
    clear hw2 U2 A1 g1 up1 t3 s3 v3
    have HW4 : Hid (D ≤ w2.heap.size) := Lib.hid (by have := HWD.out; have := up2.size; omega)
    have HX2 := Lib.hid (show (st.pls.set q ⟨4, kr, kn, av⟩).getD q p0 = ⟨4, kr, kn, av⟩ by rw [pl_at _ _ hp])
    have c1 := A2.top.cell (i := 1) rfl
    clear HS dm
    have c5 := A2.top.cell (i := 5) rfl
    have b5 := A2.orow.cell (ints_get (k := .i64) hqa)
    rw [HAV.out] at b5
    have KD := wdC (b := b) (w := w2) c1 av 0 oa (by decide)
    rw [HNVnv.out] at KD
    have HKDnv := Lib.hid KD
    clear KD
    have KA := Ref04.casR w2 g2 HF.out HK64.out HWS.out q (nv) 0 1
    rw [HCB.out, if_pos rfl] at KA
    have HKA := Lib.hid KA
    clear KA
    go_wp2_with fail
    refine HKDnv.out.mono ?_
    rintro e w' ⟨rfl, rfl⟩
    go_wp2_with fail
    refine HKA.out.mono ?_
    rintro e w5 ⟨rfl, R', hR5, u5, hR5s⟩
    clear c1 c5 b5
    have HS : Hid (∀ i, R' i → (R i ∨ D ≤ i) ∧ ¬ fm b i) := Lib.hid fun i hi => by
      rcases hR5s i hi with h | h
      · exact ⟨.inl h, HDD.out i h⟩
      · have := HW4.out
        have h : w2.heap.size ≤ i := h
        exact ⟨.inr (by omega), fun e => by have := HLM.out i e; omega⟩
    have A5 := A2.keep u5 (fun i hi h => HDD.out i h hi)
    have up5 : Upd (fun i => fm b i ∨ R i) w1 w5 := (up2).trans (u5.mono fun i _ h => .inr h)
    have g5 := hR5
    have dm : ∀ i, fm b i → i ≠ D ∧ i ≠ D + 1 := fun i hi => by have := HLM.out i hi; exact ⟨by omega, by omega⟩
    clear A2 g2 up2
    have t3 := A5.top.cell (i := 3) rfl
    have s3 := A5.prow.cell (col_get (t := q) (by rw [A5.l1]; exact hq))
    rw [HX2.out] at s3
    dsimp only at s3
    have v3 := A5.prow.frozen q
    have A6 : MAt b (w5.setCell ⟨b.pc, q, none⟩ (.int .i64 (6))) c st.seats _ _ := A5.setPc q hq ⟨5, kr, kn, av⟩ (by rw [HX2.out]) ⟨(show (0 : Int) ≤ 5 ∧ (5 : Int) ≤ 8 by decide), o2, o3⟩
    have U6 := Upd.one w5 b.pc q (.int .i64 (6))
    have g6 := g5.keep U6 (fun i hi e => (HS.out i hi).2 (e ▸ (fm_all b).2.2.2.2.1))
    have up6 := up5.trans (U6.mono fun i _ e => .inl (e ▸ (fm_all b).2.2.2.2.1))
    rw [List.set_set] at A6
    go_upto_region 26 with (fail)
    obtain ⟨w6, hw6⟩ : ∃ w', w5.setCell ⟨b.pc, q, none⟩ (.int .i64 (6)) = w' := ⟨_, rfl⟩
    rw [hw6] at A6 g6 up6 ⊢
    clear hw6 U6 A5 g5 up5 t3 s3 v3
    go_wp2_with fail
    go_ret
    have A99 := A6
    have g99 := g6
    have up99 := up6
    have E : unlS n 0 st q q = (0, { st with pls := st.pls.set q ⟨5, kr, kn, av⟩, ws := Mem.put st.ws (nv) 1, ts := Cache.after n st.ws.length st.ts q (nv) true }) := by
      unfold unlS; rw [HX.out]; dsimp only; rw [if_neg (show ¬ ((3 : Int) = 0 ∨ (3 : Int) = 2) by decide), if_neg (show ¬ ((3 : Int) = 1) by decide), if_pos rfl, HNZ.out, HCB.out, if_pos rfl]
    rw [E]
    refine ⟨rfl, _, _, A99, ?_, ?_, ?_, ?_, ?_, ?_, R', g99, up99, fun i hi => (by rw [HD.out]; exact (HS.out i hi).1)⟩
    · first | rfl | simp
    · intro u hu; first | rfl | exact dls_other _ _ hu
    · first | rfl | simp
    · intro u hu; first | rfl | (dsimp only; rw [pl_other _ _ hu, pl_other _ _ hu]) | (dsimp only; rw [pl_other _ _ hu])
    · first | rfl | (dsimp only; done) | (dsimp only; rw [pl_at _ _ hp, pl_at _ _ hp]) | (dsimp only; rw [pl_at _ _ hp, HX.out])
    · intro h0
      first
        | exact absurd h0 (by first | (show ¬ ((1 : Int) = 0); decide) | (show ¬ ((2 : Int) = 0); decide) | (show ¬ ((6 : Int) = 0); decide) | (show ¬ ((3 : Int) = 0); decide))
        | (refine ⟨by first | rfl | (rw [List.set_set]), ?_⟩
           first
             | exact HAL.out.imp id (fun e => HAV.out.trans e)
             | (dsimp only; rw [pl_at _ _ hp]; dsimp only; first | exact .inl rfl | exact .inr (dls_at _ _ hqa) | exact HAL.out.imp id (fun e => HAV.out.trans e) | exact .inr HAV.out)
             | (dsimp only; rw [HX.out]; dsimp only; first | exact HAL.out.imp id (fun e => HAV.out.trans e) | exact .inr HAV.out))
  | false =>
    go_enter Try.func109, Try.ntmps109
    go_upto_region 3 with (fail)
    clear n3 n4 i4 i3 hlx hlp hln
    have A1 := h1
    obtain ⟨w1, rfl⟩ : ∃ w1, w1 = W := ⟨_, rfl⟩
    have HS := Lib.hid (fun i (hi : R i) => (show (R i ∨ D ≤ i) ∧ ¬ fm b i from ⟨.inl hi, HDD.out i hi⟩))
    have dm : ∀ i, fm b i → i ≠ D ∧ i ≠ D + 1 := fun i hi => by have := HLM.out i hi; exact ⟨by omega, by omega⟩
    clear h1
    have t3 := A1.top.cell (i := 3) rfl
    have s3 := A1.prow.cell (col_get (t := q) (by rw [A1.l1]; exact hq))
    rw [HX.out] at s3
    dsimp only at s3
    have v3 := A1.prow.frozen q
    have A2 : MAt b (w1.setCell ⟨b.pc, q, none⟩ (.int .i64 (5))) c st.seats _ _ := A1.setPc q hq ⟨4, kr, kn, av⟩ (by rw [HX.out]) ⟨(show (0 : Int) ≤ 4 ∧ (4 : Int) ≤ 8 by decide), o2, o3⟩
    have U2 := Upd.one w1 b.pc q (.int .i64 (5))
    have g2 := g1.keep U2 (fun i hi e => (HS.out i hi).2 (e ▸ (fm_all b).2.2.2.2.1))
    have up2 := up1.trans (U2.mono fun i _ e => .inl (e ▸ (fm_all b).2.2.2.2.1))
    go_upto_region 18 with (fail)
    obtain ⟨w2, hw2⟩ : ∃ w', w1.setCell ⟨b.pc, q, none⟩ (.int .i64 (5)) = w' := ⟨_, rfl⟩
    rw [hw2] at A2 g2 up2 ⊢
    clear hw2 U2 A1 g1 up1 t3 s3 v3
    have HW4 : Hid (D ≤ w2.heap.size) := Lib.hid (by have := HWD.out; have := up2.size; omega)
    have HX2 := Lib.hid (show (st.pls.set q ⟨4, kr, kn, av⟩).getD q p0 = ⟨4, kr, kn, av⟩ by rw [pl_at _ _ hp])
    have c1 := A2.top.cell (i := 1) rfl
    clear HS dm
    have c5 := A2.top.cell (i := 5) rfl
    have b5 := A2.orow.cell (ints_get (k := .i64) hqa)
    rw [HAV.out] at b5
    have KD := wdC (b := b) (w := w2) c1 av 0 oa (by decide)
    rw [HNVnv.out] at KD
    have HKDnv := Lib.hid KD
    clear KD
    have KA := Ref04.casR w2 g2 HF.out HK64.out HWS.out q (nv) 0 1
    rw [HCB.out, if_neg (by decide)] at KA
    have HKA := Lib.hid KA
    clear KA
    go_wp2_with fail
    refine HKDnv.out.mono ?_
    rintro e w' ⟨rfl, rfl⟩
    go_wp2_with fail
    refine HKA.out.mono ?_
    rintro e w5 ⟨rfl, R', hR5, u5, hR5s⟩
    clear c1 c5 b5
    have HS : Hid (∀ i, R' i → (R i ∨ D ≤ i) ∧ ¬ fm b i) := Lib.hid fun i hi => by
      rcases hR5s i hi with h | h
      · exact ⟨.inl h, HDD.out i h⟩
      · have := HW4.out
        have h : w2.heap.size ≤ i := h
        exact ⟨.inr (by omega), fun e => by have := HLM.out i e; omega⟩
    have A5 := A2.keep u5 (fun i hi h => HDD.out i h hi)
    have up5 : Upd (fun i => fm b i ∨ R i) w1 w5 := (up2).trans (u5.mono fun i _ h => .inr h)
    have g5 := hR5
    have dm : ∀ i, fm b i → i ≠ D ∧ i ≠ D + 1 := fun i hi => by have := HLM.out i hi; exact ⟨by omega, by omega⟩
    clear A2 g2 up2
    go_wp2_with fail
    go_ret
    have A99 := A5
    have g99 := g5
    have up99 := up5
    have E : unlS n 0 st q q = (0, { st with pls := st.pls.set q ⟨4, kr, kn, av⟩, ts := Cache.after n st.ws.length st.ts q (nv) true }) := by
      unfold unlS; rw [HX.out]; dsimp only; rw [if_neg (show ¬ ((3 : Int) = 0 ∨ (3 : Int) = 2) by decide), if_neg (show ¬ ((3 : Int) = 1) by decide), if_pos rfl, HNZ.out, HCB.out, if_neg (by decide)]
    rw [E]
    refine ⟨rfl, _, _, A99, ?_, ?_, ?_, ?_, ?_, ?_, R', g99, up99, fun i hi => (by rw [HD.out]; exact (HS.out i hi).1)⟩
    · first | rfl | simp
    · intro u hu; first | rfl | exact dls_other _ _ hu
    · first | rfl | simp
    · intro u hu; first | rfl | (dsimp only; rw [pl_other _ _ hu, pl_other _ _ hu]) | (dsimp only; rw [pl_other _ _ hu])
    · first | rfl | (dsimp only; done) | (dsimp only; rw [pl_at _ _ hp, pl_at _ _ hp]) | (dsimp only; rw [pl_at _ _ hp, HX.out])
    · intro h0
      first
        | exact absurd h0 (by first | (show ¬ ((1 : Int) = 0); decide) | (show ¬ ((2 : Int) = 0); decide) | (show ¬ ((6 : Int) = 0); decide) | (show ¬ ((3 : Int) = 0); decide))
        | (refine ⟨by first | rfl | (rw [List.set_set]), ?_⟩
           first
             | exact HAL.out.imp id (fun e => HAV.out.trans e)
             | (dsimp only; rw [pl_at _ _ hp]; dsimp only; first | exact .inl rfl | exact .inr (dls_at _ _ hqa) | exact HAL.out.imp id (fun e => HAV.out.trans e) | exact .inr HAV.out)
             | (dsimp only; rw [HX.out]; dsimp only; first | exact HAL.out.imp id (fun e => HAV.out.trans e) | exact .inr HAV.out))
set_option maxHeartbeats 16000000 in
set_option maxRecDepth 20000 in
theorem unl4 {w : World} {st : St} {al : List Int} {y n q : Nat} {R : Nat → Prop} (h : MAt b w c st.seats st.pls al) (hR : Ref04.RO w y R n st.ws st.ts) (hd : ∀ i, R i → ¬ fm b i) (hf : st.ts.length < 1000000) (n8 : n ≤ 8) (hn : st.seats.length = n) (hws : st.ws.length ≤ 100000) (hwd : Mem.Wd st.ws) (hq : q < st.seats.length) (hal : (st.pls.getD q p0).o = 0 ∨ al.getD q 0 = (st.pls.getD q p0).o) (hne : (st.pls.getD q p0).o ≠ 0) (hr0 : (st.pls.getD q p0).r = 0) (hs : (st.pls.getD q p0).s = 4) :
    Calls Try.prog 109 #[.pointer (some ⟨b.x, 0, none⟩), .pointer (some ⟨y, 0, none⟩), .int .i64 q, .int .i64 q] w fun e w' =>
      e = .returned (.int .i64 (unlS n 0 st q q).1) ∧ Post b c y n R st.seats al q w (unlS n 0 st q q).1 (unlS n 0 st q q).2 w' := by
  have hp : q < st.pls.length := by rw [h.l1]; exact hq
  have hqa : q < al.length := by rw [h.l2]; exact hq
  have hok := h.ok q hp
  obtain ⟨⟨ks, kr, kn, ko⟩, hx⟩ : ∃ x, st.pls.getD q p0 = x := ⟨_, rfl⟩
  rw [hx] at hok hs hal hne hr0
  obtain ⟨o1, o2, o3⟩ := hok
  dsimp only at o1 o2 o3 hs hal hne hr0
  subst hs
  obtain ⟨av, hav⟩ : ∃ v, al.getD q 0 = v := ⟨_, rfl⟩
  have oa := h.wd q
  rw [hav] at oa hal
  have hao : av = ko := hal.resolve_left hne
  subst hao hr0
  have n3 := h.top.cell (i := 3) rfl
  have n4 := h.top.cell (i := 4) rfl
  have i4 := h.nrow.cell (col_get hp)
  have i3 := h.prow.cell (col_get hp)
  rw [hx] at i4 i3
  dsimp only at i4 i3
  have hlx := h.lt b.x (fm_all b).1
  have hlp := h.lt b.pc (fm_all b).2.2.2.2.1
  have hln := h.lt b.nb (fm_all b).2.2.2.2.2.1
  have hlm := h.lt
  have hlr := hR.lt
  obtain ⟨W, rfl⟩ : ∃ W, W = w := ⟨_, rfl⟩
  obtain ⟨D, hD⟩ : ∃ D, W.heap.size = D := ⟨_, rfl⟩
  have HD := Lib.hid hD
  have h1 := h
  have g1 := hR
  have up1 : Upd (fun i => fm b i ∨ R i) W W := Upd.refl _ _
  rw [hD] at hlm hlr
  have HWD := Lib.hid hD
  clear hD
  have hq8 : q ≤ 8 := by omega
  have hq1 : (0 : Int) ≤ (q : Int) := by omega
  have hq2 : (q : Int) < (st.seats.length : Int) := by omega
  have HLM := Lib.hid hlm
  have HLR := Lib.hid hlr
  have HX := Lib.hid hx
  have HAL := Lib.hid hal
  have HAV := Lib.hid hav
  have nx : ¬ R b.x := fun h => hd _ h (fm_all b).1
  have no : ¬ R b.ob := fun h => hd _ h (fm_all b).2.2.2.2.2.2.1
  have HF := Lib.hid hf
  have HK64 := Lib.hid (show n ≤ 64 by omega)
  have HWS := Lib.hid hws
  have HDD := Lib.hid hd
  have HWDD := Lib.hid hwd
  clear hlm hlr hR hd hf hws h hx hn hwd hal hav
  have c1 := h1.top.cell (i := 1) rfl
  have KDnv := wdC (b := b) (w := W) c1 kn 2 o3 (by decide)
  obtain ⟨nv, hnvnv⟩ : ∃ nv, stA 0 kn + 2 = nv := ⟨_, rfl⟩
  rw [hnvnv] at KDnv
  have HNVnv := Lib.hid hnvnv
  have HKDnv := Lib.hid KDnv
  clear KDnv hnvnv
  have KA := Ref04.storeR W g1 HF.out HK64.out HWS.out q (nv) 0
  have HKA := Lib.hid KA
  clear KA
  go_enter Try.func109, Try.ntmps109
  go_upto_region 3 with (fail)
  clear n3 n4 i4 i3 hlx hlp hln
  go_wp2_with fail
  refine HKDnv.out.mono ?_
  rintro e w' ⟨rfl, rfl⟩
  go_wp2_with fail
  refine HKA.out.mono ?_
  rintro e w5 ⟨rfl, R', hR5, u5, hR5s⟩
  clear c1
  have HS : Hid (∀ i, R' i → (R i ∨ D ≤ i) ∧ ¬ fm b i) := Lib.hid fun i hi => by
    rcases hR5s i hi with h | h
    · exact ⟨.inl h, HDD.out i h⟩
    · have := HWD.out
      have h : W.heap.size ≤ i := h
      exact ⟨.inr (by omega), fun e => by have := HLM.out i e; omega⟩
  have A5 := h1.keep u5 (fun i hi h => HDD.out i h hi)
  have up5 : Upd (fun i => fm b i ∨ R i) W w5 := (up1).trans (u5.mono fun i _ h => .inr h)
  have g5 := hR5
  have dm : ∀ i, fm b i → i ≠ D ∧ i ≠ D + 1 := fun i hi => by have := HLM.out i hi; exact ⟨by omega, by omega⟩
  have c3 := A5.top.cell (i := 3) rfl
  have c4 := A5.top.cell (i := 4) rfl
  have c5 := A5.top.cell (i := 5) rfl
  have b5 := A5.orow.cell (ints_get (k := .i64) hqa)
  rw [HAV.out] at b5
  have b4 := A5.nrow.cell (col_get hp)
  have b3 := A5.prow.cell (col_get hp)
  rw [HX.out] at b4 b3
  dsimp only at b4 b3
  have z4 := A5.nrow.frozen q
  have z3 := A5.prow.frozen q
  have A6 : MAt b (w5.setCell ⟨b.nb, q, none⟩ (.int .i64 av)) c st.seats _ _ := A5.setNd q hq ⟨4, 0, av, av⟩ (by rw [HX.out]) ⟨o1, o2, oa⟩
  have A7 : MAt b ((w5.setCell ⟨b.nb, q, none⟩ (.int .i64 av)).setCell ⟨b.pc, q, none⟩ (.int .i64 1)) c st.seats _ _ := A6.setPc q hq ⟨0, 0, av, 0⟩ (by rw [pl_at _ _ hp]) ⟨(show (0 : Int) ≤ 0 ∧ (0 : Int) ≤ 8 by decide), o2, oa⟩
  rw [List.set_set] at A7
  have B6 : MAt b (w5.setCell ⟨b.pc, q, none⟩ (.int .i64 1)) c st.seats _ _ := A5.setPc q hq ⟨0, 0, kn, av⟩ (by rw [HX.out]) ⟨(show (0 : Int) ≤ 0 ∧ (0 : Int) ≤ 8 by decide), o2, o3⟩
  have npn : b.nb ≠ b.pc := Bk.ne A5.nd 5 4 (by decide) (by decide) (by decide)
  have U7 := (Upd.one w5 b.nb q (.int .i64 av)).mono (S' := fun i => i = b.nb ∨ i = b.pc) (fun i _ e => .inl e)
  have U8 := U7.trans ((Upd.one (w5.setCell ⟨b.nb, q, none⟩ (.int .i64 av)) b.pc q (.int .i64 1)).mono (fun i _ e => .inr e))
  have g8 := g5.keep U8 (fun i hi e => (HS.out i hi).2 (by rcases e with e | e; exact e ▸ (fm_all b).2.2.2.2.2.1; exact e ▸ (fm_all b).2.2.2.2.1))
  have up8 := up5.trans (U8.mono fun i _ e => .inl (by rcases e with e | e; exact e ▸ (fm_all b).2.2.2.2.2.1; exact e ▸ (fm_all b).2.2.2.2.1))
  have A8 := A7.keep ((Upd.refl (fun _ => False) _).drewN 1) (fun _ _ => id)
  have g8 := g8.drewN 1
  have up8 := up8.drewN 1
  have y3 := A6.prow.cell (col_get (t := q) (by rw [A6.l1]; exact hq))
  have y3z := A6.prow.frozen q
  clear U7 U8 A7 B6
  go_upto_region 22 with (fail)
  go_region
  all_goals
    obtain ⟨w8, hw8⟩ : ∃ w', ((w5.setCell ⟨b.nb, q, none⟩ (.int .i64 av)).setCell ⟨b.pc, q, none⟩ (.int .i64 1)).drew = w' := ⟨_, rfl⟩
    have hw8' : ((w5.setCell ⟨b.nb, q, none⟩ (.int .i64 av)).setCell ⟨b.pc, q, none⟩ (.int .i64 1)).drewN 1 = w8 := hw8
    rw [hw8'] at A8 g8 up8
    rw [hw8]
    clear hw8 hw8' c3 c4 c5 b5 b4 b3 z4 z3 A6 y3 y3z A5 g5 up5
    go_wp2_with fail
    go_ret
    have A99 := A8
    have g99 := g8
    have up99 := up8
    have E : unlS n 0 st q q = (0, { st with pls := st.pls.set q ⟨0, 0, av, 0⟩, ws := wrt n st.ws q nv 0, ts := Cache.after n st.ws.length st.ts q (nv) true }) := by
      unfold unlS; rw [HX.out]; dsimp only; rw [if_neg (show ¬ ((4 : Int) = 0 ∨ (4 : Int) = 2) by decide), if_neg (show ¬ ((4 : Int) = 1) by decide), if_neg (show ¬ ((4 : Int) = 3) by decide), if_pos rfl, HNVnv.out]
    rw [E]
    refine ⟨rfl, _, _, A99, ?_, ?_, ?_, ?_, ?_, ?_, R', g99, up99, fun i hi => (by rw [HD.out]; exact (HS.out i hi).1)⟩
    · first | rfl | simp
    · intro u hu; first | rfl | exact dls_other _ _ hu
    · first | rfl | simp
    · intro u hu; first | rfl | (dsimp only; rw [pl_other _ _ hu, pl_other _ _ hu]) | (dsimp only; rw [pl_other _ _ hu])
    · first | rfl | (dsimp only; done) | (dsimp only; rw [pl_at _ _ hp, pl_at _ _ hp]) | (dsimp only; rw [pl_at _ _ hp, HX.out])
    · intro h0
      first
        | exact absurd h0 (by first | (show ¬ ((1 : Int) = 0); decide) | (show ¬ ((2 : Int) = 0); decide) | (show ¬ ((6 : Int) = 0); decide) | (show ¬ ((3 : Int) = 0); decide))
        | (refine ⟨by first | rfl | (rw [List.set_set]), ?_⟩
           first
             | exact HAL.out.imp id (fun e => HAV.out.trans e)
             | (dsimp only; rw [pl_at _ _ hp]; dsimp only; first | exact .inl rfl | exact .inr (dls_at _ _ hqa) | exact HAL.out.imp id (fun e => HAV.out.trans e) | exact .inr HAV.out)
             | (dsimp only; rw [HX.out]; dsimp only; first | exact HAL.out.imp id (fun e => HAV.out.trans e) | exact .inr HAV.out))
set_option maxHeartbeats 16000000 in
set_option maxRecDepth 20000 in
theorem unl5 {w : World} {st : St} {al : List Int} {y n q : Nat} {R : Nat → Prop} (h : MAt b w c st.seats st.pls al) (hR : Ref04.RO w y R n st.ws st.ts) (hd : ∀ i, R i → ¬ fm b i) (hf : st.ts.length < 1000000) (n8 : n ≤ 8) (hn : st.seats.length = n) (hws : st.ws.length ≤ 100000) (hwd : Mem.Wd st.ws) (hq : q < st.seats.length) (hal : (st.pls.getD q p0).o = 0 ∨ al.getD q 0 = (st.pls.getD q p0).o) (hs : (st.pls.getD q p0).s = 5) :
    Calls Try.prog 109 #[.pointer (some ⟨b.x, 0, none⟩), .pointer (some ⟨y, 0, none⟩), .int .i64 q, .int .i64 q] w fun e w' =>
      e = .returned (.int .i64 (unlS n 0 st q q).1) ∧ Post b c y n R st.seats al q w (unlS n 0 st q q).1 (unlS n 0 st q q).2 w' := by
  have hp : q < st.pls.length := by rw [h.l1]; exact hq
  have hqa : q < al.length := by rw [h.l2]; exact hq
  have hok := h.ok q hp
  obtain ⟨⟨ks, kr, kn, ko⟩, hx⟩ : ∃ x, st.pls.getD q p0 = x := ⟨_, rfl⟩
  rw [hx] at hok hs hal
  obtain ⟨o1, o2, o3⟩ := hok
  dsimp only at o1 o2 o3 hs hal
  subst hs
  obtain ⟨av, hav⟩ : ∃ v, al.getD q 0 = v := ⟨_, rfl⟩
  have oa := h.wd q
  rw [hav] at oa hal
  have n3 := h.top.cell (i := 3) rfl
  have n4 := h.top.cell (i := 4) rfl
  have i4 := h.nrow.cell (col_get hp)
  have i3 := h.prow.cell (col_get hp)
  rw [hx] at i4 i3
  dsimp only at i4 i3
  have hlx := h.lt b.x (fm_all b).1
  have hlp := h.lt b.pc (fm_all b).2.2.2.2.1
  have hln := h.lt b.nb (fm_all b).2.2.2.2.2.1
  have hlm := h.lt
  have hlr := hR.lt
  obtain ⟨W, rfl⟩ : ∃ W, W = w := ⟨_, rfl⟩
  obtain ⟨D, hD⟩ : ∃ D, W.heap.size = D := ⟨_, rfl⟩
  have HD := Lib.hid hD
  have h1 := h
  have g1 := hR
  have up1 : Upd (fun i => fm b i ∨ R i) W W := Upd.refl _ _
  rw [hD] at hlm hlr
  have HWD := Lib.hid hD
  clear hD
  have hq8 : q ≤ 8 := by omega
  have hq1 : (0 : Int) ≤ (q : Int) := by omega
  have hq2 : (q : Int) < (st.seats.length : Int) := by omega
  have HLM := Lib.hid hlm
  have HLR := Lib.hid hlr
  have HX := Lib.hid hx
  have HAL := Lib.hid hal
  have HAV := Lib.hid hav
  have nx : ¬ R b.x := fun h => hd _ h (fm_all b).1
  have no : ¬ R b.ob := fun h => hd _ h (fm_all b).2.2.2.2.2.2.1
  have HF := Lib.hid hf
  have HK64 := Lib.hid (show n ≤ 64 by omega)
  have HWS := Lib.hid hws
  have HDD := Lib.hid hd
  have HWDD := Lib.hid hwd
  clear hlm hlr hR hd hf hws h hx hn hwd hal hav
  have c1 := h1.top.cell (i := 1) rfl
  have KDnv := wdC (b := b) (w := W) c1 kn 2 o3 (by decide)
  obtain ⟨nv, hnvnv⟩ : ∃ nv, stA 0 kn + 2 = nv := ⟨_, rfl⟩
  rw [hnvnv] at KDnv
  have HNVnv := Lib.hid hnvnv
  have HKDnv := Lib.hid KDnv
  clear KDnv hnvnv
  have KA := Ref04.storeR W g1 HF.out HK64.out HWS.out q (nv) 0
  have HKA := Lib.hid KA
  clear KA
  go_enter Try.func109, Try.ntmps109
  go_upto_region 3 with (fail)
  clear n3 n4 i4 i3 hlx hlp hln
  go_wp2_with fail
  refine HKDnv.out.mono ?_
  rintro e w' ⟨rfl, rfl⟩
  go_wp2_with fail
  refine HKA.out.mono ?_
  rintro e w5 ⟨rfl, R', hR5, u5, hR5s⟩
  clear c1
  have HS : Hid (∀ i, R' i → (R i ∨ D ≤ i) ∧ ¬ fm b i) := Lib.hid fun i hi => by
    rcases hR5s i hi with h | h
    · exact ⟨.inl h, HDD.out i h⟩
    · have := HWD.out
      have h : W.heap.size ≤ i := h
      exact ⟨.inr (by omega), fun e => by have := HLM.out i e; omega⟩
  have A5 := h1.keep u5 (fun i hi h => HDD.out i h hi)
  have up5 : Upd (fun i => fm b i ∨ R i) W w5 := (up1).trans (u5.mono fun i _ h => .inr h)
  have g5 := hR5
  have dm : ∀ i, fm b i → i ≠ D ∧ i ≠ D + 1 := fun i hi => by have := HLM.out i hi; exact ⟨by omega, by omega⟩
  go_wp2_with fail
  go_ret
  have A99 := A5
  have g99 := g5
  have up99 := up5
  have E : unlS n 0 st q q = (3, { st with ws := wrt n st.ws q nv 0, ts := Cache.after n st.ws.length st.ts q (nv) true }) := by
    unfold unlS; rw [HX.out]; dsimp only; rw [if_neg (show ¬ ((5 : Int) = 0 ∨ (5 : Int) = 2) by decide), if_neg (show ¬ ((5 : Int) = 1) by decide), if_neg (show ¬ ((5 : Int) = 3) by decide), if_neg (show ¬ ((5 : Int) = 4) by decide), if_pos rfl, HNVnv.out]
  rw [E]
  refine ⟨rfl, _, _, A99, ?_, ?_, ?_, ?_, ?_, ?_, R', g99, up99, fun i hi => (by rw [HD.out]; exact (HS.out i hi).1)⟩
  · first | rfl | simp
  · intro u hu; first | rfl | exact dls_other _ _ hu
  · first | rfl | simp
  · intro u hu; first | rfl | (dsimp only; rw [pl_other _ _ hu, pl_other _ _ hu]) | (dsimp only; rw [pl_other _ _ hu])
  · first | rfl | (dsimp only; done) | (dsimp only; rw [pl_at _ _ hp, pl_at _ _ hp]) | (dsimp only; rw [pl_at _ _ hp, HX.out])
  · intro h0
    first
      | exact absurd h0 (by first | (show ¬ ((1 : Int) = 0); decide) | (show ¬ ((2 : Int) = 0); decide) | (show ¬ ((6 : Int) = 0); decide) | (show ¬ ((3 : Int) = 0); decide))
      | (refine ⟨by first | rfl | (rw [List.set_set]), ?_⟩
         first
           | exact HAL.out.imp id (fun e => HAV.out.trans e)
           | (dsimp only; rw [pl_at _ _ hp]; dsimp only; first | exact .inl rfl | exact .inr (dls_at _ _ hqa) | exact HAL.out.imp id (fun e => HAV.out.trans e) | exact .inr HAV.out)
           | (dsimp only; rw [HX.out]; dsimp only; first | exact HAL.out.imp id (fun e => HAV.out.trans e) | exact .inr HAV.out))
end Go.Proofs.Ytlkpfdboagjaoaa.Ref14
