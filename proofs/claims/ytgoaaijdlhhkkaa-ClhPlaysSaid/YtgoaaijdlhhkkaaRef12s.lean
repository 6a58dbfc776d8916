/- The document's lock of Craig, Landin and Hagersten: its Step, by value: the same as the program's. -/
import Derived.Test.YtgoaaijdlhhkkaaRef12
namespace Go.Proofs.Ytgoaaijdlhhkkaa.Ref12
open Go Go.RowKit Go.Proofs.Ytgoaaijdlhhkkaa.Heap Go.Proofs.Ytgoaaijdlhhkkaa.Open Go.Proofs.Ytgoaaijdlhhkkaa.Seat Go.Proofs.Ytgoaaijdlhhkkaa.Mach Go.Proofs.Ytgoaaijdlhhkkaa.Has Go.Proofs.Ytgoaaijdlhhkkaa.Ref09 Go.Proofs.Ytgoaaijdlhhkkaa.Modl Go.Proofs.Ytgoaaijdlhhkkaa.SeatP Go.Proofs.Ytgoaaijdlhhkkaa.StepU Go.Proofs.Ytgoaaijdlhhkkaa.Clh
variable {x sx sb db pc nb cn ab : Nat}
theorem up_rel {st st' : St} {al al' : List Int} {q : Nat} (hrel : Rel st al) (hM : Mid st al q st' al') (fl : List (Int × Int)) : Rel { st' with seats := fl } al' := fun u hu => by
  by_cases e : u = q
  · subst e; exact hM.2.2 hu
  · obtain ⟨k1, k2⟩ := hM.2.1 u e
    rw [k2]
    have hu : (st'.pls.getD u (0, 0, 0)).2.2 = 2 := hu
    show al.getD u 0 = (st'.pls.getD u (0, 0, 0)).2.1
    rw [k1] at hu ⊢
    exact hrel u hu
set_option maxHeartbeats 40000000 in
set_option maxRecDepth 40000 in
theorem stepR {w : World} {st : St} {al : List Int} {y n : Nat} {R : Nat → Prop} (h : MAt x sx sb db pc nb cn ab w st.seats (pcl st) (ndl st) al) (hrel : Rel st al) (hheld : Held st) {qq : List Int} {hh : Option Nat} (hI : ClhP.I n st qq hh) (hR : Ref04.RO w y R n st.ws st.ts) (hd : ∀ i, R i → ¬ fm x sx sb db pc nb ab i) (hf : st.ts.length < 1000000) (hwd : Mem.Wd st.ws) (t now : Int) :
    Calls Try.prog 94 #[.pointer (some ⟨x, 0, none⟩), .pointer (some ⟨y, 0, none⟩), .int .i64 t, .int .i64 t, .int .i64 now] w fun e w' =>
      e = .returned (didm (Clh.step n 0 st t t now).1) ∧ (∃ al', MAt x sx sb db pc nb cn ab w' (Clh.step n 0 st t t now).2.seats (pcl (Clh.step n 0 st t t now).2) (ndl (Clh.step n 0 st t t now).2) al' ∧ Rel (Clh.step n 0 st t t now).2 al') ∧
      ∃ R', Ref04.RO w' y R' n (Clh.step n 0 st t t now).2.ws (Clh.step n 0 st t t now).2.ts ∧ Upd (fun i => fm x sx sb db pc nb ab i ∨ R i) w w' ∧ ∀ i, R' i → R i ∨ w.heap.size ≤ i := by
  have c0 := h.top.cell (i := 0) rfl
  have c2 := h.top.cell (i := 2) rfl
  have hxl := h.top.lt
  have hn : st.seats.length = n := hI.sl
  have n8 : n ≤ 8 := by obtain ⟨e, c⟩ := hI.ci; exact c.n8
  cases hin : inB t st.seats.length with
  | false =>
    have hz : state st.seats t = 0 := by unfold state; rw [hin]; rfl
    have idle : Clh.step n 0 st t t now = ((0, false, false, false), st) := (ClhP.ql n).idle st t now (.inl hz)
    rw [idle]
    clear idle
    have fin0 : ∀ w', Below w.heap.size w w' → (∃ al', MAt x sx sb db pc nb cn ab w' st.seats (pcl st) (ndl st) al' ∧ Rel st al') ∧ ∃ R', Ref04.RO w' y R' n st.ws st.ts ∧ Upd (fun i => fm x sx sb db pc nb ab i ∨ R i) w w' ∧ ∀ i, R' i → R i ∨ w.heap.size ≤ i := fun w' hB =>
      ⟨⟨al, h.keep (Upd.of_below (S := fun _ => False) hB) (fun _ _ => id), hrel⟩, R, hR.below hB, Upd.of_below hB, fun i hi => .inl hi⟩
    have FIN := Lib.hid fin0
    have hb : ∀ o : Obj, Below w.heap.size w (w.alloc o) := fun o => (Below.refl _ _).alloc (Nat.le_refl _) _
    clear fin0 h hR hz hI hrel hheld hf hwd hn n8
    by_cases t0 : t < 0
    · go_enter Try.func94, Try.ntmps94
      go_wp2_with fail
      refine bodyPost_ret (v := didm (0, false, false, false)) (by simp [results, Try.results94, go_sem, didm, b2i]) rfl ?_
      exact ⟨rfl, FIN.out _ (hb _)⟩
    · have t1 : (st.seats.length : Int) ≤ t := by simp [inB] at hin; omega
      have t0' : decide (t < 0) = false := by simpa using t0
      clear hin
      go_enter Try.func94, Try.ntmps94
      go_wp2_with fail
      refine bodyPost_ret (v := didm (0, false, false, false)) (by simp [results, Try.results94, go_sem, didm, b2i]) rfl ?_
      exact ⟨rfl, FIN.out _ (hb _)⟩
  | true =>
    obtain ⟨q, rfl, hq⟩ := inB_nat hin
    have D1 : Upd (fun _ => False) w ((w.alloc (.cells #[.int .i64 0, .int .i64 0, .int .i64 0, .int .i64 0] 130)).alloc (.cells #[.int .i64 0, .int .i64 0, .int .i64 0, .int .i64 0] 130)) := ((Upd.refl _ w).alloc _).alloc _
    have h1 := h.keep D1 (fun _ _ => id)
    have g1 := hR.keep D1 (fun _ _ => id)
    have R0 : Row ((w.alloc (.cells #[.int .i64 0, .int .i64 0, .int .i64 0, .int .i64 0] 130)).alloc (.cells #[.int .i64 0, .int .i64 0, .int .i64 0, .int .i64 0] 130)) w.heap.size [.int .i64 0, .int .i64 0, .int .i64 0, .int .i64 0] := (Row.new' rfl).alloc _
    have R1 : Row ((w.alloc (.cells #[.int .i64 0, .int .i64 0, .int .i64 0, .int .i64 0] 130)).alloc (.cells #[.int .i64 0, .int .i64 0, .int .i64 0, .int .i64 0] 130)) (w.heap.size + 1) [.int .i64 0, .int .i64 0, .int .i64 0, .int .i64 0] := Row.new' (by simp)
    have up1 : Upd (fun i => fm x sx sb db pc nb ab i ∨ R i) w ((w.alloc (.cells #[.int .i64 0, .int .i64 0, .int .i64 0, .int .i64 0] 130)).alloc (.cells #[.int .i64 0, .int .i64 0, .int .i64 0, .int .i64 0] 130)) := D1.mono fun _ _ z => z.elim
    have hlm := h.lt
    have hlr := hR.lt
    have b1 : decide ((q : Int) < 0) = false := by rw [decide_eq_false_iff_not]; omega
    have b2 : decide ((st.seats.length : Int) ≤ (q : Int)) = false := by rw [decide_eq_false_iff_not]; omega
    have b3 : decide (st.seats.length ≤ q) = false := by rw [decide_eq_false_iff_not]; omega
    have hqn : q < n := by omega
    have HF := Lib.hid hf
    have HN := Lib.hid hn
    have HN8 := Lib.hid n8
    have HWD := Lib.hid hwd
    have HI := Lib.hid hI
    have HREL := Lib.hid hrel
    have HHELD := Lib.hid hheld
    have HWS := Lib.hid (show st.ws.length ≤ 100000 by rw [hI.wl]; omega)
    obtain ⟨D, hD⟩ : ∃ D, w.heap.size = D := ⟨_, rfl⟩
    have HD := Lib.hid hD
    obtain ⟨W, hW⟩ : ∃ W, (w.alloc (.cells #[.int .i64 0, .int .i64 0, .int .i64 0, .int .i64 0] 130)).alloc (.cells #[.int .i64 0, .int .i64 0, .int .i64 0, .int .i64 0] 130) = W := ⟨_, rfl⟩
    rw [hD] at R0 R1 hlm hlr
    rw [hW] at h1 g1 R0 R1 up1
    have HW := Lib.hid hW
    have HLM := Lib.hid hlm
    have HLR := Lib.hid hlr
    have HDD := Lib.hid hd
    have HQN := Lib.hid hqn
    have hWD : D + 2 = W.heap.size := by rw [← hW, ← hD]; simp
    have HQ := Lib.hid hq
    clear hin h hR D1 hf hn hwd n8 hW hD hlm hlr hd hI hrel hheld hqn
    go_enter Try.func94, Try.ntmps94
    go_upto_region 4 with (fail)
    rw [HW.out, HD.out]
    clear c0 c2 hxl b1 b2 b3
    have hq1 : (0 : Int) ≤ (q : Int) := by omega
    have hq2 : (q : Int) < (st.seats.length : Int) := by omega
    obtain ⟨z, hz⟩ : ∃ z, state st.seats (q : Int) = z := ⟨_, rfl⟩
    have hzq : (st.seats.getD q (0, -1)).1 = z := by rw [← hz]; unfold state; rw [inB_mk hq, if_pos rfl, Int.toNat_natCast]
    obtain ⟨sv, hsv⟩ : ∃ sv, ClhP.sp st q = sv := ⟨_, rfl⟩
    have c0 := h1.top.cell (i := 0) rfl
    have c2 := h1.top.cell (i := 2) rfl
    obtain ⟨cs, cd, htop⟩ := h1.seat.top
    have s0 := htop.cell (i := 0) rfl
    have s1 := h1.seat.st.cell (sts_get hq)
    rw [hzq] at s1
    have p1 := h1.prow.cell (ii_get (t := q) (by rw [h1.l1]; exact hq))
    rw [pcl_get, hsv] at p1
    have hst : stt st.seats q = z := by rw [← state_nat]; exact hz
    have hcase : (z = 0 ∧ sv = 0) ∨ (z = 2 ∧ sv = 2) ∨ (z = 4 ∧ sv = 2) ∨ (z = 3 ∧ sv = 2) ∨ (z = 1 ∧ (sv = 0 ∨ sv = 1 ∨ sv = 2)) := by
      obtain ⟨e, c⟩ := HI.out.ci
      have k0 := c.idle q HQN.out
      have k1 := c.p3 q HQN.out
      have kr := c.rg q HQN.out
      have kh := HHELD.out q
      rw [hst] at k0 kr kh
      rw [hsv] at k0 k1 kh
      rcases (show z = 0 ∨ z = 1 ∨ z = 2 ∨ z = 3 ∨ z = 4 by omega) with e | e | e | e | e
      · exact .inl ⟨e, k0 e⟩
      · exact .inr (.inr (.inr (.inr ⟨e, k1⟩)))
      · exact .inr (.inl ⟨e, kh (.inl e)⟩)
      · exact .inr (.inr (.inr (.inl ⟨e, kh (.inr (.inl e))⟩)))
      · exact .inr (.inr (.inl ⟨e, kh (.inr (.inr e))⟩))
    have hsvr : sv = 0 ∨ sv = 1 ∨ sv = 2 := by omega
    have hzr : z = 0 ∨ z = 1 ∨ z = 2 ∨ z = 3 ∨ z = 4 := by omega
    have hw1 : IntKind.i64.wrap (10 * z) = 10 * z := IntWalk.i64_in _ (by omega)
    have hw2 : IntKind.i64.wrap (10 * z + sv) = 10 * z + sv := IntWalk.i64_in _ (by omega)
    have hw3 : wrap64 (10 * z) = 10 * z := by unfold wrap64; omega
    have hw4 : wrap64 (10 * z + sv) = 10 * z + sv := by unfold wrap64; omega
    go_quiet (fail)
    rename_i nq
    obtain ⟨kk, hkk⟩ : ∃ kk, 10 * z + sv = kk := ⟨_, rfl⟩
    rw [hkk]
    have HKK := Lib.hid hkk
    obtain ⟨W', hW'⟩ : ∃ W', W.drewN nq = W' := ⟨_, rfl⟩
    have h1 := h1.keep ((Upd.refl (fun _ => False) W).drewN nq) (fun _ _ => id)
    have g1 := g1.keep ((Upd.refl (fun _ => False) W).drewN nq) (fun _ _ => id)
    have R0 := R0.drewN nq
    have R1 := R1.drewN nq
    have up1 := up1.drewN nq
    have hWD : D + 2 = (W.drewN nq).heap.size := hWD
    rw [hW'] at h1 g1 R0 R1 up1 hWD ⊢
    have UP1 := Lib.hid up1
    have HWD2 := Lib.hid hWD
    clear hw1 hw2 hw3 hw4 hkk hW' up1 hWD c0 c2 s0 s1 p1 hsvr hzr htop
    have c0 := h1.top.cell (i := 0) rfl
    have c1 := h1.top.cell (i := 1) rfl
    have c2 := h1.top.cell (i := 2) rfl
    have c3 := h1.top.cell (i := 3) rfl
    have c4 := h1.top.cell (i := 4) rfl
    have n1 := h1.nrow.cell (ii_get (t := q) (by rw [h1.l2]; exact hq))
    have a1 := h1.arow.cell (ii_get (t := q) (by rw [h1.l3]; exact hq))
    have hplq : q < st.pls.length := by rw [HI.out.pl]; exact HQN.out
    obtain ⟨⟨nd, ahv, sv'⟩, hpl⟩ : ∃ p, st.pls.getD q (0, 0, 0) = p := ⟨_, rfl⟩
    have hndr : 0 ≤ nd ∧ nd ≤ 8 := by
      obtain ⟨e, c⟩ := HI.out.ci
      have := c.nd0 q HQN.out
      have hnd : ClhP.nd st q = nd := by unfold ClhP.nd; rw [hpl]
      rw [hnd] at this
      have := HN8.out
      omega
    rw [ndl_get, show ClhP.nd st q = nd by unfold ClhP.nd; rw [hpl]] at n1
    obtain ⟨av, hav⟩ : ∃ av, al.getD q 0 = av := ⟨_, rfl⟩
    have havr := h1.wd q
    rw [hav] at a1 havr
    have hsv' : sv' = sv := by rw [← hsv]; unfold ClhP.sp; rw [hpl]
    subst hsv'
    have HAV : Hid (sv' = 2 → av = ahv) := Lib.hid fun e => by
      rw [← hav, HREL.out q (by unfold ClhP.sp; rw [hpl]; exact e)]; unfold ClhP.ah; rw [hpl]
    have HPL := Lib.hid hplq
    have HP := Lib.hid hpl
    have HZ := Lib.hid hz
    have HOL := Lib.hid (show q < al.length by rw [h1.l3]; exact hq)
    have HST := Lib.hid (show Clh.step n 0 st q q now = ((midS n 0 st q q).1, { (midS n 0 st q q).2 with seats := (fin (midS n 0 st q q).2.seats q (midS n 0 st q q).1.1).2 }) from rfl)
    have hDm : ∀ i, fm x sx sb db pc nb ab i → i ≠ D := fun i hi e => by have := HLM.out i hi; omega
    have hDm1 : ∀ i, fm x sx sb db pc nb ab i → i ≠ D + 1 := fun i hi e => by have := HLM.out i hi; omega
    have nR : ∀ i, fm x sx sb db pc nb ab i → ¬ R i := fun i hi h => HDD.out i h hi
    have nx := nR x (by simp [fm])
    have nn := nR nb (by simp [fm])
    have na := nR ab (by simp [fm])
    have np := nR pc (by simp [fm])
    have nD : ¬ R D := fun h => by have := HLR.out D h; omega
    have nD1 : ¬ R (D + 1) := fun h => by have := HLR.out _ h; omega
    have HK64 := Lib.hid (show n ≤ 64 by have := HN8.out; omega)
    have HCASE := Lib.hid hcase
    have hu1 : IntKind.i64.wrap (1 + nd) = 1 + nd := IntWalk.i64_in _ (by omega)
    have hu2 : IntKind.i64.wrap 1 = 1 := IntWalk.i64_in _ (by omega)
    have hu3 : IntKind.u32.wrap nd = nd := by rw [show IntKind.u32.wrap nd = nd % 4294967296 from rfl]; omega
    have hu4 : IntKind.i64.wrap (1 + av) = 1 + av := IntWalk.i64_in _ (by omega)
    clear hz hzq hsv hpl hplq hst hcase nR hav hndr havr
    go_upto_block 0 with (fail)
    go_cut [11] from 44 to 176 (fun s11 wx => ∃ (d : Did) (st' : St) (al' : List Int), s11 = .pointer (some ⟨D + 1, 0, none⟩) ∧ midS n 0 st q q = (d, st') ∧ Mid st al q st' al' ∧ MAt x sx sb db pc nb cn ab wx st.seats (pcl st') (ndl st') al' ∧ (∃ R', Ref04.RO wx y R' n st'.ws st'.ts ∧ ∀ i, R' i → R i ∨ w.heap.size + 2 ≤ i) ∧ Row wx (D + 1) (dmcells d) ∧ Row wx D [.int .i64 0, .int .i64 0, .int .i64 0, .int .i64 0] ∧ Upd (fun i => fm x sx sb db pc nb ab i ∨ R i) w wx)
    case first =>
      rcases HCASE.out with ⟨rfl, rfl⟩ | ⟨rfl, rfl⟩ | ⟨rfl, rfl⟩ | ⟨rfl, rfl⟩ | ⟨rfl, rfl | rfl | rfl⟩
      · have hkk : kk = 0 := by have := HKK.out; omega
        subst hkk
        have E := Lib.hid (show midS n 0 st q q = ((0, false, false, false), st) by unfold midS; rw [HZ.out]; rw [if_neg (by decide), if_neg (by decide), if_neg (by decide)])
        go_wp2_with fail
        go_meet
        case rel => exact ⟨(0, false, false, false), st, al, rfl, E.out, Mid.same HREL.out q rfl rfl, h1, ⟨R, g1, fun i hi => .inl hi⟩, by simpa [dmcells, b2i] using R1, R0, UP1.out⟩
      · have hkk : kk = 22 := by have := HKK.out; omega
        subst hkk
        have E := Lib.hid (show midS n 0 st q q = ((0, false, false, false), st) by unfold midS; rw [HZ.out]; rw [if_neg (by decide), if_neg (by decide), if_neg (by decide)])
        go_wp2_with fail
        go_meet
        case rel => exact ⟨(0, false, false, false), st, al, rfl, E.out, Mid.same HREL.out q rfl rfl, h1, ⟨R, g1, fun i hi => .inl hi⟩, by simpa [dmcells, b2i] using R1, R0, UP1.out⟩
      · have hkk : kk = 42 := by have := HKK.out; omega
        subst hkk
        obtain ⟨g, hg⟩ : ∃ g, rd n st.ws q 0 = g := ⟨_, rfl⟩
        have hgw := rd_wd HWD.out n q 0
        rw [hg] at hgw
        have E := Lib.hid (show midS n 0 st q q = ((if g = nd then 4 else 5, false, false, false), { st with ts := Cache.after n st.ws.length st.ts q 0 false }) by unfold midS; rw [HZ.out]; rw [if_neg (by decide), if_neg (by decide), if_pos rfl, Int.toNat_natCast]; rw [HP.out, hg])
        have hgi : IntKind.i64.wrap g = g := IntWalk.i64_in _ (by omega)
        have U3 := Upd.one W' (D + 1) 0 (.int .i64 5)
        have h3 := h1.keep U3 (fun i hi e => hDm1 i hi e)
        have g3 := g1.keep U3 (fun i hi e => nD1 (e ▸ hi))
        have R3 := R1.set 0 (.int .i64 5)
        have Q3 := R0.upd U3 (by omega)
        have UP3 := Lib.hid (UP1.out.then U3 (fun i hi e => by have := HD.out; omega))
        have y0 := R1.cell (i := 0) rfl
        have z0 := R1.frozen 0
        clear UP1
        go_upto_region 22 with (fail)
        obtain ⟨W3, hW3⟩ : ∃ W3, W'.setCell ⟨D + 1, 0, none⟩ (.int .i64 5) = W3 := ⟨_, rfl⟩
        have HWD3 : Hid (D + 2 = W3.heap.size) := Lib.hid (by rw [← hW3]; simp [World.setCell]; exact HWD2.out)
        have c1 := cell_upd U3 c1 (fun e => hDm1 x (by simp [fm]) e)
        have c3 := cell_upd U3 c3 (fun e => hDm1 x (by simp [fm]) e)
        have n1 := cell_upd U3 n1 (fun e => hDm1 nb (by simp [fm]) e)
        rw [hW3] at h3 g3 R3 Q3 UP3 c1 c3 n1 ⊢
        have KA := Ref04.loadR W3.drew (g3.drewN 1) HF.out HK64.out HWS.out q 0
        rw [hg] at KA
        have HKA := Lib.hid KA
        have h1d := h3.keep ((Upd.refl (fun _ => False) W3).drewN 1) (fun _ _ => id)
        clear KA hg hW3 y0 z0 U3
        go_region_held3 (fun w' => w'.cell? ⟨x, 1, none⟩ = some (.int .i64 0) ∧ w'.cell? ⟨x, 3, none⟩ = some (.slice (some ⟨nb, 0, none⟩) st.seats.length cn) ∧ w'.cell? ⟨nb, q, none⟩ = some (.int .i64 nd)) ((first | exact ⟨c1, c3, n1⟩ | exact ⟨ec1, ec3, en1⟩))
          ((go_at_call 97; refine HKA.out.mono ?_; rintro e w5 ⟨rfl, R', hR5, u5, hR5s⟩; have ec1 := cell_upd u5 c1 nx; have ec3 := cell_upd u5 c3 nx; have en1 := cell_upd u5 n1 nn))
        have h2 := h1d.keep u5 (fun i hi h => HDD.out i h hi)
        have R5 := (R3.drewN 1).upd u5 nD1
        have Q5 := (Q3.drewN 1).upd u5 nD
        have up5 : Upd (fun i => fm x sx sb db pc nb ab i ∨ R i) w w5 := (UP3.out.drewN 1).trans (u5.mono fun i _ h => .inr h)
        have HRS : Hid (∀ i, R' i → (R i ∨ w.heap.size + 2 ≤ i) ∧ i ≠ D + 1 ∧ i ≠ ab ∧ i ≠ nb ∧ i ≠ pc) := Lib.hid fun i hi => by
          rcases hR5s i hi with h | h
          · exact ⟨.inl h, by have := HLR.out i h; omega, fun e => HDD.out i h (by rw [e]; simp [fm]), fun e => HDD.out i h (by rw [e]; simp [fm]), fun e => HDD.out i h (by rw [e]; simp [fm])⟩
          · have := HWD3.out; have := HD.out; have := HLM.out ab (by simp [fm]); have := HLM.out nb (by simp [fm]); have := HLM.out pc (by simp [fm]); have h : W3.heap.size ≤ i := h; exact ⟨.inr (by omega), by omega, by omega, by omega, by omega⟩
        have A7 := h2
        have g7 := hR5
        have R7 := R5
        have Q7 := Q5
        have up7 := up5
        have y0 := R7.cell (i := 0) rfl
        have z0 := R7.frozen 0
        clear h1 h1d g1 R0 R1 c0 c1 c2 c3 c4 n1 a1 u5 HKA hu1 hu2 hu3 hu4 ec1 ec3 en1 h2 hR5 R5 Q5 up5 h3 g3 R3 Q3
        by_cases hgn : g = nd
        · have hgn' : (g == nd) = true := by simpa using hgn
          rw [if_pos hgn] at E
          clear hgn
          go_wp2_with fail
          have RE := R7.set 0 (.int .i64 4)
          have UE := Upd.one w5 (D + 1) 0 (.int .i64 4)
          go_meet
          case rel => exact ⟨(4, false, false, false), _, al, rfl, E.out, Mid.same HREL.out q rfl rfl, A7.keep UE (fun i hi e => hDm1 i hi e), ⟨R', g7.keep UE (fun i hi e => (HRS.out i hi).2.1 e), fun i hi => (HRS.out i hi).1⟩, by simpa [dmcells, b2i] using RE, Q7.upd UE (by omega), up7.then UE (fun i hi e => by have := HD.out; omega)⟩
        · have hgn' : (g == nd) = false := by simpa using hgn
          rw [if_neg hgn] at E
          clear hgn
          go_wp2_with fail
          go_meet
          case rel => exact ⟨(5, false, false, false), _, al, rfl, E.out, Mid.same HREL.out q rfl rfl, A7, ⟨R', g7, fun i hi => (HRS.out i hi).1⟩, by simpa [dmcells, b2i] using R7, Q7, up7⟩
      · have hkk : kk = 32 := by have := HKK.out; omega
        subst hkk
        have hav2 := HAV.out rfl
        subst hav2
        have E := Lib.hid (show midS n 0 st q q = ((3, false, false, false), ⟨st.seats, st.pls.set q (av, 0, 0), wrt n st.ws q (1 + nd) 0, Cache.after n st.ws.length st.ts q (1 + nd) true⟩) by unfold midS; rw [HZ.out]; rw [if_neg (by decide), if_pos rfl, Int.toNat_natCast]; rw [HP.out, show (0 : Int) + 1 + nd = 1 + nd by omega])
        have KA := Ref04.storeR W'.drew (g1.drewN 1) HF.out HK64.out HWS.out q (1 + nd) 0
        have HKA := Lib.hid KA
        have h1d := h1.keep ((Upd.refl (fun _ => False) W').drewN 1) (fun _ _ => id)
        clear KA
        go_wp2_with fail
        go_region_held3 (fun w' => w'.cell? ⟨x, 1, none⟩ = some (.int .i64 0) ∧ w'.cell? ⟨x, 3, none⟩ = some (.slice (some ⟨nb, 0, none⟩) st.seats.length cn) ∧ w'.cell? ⟨nb, q, none⟩ = some (.int .i64 nd)) ((first | exact ⟨c1, c3, n1⟩ | exact ⟨ec1, ec3, en1⟩))
          ((go_at_call 95; refine HKA.out.mono ?_; rintro e w5 ⟨rfl, R', hR5, u5, hR5s⟩; have ec1 := cell_upd u5 c1 nx; have ec3 := cell_upd u5 c3 nx; have en1 := cell_upd u5 n1 nn))
        have h2 := h1d.keep u5 (fun i hi h => HDD.out i h hi)
        have R5 := (R1.drewN 1).upd u5 nD1
        have Q5 := (R0.drewN 1).upd u5 nD
        have up5 : Upd (fun i => fm x sx sb db pc nb ab i ∨ R i) w w5 := (UP1.out.drewN 1).trans (u5.mono fun i _ h => .inr h)
        have HRS : Hid (∀ i, R' i → (R i ∨ w.heap.size + 2 ≤ i) ∧ i ≠ D + 1 ∧ i ≠ ab ∧ i ≠ nb ∧ i ≠ pc) := Lib.hid fun i hi => by
          rcases hR5s i hi with h | h
          · exact ⟨.inl h, by have := HLR.out i h; omega, fun e => HDD.out i h (by rw [e]; simp [fm]), fun e => HDD.out i h (by rw [e]; simp [fm]), fun e => HDD.out i h (by rw [e]; simp [fm])⟩
          · have := HWD2.out; have := HD.out; have := HLM.out ab (by simp [fm]); have := HLM.out nb (by simp [fm]); have := HLM.out pc (by simp [fm]); have h : W'.heap.size ≤ i := h; exact ⟨.inr (by omega), by omega, by omega, by omega, by omega⟩
        have A5 := h2
        have g5 := hR5
        have m4 := cell_upd u5 c4 nx
        have m5 := cell_upd u5 a1 na
        have m6 := cell_upd u5 n1 nn
        have m7 := A5.nrow.frozen q
        clear h1 h1d g1 R0 R1 c0 c1 c2 c3 c4 n1 a1 u5 HKA hu1 hu2 hu3 hu4 ec1 en1 h2 hR5
        have U6 := Upd.one w5 nb q (.int .i64 av)
        have A6 := A5.setNd q HQ.out av
        have R6 := R5.upd U6 (fun e => hDm1 nb (by simp [fm]) e.symm)
        have Q6 := Q5.upd U6 (fun e => hDm nb (by simp [fm]) e.symm)
        have g6 := g5.keep U6 (fun i hi e => (HRS.out i hi).2.2.2.1 e)
        have up6 := up5.trans (U6.mono fun i _ e => (by rw [e]; simp [fm] : fm x sx sb db pc nb ab i ∨ R i))
        clear U6
        have A6 := A6.keep ((Upd.refl (fun _ => False) _).drewN 1) (fun _ _ => id)
        have R6 := R6.drewN 1
        have Q6 := Q6.drewN 1
        have g6 := g6.drewN 1
        have up6 := up6.drewN 1
        go_wp2_with fail
        go_region
        obtain ⟨w6, hw6⟩ : ∃ w', (w5.setCell ⟨nb, q, none⟩ (.int .i64 av)).drew = w' := ⟨_, rfl⟩
        have hw6' : (w5.setCell ⟨nb, q, none⟩ (.int .i64 av)).drewN 1 = w6 := hw6
        rw [hw6'] at A6 R6 Q6 g6 up6
        rw [hw6]
        clear hw6 hw6' A5 R5 Q5 g5 up5 ec3 m4 m5 m6 m7
        have t2 := A6.top.cell (i := 2) rfl
        have t3 := A6.prow.cell (ii_get (t := q) (by rw [A6.l1]; exact HQ.out))
        have t4 := A6.prow.frozen q
        have U7 := Upd.one w6 pc q (.int .i64 0)
        have A7 := A6.setPc q 0
        have R7 := R6.upd U7 (fun e => hDm1 pc (by simp [fm]) e.symm)
        have Q7 := Q6.upd U7 (fun e => hDm pc (by simp [fm]) e.symm)
        have g7 := g6.keep U7 (fun i hi e => (HRS.out i hi).2.2.2.2 e)
        have up7 := up6.trans (U7.mono fun i _ e => (by rw [e]; simp [fm] : fm x sx sb db pc nb ab i ∨ R i))
        go_upto_region 19 with (fail)
        obtain ⟨w7, hw7⟩ : ∃ w', w6.setCell ⟨pc, q, none⟩ (.int .i64 0) = w' := ⟨_, rfl⟩
        rw [hw7] at A7 R7 Q7 g7 up7 ⊢
        clear t2 t3 t4 hw7 A6 R6 Q6 g6 up6 U7
        have y0 := R7.cell (i := 0) rfl
        have z0 := R7.frozen 0
        go_wp2_with fail
        have RE := R7.set 0 (.int .i64 3)
        have UE := Upd.one w7 (D + 1) 0 (.int .i64 3)
        go_meet
        case rel => exact ⟨(3, false, false, false), _, al, rfl, E.out, Mid.set HPL.out av 0 0 rfl rfl (by omega), (by rw [pcl_set, ndl_set]; exact A7 : MAt x sx sb db pc nb cn ab w7 st.seats (pcl ⟨st.seats, st.pls.set q (av, 0, 0), wrt n st.ws q (1 + nd) 0, Cache.after n st.ws.length st.ts q (1 + nd) true⟩) (ndl ⟨st.seats, st.pls.set q (av, 0, 0), wrt n st.ws q (1 + nd) 0, Cache.after n st.ws.length st.ts q (1 + nd) true⟩) al).keep UE (fun i hi e => hDm1 i hi e), ⟨R', g7.keep UE (fun i hi e => (HRS.out i hi).2.1 e), fun i hi => (HRS.out i hi).1⟩, by simpa [dmcells, b2i] using RE, Q7.upd UE (by omega), up7.then UE (fun i hi e => by have := HD.out; omega)⟩
      · have hkk : kk = 10 := by have := HKK.out; omega
        subst hkk
        have E := Lib.hid (show midS n 0 st q q = ((0, false, false, false), ⟨st.seats, st.pls.set q (nd, ahv, 1), wrt n st.ws q (1 + nd) 1, Cache.after n st.ws.length st.ts q (1 + nd) true⟩) by unfold midS; rw [HZ.out]; rw [if_pos rfl, Int.toNat_natCast]; unfold lockS; dsimp only; rw [HP.out, if_pos rfl, show (0 : Int) + 1 + nd = 1 + nd by omega])
        have KA := Ref04.storeR W'.drew (g1.drewN 1) HF.out HK64.out HWS.out q (1 + nd) 1
        have HKA := Lib.hid KA
        have h1d := h1.keep ((Upd.refl (fun _ => False) W').drewN 1) (fun _ _ => id)
        clear KA
        go_wp2_with fail
        go_region_held3 (fun w' => w'.cell? ⟨x, 1, none⟩ = some (.int .i64 0) ∧ w'.cell? ⟨x, 3, none⟩ = some (.slice (some ⟨nb, 0, none⟩) st.seats.length cn) ∧ w'.cell? ⟨nb, q, none⟩ = some (.int .i64 nd)) ((first | exact ⟨c1, c3, n1⟩ | exact ⟨ec1, ec3, en1⟩))
          ((go_at_call 95; refine HKA.out.mono ?_; rintro e w5 ⟨rfl, R', hR5, u5, hR5s⟩; have ec1 := cell_upd u5 c1 nx; have ec3 := cell_upd u5 c3 nx; have en1 := cell_upd u5 n1 nn))
        have h2 := h1d.keep u5 (fun i hi h => HDD.out i h hi)
        have R5 := (R1.drewN 1).upd u5 nD1
        have Q5 := (R0.drewN 1).upd u5 nD
        have up5 : Upd (fun i => fm x sx sb db pc nb ab i ∨ R i) w w5 := (UP1.out.drewN 1).trans (u5.mono fun i _ h => .inr h)
        have HRS : Hid (∀ i, R' i → (R i ∨ w.heap.size + 2 ≤ i) ∧ i ≠ D + 1 ∧ i ≠ ab ∧ i ≠ nb ∧ i ≠ pc) := Lib.hid fun i hi => by
          rcases hR5s i hi with h | h
          · exact ⟨.inl h, by have := HLR.out i h; omega, fun e => HDD.out i h (by rw [e]; simp [fm]), fun e => HDD.out i h (by rw [e]; simp [fm]), fun e => HDD.out i h (by rw [e]; simp [fm])⟩
          · have := HWD2.out; have := HD.out; have := HLM.out ab (by simp [fm]); have := HLM.out nb (by simp [fm]); have := HLM.out pc (by simp [fm]); have h : W'.heap.size ≤ i := h; exact ⟨.inr (by omega), by omega, by omega, by omega, by omega⟩
        have A5 := h2
        have g5 := hR5
        have t2 := A5.top.cell (i := 2) rfl
        have t3 := A5.prow.cell (ii_get (t := q) (by rw [A5.l1]; exact HQ.out))
        have t4 := A5.prow.frozen q
        clear h1 h1d g1 R0 R1 c0 c1 c2 c3 c4 n1 a1 u5 HKA hu1 hu2 hu3 hu4 ec1 ec3 en1 h2 hR5
        have U7 := Upd.one w5 pc q (.int .i64 1)
        have A7 := A5.setPc q 1
        have R7 := R5.upd U7 (fun e => hDm1 pc (by simp [fm]) e.symm)
        have Q7 := Q5.upd U7 (fun e => hDm pc (by simp [fm]) e.symm)
        have g7 := g5.keep U7 (fun i hi e => (HRS.out i hi).2.2.2.2 e)
        have up7 := up5.trans (U7.mono fun i _ e => (by rw [e]; simp [fm] : fm x sx sb db pc nb ab i ∨ R i))
        clear A5 R5 Q5 g5 up5
        go_wp2_with fail
        go_meet
        case rel => exact ⟨(0, false, false, false), _, al, rfl, E.out, Mid.set HPL.out nd ahv 1 rfl rfl (by omega), (by rw [pcl_set, ndl_set, show (ndl st).set q nd = ndl st by have := ndl_same st q ahv 1 [] [] HPL.out; rw [HP.out, ndl_set] at this; exact this]; exact A7), ⟨R', g7, fun i hi => (HRS.out i hi).1⟩, by simpa [dmcells, b2i] using R7, Q7, up7⟩
      · have hkk : kk = 11 := by have := HKK.out; omega
        subst hkk
        obtain ⟨g, hg⟩ : ∃ g, rd n st.ws q 0 = g := ⟨_, rfl⟩
        have hgw := rd_wd HWD.out n q 0
        rw [hg] at hgw
        have E := Lib.hid (show midS n 0 st q q = ((0, true, false, false), ⟨st.seats, st.pls.set q (nd, g, 2), wrt n st.ws q 0 nd, Cache.after n st.ws.length st.ts q 0 true⟩) by unfold midS; rw [HZ.out]; rw [if_pos rfl, Int.toNat_natCast]; unfold lockS; dsimp only; rw [HP.out, if_neg (show ¬ ((nd, ahv, (1 : Int)).2.2 = 0) from (by decide : ¬ ((1 : Int) = 0))), if_pos rfl, hg])
        have KA := Ref04.swapR W'.drew (g1.drewN 1) HF.out HK64.out HWS.out q 0 nd
        rw [hg] at KA
        have HKA := Lib.hid KA
        have hgi : IntKind.i64.wrap g = g := IntWalk.i64_in _ (by omega)
        have h1d := h1.keep ((Upd.refl (fun _ => False) W').drewN 1) (fun _ _ => id)
        clear KA hg
        go_wp2_with fail
        go_region_held3 (fun w' => w'.cell? ⟨x, 1, none⟩ = some (.int .i64 0) ∧ w'.cell? ⟨x, 3, none⟩ = some (.slice (some ⟨nb, 0, none⟩) st.seats.length cn) ∧ w'.cell? ⟨x, 4, none⟩ = some (.slice (some ⟨ab, 0, none⟩) st.seats.length st.seats.length) ∧ w'.cell? ⟨nb, q, none⟩ = some (.int .i64 nd)) ((first | exact ⟨c1, c3, c4, n1⟩ | exact ⟨ec1, ec3, ec4, en1⟩ | exact ⟨fc1, fc3, fc4, fn1⟩))
          ((go_at_call 96; refine HKA.out.mono ?_; rintro e w5 ⟨rfl, R', hR5, u5, hR5s⟩; have ec1 := cell_upd u5 c1 nx; have ec3 := cell_upd u5 c3 nx; have ec4 := cell_upd u5 c4 nx; have en1 := cell_upd u5 n1 nn; have A5' := h1d.keep u5 (fun i hi h => HDD.out i h hi); have m5 := cell_upd u5 a1 na; have fz5 := A5'.arow.frozen q; have A6' := A5'.setAh q g hgw; have fc1 := A6'.top.cell (i := 1) rfl; have fc3 := A6'.top.cell (i := 3) rfl; have fc4 := A6'.top.cell (i := 4) rfl; have fn1 := cell_upd (Upd.one w5 ab q (.int .i64 g)) en1 (fun e => A5'.e3.2.2.2 e)))
        have h2 := h1d.keep u5 (fun i hi h => HDD.out i h hi)
        have R5 := (R1.drewN 1).upd u5 nD1
        have Q5 := (R0.drewN 1).upd u5 nD
        have up5 : Upd (fun i => fm x sx sb db pc nb ab i ∨ R i) w w5 := (UP1.out.drewN 1).trans (u5.mono fun i _ h => .inr h)
        have HRS : Hid (∀ i, R' i → (R i ∨ w.heap.size + 2 ≤ i) ∧ i ≠ D + 1 ∧ i ≠ ab ∧ i ≠ nb ∧ i ≠ pc) := Lib.hid fun i hi => by
          rcases hR5s i hi with h | h
          · exact ⟨.inl h, by have := HLR.out i h; omega, fun e => HDD.out i h (by rw [e]; simp [fm]), fun e => HDD.out i h (by rw [e]; simp [fm]), fun e => HDD.out i h (by rw [e]; simp [fm])⟩
          · have := HWD2.out; have := HD.out; have := HLM.out ab (by simp [fm]); have := HLM.out nb (by simp [fm]); have := HLM.out pc (by simp [fm]); have h : W'.heap.size ≤ i := h; exact ⟨.inr (by omega), by omega, by omega, by omega, by omega⟩
        have A5 := h2
        have g5 := hR5
        clear h1 h1d g1 R0 R1 c0 c1 c2 c3 c4 n1 a1 u5 HKA hu1 hu2 hu3 hu4 ec1 ec3 ec4 en1 fc1 fc3 fc4 fn1 m5 fz5 A5' A6' h2 hR5 hgi
        have U6 := Upd.one w5 ab q (.int .i64 g)
        have A6 := A5.setAh q g hgw
        have R6 := R5.upd U6 (fun e => hDm1 ab (by simp [fm]) e.symm)
        have Q6 := Q5.upd U6 (fun e => hDm ab (by simp [fm]) e.symm)
        have g6 := g5.keep U6 (fun i hi e => (HRS.out i hi).2.2.1 e)
        have up6 := up5.trans (U6.mono fun i _ e => (by rw [e]; simp [fm] : fm x sx sb db pc nb ab i ∨ R i))
        obtain ⟨w6, hw6⟩ : ∃ w', w5.setCell ⟨ab, q, none⟩ (.int .i64 g) = w' := ⟨_, rfl⟩
        rw [hw6] at A6 R6 Q6 g6 up6 ⊢
        clear hw6 A5 R5 Q5 g5 up5 U6
        have t2 := A6.top.cell (i := 2) rfl
        have t3 := A6.prow.cell (ii_get (t := q) (by rw [A6.l1]; exact HQ.out))
        have t4 := A6.prow.frozen q
        have U7 := Upd.one w6 pc q (.int .i64 2)
        have A7 := A6.setPc q 2
        have R7 := R6.upd U7 (fun e => hDm1 pc (by simp [fm]) e.symm)
        have Q7 := Q6.upd U7 (fun e => hDm pc (by simp [fm]) e.symm)
        have g7 := g6.keep U7 (fun i hi e => (HRS.out i hi).2.2.2.2 e)
        have up7 := up6.trans (U7.mono fun i _ e => (by rw [e]; simp [fm] : fm x sx sb db pc nb ab i ∨ R i))
        go_upto_region 11 with (fail)
        obtain ⟨w7, hw7⟩ : ∃ w', w6.setCell ⟨pc, q, none⟩ (.int .i64 2) = w' := ⟨_, rfl⟩
        rw [hw7] at A7 R7 Q7 g7 up7 ⊢
        clear t2 t3 t4 hw7 A6 R6 Q6 g6 up6 U7
        have y0 := R7.cell (i := 1) rfl
        have z0 := R7.frozen 1
        go_wp2_with fail
        have RE := R7.set 1 (.int .i64 1)
        have UE := Upd.one w7 (D + 1) 1 (.int .i64 1)
        go_meet
        case rel => exact ⟨(0, true, false, false), _, (al.set q g), rfl, E.out, Mid.setA HPL.out HOL.out nd g 2 rfl rfl, (by rw [pcl_set, ndl_set, show (ndl st).set q nd = ndl st by have := ndl_same st q ahv 1 [] [] HPL.out; rw [HP.out, ndl_set] at this; exact this]; exact A7 : MAt x sx sb db pc nb cn ab w7 st.seats (pcl ⟨st.seats, st.pls.set q (nd, g, 2), wrt n st.ws q 0 nd, Cache.after n st.ws.length st.ts q 0 true⟩) (ndl ⟨st.seats, st.pls.set q (nd, g, 2), wrt n st.ws q 0 nd, Cache.after n st.ws.length st.ts q 0 true⟩) (al.set q g)).keep UE (fun i hi e => hDm1 i hi e), ⟨R', g7.keep UE (fun i hi e => (HRS.out i hi).2.1 e), fun i hi => (HRS.out i hi).1⟩, by simpa [dmcells, b2i] using RE, Q7.upd UE (by omega), up7.then UE (fun i hi e => by have := HD.out; omega)⟩
      · have hkk : kk = 12 := by have := HKK.out; omega
        subst hkk
        have hav2 := HAV.out rfl
        subst hav2
        obtain ⟨g, hg⟩ : ∃ g, rd n st.ws q (1 + av) = g := ⟨_, rfl⟩
        have E := Lib.hid (show midS n 0 st q q = ((if g = 0 then 1 else 0, false, false, false), { st with ts := Cache.after n st.ws.length st.ts q (1 + av) false }) by unfold midS; rw [HZ.out]; rw [if_pos rfl, Int.toNat_natCast]; unfold lockS; dsimp only; rw [HP.out, if_neg (show ¬ ((nd, av, (2 : Int)).2.2 = 0) from (by decide : ¬ ((2 : Int) = 0))), if_neg (show ¬ ((nd, av, (2 : Int)).2.2 = 1) from (by decide : ¬ ((2 : Int) = 1))), show (0 : Int) + 1 + av = 1 + av by omega, hg])
        have KA := Ref04.loadR W'.drew (g1.drewN 1) HF.out HK64.out HWS.out q (1 + av)
        rw [hg] at KA
        have HKA := Lib.hid KA
        have h1d := h1.keep ((Upd.refl (fun _ => False) W').drewN 1) (fun _ _ => id)
        clear KA hg
        go_wp2_with fail
        go_region_held3 (fun w' => w'.cell? ⟨x, 1, none⟩ = some (.int .i64 0) ∧ w'.cell? ⟨x, 4, none⟩ = some (.slice (some ⟨ab, 0, none⟩) st.seats.length st.seats.length) ∧ w'.cell? ⟨ab, q, none⟩ = some (.int .i64 av)) ((first | exact ⟨c1, c4, a1⟩ | exact ⟨ec1, ec4, ea1⟩))
          ((go_at_call 97; refine HKA.out.mono ?_; rintro e w5 ⟨rfl, R', hR5, u5, hR5s⟩; have ec1 := cell_upd u5 c1 nx; have ec4 := cell_upd u5 c4 nx; have ea1 := cell_upd u5 a1 na))
        have h2 := h1d.keep u5 (fun i hi h => HDD.out i h hi)
        have R5 := (R1.drewN 1).upd u5 nD1
        have Q5 := (R0.drewN 1).upd u5 nD
        have up5 : Upd (fun i => fm x sx sb db pc nb ab i ∨ R i) w w5 := (UP1.out.drewN 1).trans (u5.mono fun i _ h => .inr h)
        have HRS : Hid (∀ i, R' i → (R i ∨ w.heap.size + 2 ≤ i) ∧ i ≠ D + 1 ∧ i ≠ ab ∧ i ≠ nb ∧ i ≠ pc) := Lib.hid fun i hi => by
          rcases hR5s i hi with h | h
          · exact ⟨.inl h, by have := HLR.out i h; omega, fun e => HDD.out i h (by rw [e]; simp [fm]), fun e => HDD.out i h (by rw [e]; simp [fm]), fun e => HDD.out i h (by rw [e]; simp [fm])⟩
          · have := HWD2.out; have := HD.out; have := HLM.out ab (by simp [fm]); have := HLM.out nb (by simp [fm]); have := HLM.out pc (by simp [fm]); have h : W'.heap.size ≤ i := h; exact ⟨.inr (by omega), by omega, by omega, by omega, by omega⟩
        have A7 := h2
        have g7 := hR5
        have R7 := R5
        have Q7 := Q5
        have up7 := up5
        have y0 := R7.cell (i := 0) rfl
        have z0 := R7.frozen 0
        clear h1 h1d g1 R0 R1 c0 c1 c2 c3 c4 n1 a1 u5 HKA hu1 hu2 hu3 hu4 ec1 ec4 ea1 h2 hR5 R5 Q5 up5
        by_cases hgn : g = 0
        · subst hgn
          rw [if_pos rfl] at E
          go_wp2_with fail
          have RE := R7.set 0 (.int .i64 1)
          have UE := Upd.one w5 (D + 1) 0 (.int .i64 1)
          go_meet
          case rel => exact ⟨(1, false, false, false), _, al, rfl, E.out, Mid.same HREL.out q rfl rfl, A7.keep UE (fun i hi e => hDm1 i hi e), ⟨R', g7.keep UE (fun i hi e => (HRS.out i hi).2.1 e), fun i hi => (HRS.out i hi).1⟩, by simpa [dmcells, b2i] using RE, Q7.upd UE (by omega), up7.then UE (fun i hi e => by have := HD.out; omega)⟩
        · have hgn' : (g == 0) = false := by simpa using hgn
          rw [if_neg hgn] at E
          go_wp2_with fail
          go_meet
          case rel => exact ⟨(0, false, false, false), _, al, rfl, E.out, Mid.same HREL.out q rfl rfl, A7, ⟨R', g7, fun i hi => (HRS.out i hi).1⟩, by simpa [dmcells, b2i] using R7, Q7, up7⟩
    case rest =>
      obtain ⟨d, st', al', rfl, hmid, hM, h5, ⟨R', g5, hR5s⟩, r5, q5, u5⟩ := hcut
      obtain ⟨w6, hw6⟩ : ∃ w6, wc = w6 := ⟨_, rfl⟩
      rw [hw6] at h5 g5 r5 q5 u5 ⊢
      have HM := Lib.hid hM
      rw [hmid] at HST
      dsimp only at HST
      rw [hM.1] at HST
      obtain ⟨ev, b1, b2, b3⟩ := d
      obtain ⟨i1, hi1⟩ : ∃ i, b2i b1 = i := ⟨_, rfl⟩
      obtain ⟨i2, hi2⟩ : ∃ i, b2i b2 = i := ⟨_, rfl⟩
      obtain ⟨i3, hi3⟩ : ∃ i, b2i b3 = i := ⟨_, rfl⟩
      replace r5 : Row w6 (D + 1) [.int .i64 ev, .int .i64 i1, .int .i64 i2, .int .i64 i3] := by rw [← hi1, ← hi2, ← hi3]; exact r5
      have HDM := Lib.hid (show didm (ev, b1, b2, b3) = .agg #[.int .i64 ev, .int .i64 i1, .int .i64 i2, .int .i64 i3] by rw [← hi1, ← hi2, ← hi3]; rfl)
      obtain ⟨fv, hfv⟩ : ∃ fv, fin st.seats (q : Int) ev = fv := ⟨_, rfl⟩
      obtain ⟨fb, fl⟩ := fv
      have HST2 := Lib.hid (show Clh.step n 0 st q q now = ((ev, b1, b2, b3), { st' with seats := fl }) by have := HST.out; rw [hfv] at this; exact this)
      have hfl : fl.length = st.seats.length := by have := fin_len st.seats (q : Int) ev; rw [hfv] at this; exact this
      have HFL := Lib.hid hfl
      have hRb : ∀ i, R' i → ¬ (i = sb ∨ i = db) ∧ i ≠ D := fun i hi => by
        rcases hR5s i hi with h | h
        · refine ⟨fun e => HDD.out i h (by rcases e with rfl | rfl <;> simp [fm]), fun e => by have := HLR.out i h; omega⟩
        · have := HD.out
          have k1 := HLM.out sb (by simp [fm])
          have k2 := HLM.out db (by simp [fm])
          exact ⟨fun e => by omega, by omega⟩
      have HRB := Lib.hid hRb
      have HRS := Lib.hid hR5s
      have g0 := h5.top.cell (i := 0) rfl
      have g1' := r5.cell (i := 0) rfl
      have hxb : ¬ (x = sb ∨ x = db) := fun e => by rcases e with e | e; exact h5.e1.2.1 e; exact h5.e1.2.2.1 e
      have hDb : ¬ (D = sb ∨ D = db) := fun e => by rcases e with e | e; exact hDm sb (by simp [fm]) e.symm; exact hDm db (by simp [fm]) e.symm
      have hD1b : ¬ (D + 1 = sb ∨ D + 1 = db) := fun e => by rcases e with e | e; exact hDm1 sb (by simp [fm]) e.symm; exact hDm1 db (by simp [fm]) e.symm
      have KE := rend_all _ _ _ _ _ _ _ (h5.seat.drewN 1) q ev
      rw [hfv] at KE
      have h6d := h5.keep ((Upd.refl (fun _ => False) w6).drewN 1) (fun _ _ => id)
      have HKE := Lib.hid KE
      clear KE hfv hw6 hfl hRb hR5s hM hmid HST hi1 hi2 hi3 h1 g1 R0 R1 c0 c1 c2 c3 c4 n1 a1 UP1
      go_wp2_with fail
      go_region_held3 (fun w' => w'.cell? ⟨x, 0, none⟩ = some (.pointer (some ⟨sx, 0, none⟩)) ∧ w'.cell? ⟨D + 1, 0, none⟩ = some (.int .i64 ev)) ((first | exact ⟨g0, g1'⟩ | exact ⟨e0, e1⟩))
        ((go_at_call 98; refine HKE.out.mono ?_; rintro e w7 ⟨rfl, hs7, u7⟩; have e0 := cell_upd u7 g0 hxb; have e1 := cell_upd u7 g1' hD1b))
      have A7 := h6d.seats HFL.out hs7 u7
      have g7 := (g5.drewN 1).keep u7 (fun i hi => (HRB.out i hi).1)
      have r7 := (r5.drewN 1).upd u7 hD1b
      have q7 := (q5.drewN 1).upd u7 hDb
      have up7 : Upd (fun i => fm x sx sb db pc nb ab i ∨ R i) w w7 := (u5.drewN 1).trans (u7.mono fun i _ e => by rcases e with rfl | rfl <;> simp [fm])
      clear e0 e1 g0 g1' h5 h6d g5 r5 q5 u5 u7 hs7 HKE
      have y0 := r7.cell (i := 0) rfl
      have y1 := r7.cell (i := 1) rfl
      have y2 := r7.cell (i := 2) rfl
      have y3 := r7.cell (i := 3) rfl
      have z0 := q7.cell (i := 0) rfl
      have z1 := q7.cell (i := 1) rfl
      have z2 := q7.cell (i := 2) rfl
      have z3 := q7.cell (i := 3) rfl
      have k0 := q7.frozen 0
      have k1 := q7.frozen 1
      have k2 := q7.frozen 2
      have k3 := q7.frozen 3
      go_wp2_with fail
      have RE := did4 q7 (.int .i64 ev) (.int .i64 i1) (.int .i64 i2) (.int .i64 i3)
      have UE := upd4 w7 D (.int .i64 ev) (.int .i64 i1) (.int .i64 i2) (.int .i64 i3)
      obtain ⟨w9, hw9⟩ : ∃ w9, (((w7.setCell ⟨D, 0, none⟩ (.int .i64 ev)).setCell ⟨D, 1, none⟩ (.int .i64 i1)).setCell ⟨D, 2, none⟩ (.int .i64 i2)).setCell ⟨D, 3, none⟩ (.int .i64 i3) = w9 := ⟨_, rfl⟩
      rw [hw9] at RE UE ⊢
      have g0 := RE.cell (i := 0) rfl
      have g1' := RE.cell (i := 1) rfl
      have g2 := RE.cell (i := 2) rfl
      have g3 := RE.cell (i := 3) rfl
      refine bodyPost_ret (v := didm (ev, b1, b2, b3)) (by rw [HDM.out]; simp [results, Try.results94, go_sem, g0, g1', g2, g3]) rfl ?_
      rw [HST2.out]
      refine ⟨rfl, ⟨al', A7.keep UE (fun i hi e => hDm i hi e), up_rel HREL.out HM.out fl⟩, R', g7.keep UE (fun i hi e => (HRB.out i hi).2 e), up7.then UE (fun i hi e => by have := HD.out; omega), fun i hi => ?_⟩
      rcases HRS.out i hi with h | h
      · exact .inl h
      · exact .inr (by omega)
end Go.Proofs.Ytgoaaijdlhhkkaa.Ref12
