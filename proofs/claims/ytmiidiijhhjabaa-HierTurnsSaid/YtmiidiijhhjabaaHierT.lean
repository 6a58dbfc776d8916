/- The queue lock of queues makes headway. No program in sight. -/
import Derived.Test.YtmiidiijhhjabaaHierO
import Derived.Test.YtmiidiijhhjabaaGear
namespace Go.Proofs.Ytmiidiijhhjabaa.HierT
open Go Go.Proofs.Ytmiidiijhhjabaa.Heap Go.Proofs.Ytmiidiijhhjabaa.Seat Go.Proofs.Ytmiidiijhhjabaa.Mach Go.Proofs.Ytmiidiijhhjabaa.SeatP Go.Proofs.Ytmiidiijhhjabaa.StepU Go.Proofs.Ytmiidiijhhjabaa.Hier Go.Proofs.Ytmiidiijhhjabaa.HierQ Go.Proofs.Ytmiidiijhhjabaa.HierP Go.Proofs.Ytmiidiijhhjabaa.HierO Go.Proofs.Ytmiidiijhhjabaa.Has

/-- Steps to go. -/
def ph (st : St) (t : Nat) : Nat := if stt st.seats t = 1 then (10 - fs st.pls t).toNat else if stt st.seats t = 3 then (2 - fs st.pls t).toNat else 0
def GI (n : Nat) (hs : List Int) (st : St) : Prop := (∃ g, I n hs st g) ∧ ∀ t, t < n → stt st.seats t ≠ 2
/-- Who comes on at its next step. -/
def Ok (st : St) (g : G) (u : Nat) : Prop := stt st.seats u = 3 ∨ stt st.seats u = 1 ∧ ((fs st.pls u ≠ 2 ∧ fs st.pls u ≠ 7) ∨ (g.lo u = 2 ∧ g.r u = g.H) ∨ (fs st.pls u = 2 ∧ g.lo u = 1 ∧ g.r u = g.hu (fc st.pls u) ∧ g.H = g.E))
def Can (n : Nat) (hs : List Int) (st : St) (u : Nat) : Prop := ∃ g, I n hs st g ∧ Ok st g u
abbrev sF (n : Nat) : St → Int → Int → Int → Did × St := fun st t a now => Hier.step n 0 st t a now
theorem step_watch {n : Nat} {hs : List Int} {st : St} {g : G} (f : I n hs st g) (u : Nat) (hu : u < n) (h1 : stt st.seats u = 1) (h2 : fs st.pls u = 2) (hv : fF st.ws (fa st.pls u) / 4 ≠ fc st.pls u ∨ fF st.ws (fa st.pls u) % 2 = 1) : fs (Hier.step n 0 st u u 0).2.pls u = 3 := by
  have hpl : u < st.pls.length := by rw [f.pl]; exact hu
  have E : (lockS n 0 st u u).2.pls = st.pls.set u { st.pls.getD u p0 with s := 3 } := by
    unfold lockS
    dsimp only
    have h2 : (st.pls.getD u p0).s = 2 := h2
    have hv : Mem.get st.ws (nodeA 0 (st.pls.getD u p0).a) / 4 ≠ (st.pls.getD u p0).c ∨ Mem.get st.ws (nodeA 0 (st.pls.getD u p0).a) % 2 = 1 := hv
    rw [if_neg (by omega), if_neg (by omega), if_pos h2, rd_in hu, if_pos hv]
  rw [step_lock h1]
  show fs (lockS n 0 st u u).2.pls u = 3
  rw [E, (fset st.pls u hpl { st.pls.getD u p0 with s := 3 } rfl).2.2.2.2.2, up_eq]
/-- A step, and the unlock of who was granted. -/
theorem one {n : Nat} {hs : List Int} {st : St} {g : G} (f : I n hs st g) (u : Nat) (hu : u < n) (h0 : stt st.seats u ≠ 0) (h2 : stt st.seats u ≠ 2) :
    ∃ g', I n hs (go1 St.seats setS (sF n) st u) g' ∧ (∀ v, v ≠ u → stt (go1 St.seats setS (sF n) st u).seats v = stt st.seats v ∧ fs (go1 St.seats setS (sF n) st u).pls v = fs st.pls v) ∧
    ((¬ Ok st g u ∧ (sF n st u u 0).1.1 ≠ 1 ∧ g' = g ∧ stt (go1 St.seats setS (sF n) st u).seats = stt st.seats ∧ fs (go1 St.seats setS (sF n) st u).pls = fs st.pls ∧ fc (go1 St.seats setS (sF n) st u).pls = fc st.pls) ∨
     (ph (go1 St.seats setS (sF n) st u) u < ph st u ∧
      (((sF n st u u 0).1.1 = 1 ∧ (turn (sF n st u u 0).2.seats u 3).1 = 0 ∧ stt st.seats u = 1 ∧ stt (go1 St.seats setS (sF n) st u).seats u = 3) ∨
       ((sF n st u u 0).1.1 ≠ 1 ∧ (stt (go1 St.seats setS (sF n) st u).seats u = stt st.seats u ∨ (stt st.seats u = 3 ∧ stt (go1 St.seats setS (sF n) st u).seats u = 0)))))) := by
  obtain ⟨st', g', y, e, f', w⟩ := stepW f u hu 0
  have wc := w.cl
  have ws := w.s
  have wp := w.sp
  have wg := w.gh
  have wo := w.on
  have e' : sF n st u u 0 = (wayDid y, st') := e
  obtain ⟨G1, hG⟩ : ∃ G1, go1 St.seats setS (sF n) st u = G1 := ⟨_, rfl⟩
  have no : (wayDid y).1 ≠ 1 → G1 = st' := fun h => by
    rw [← hG]; unfold go1
    rw [e', if_neg h]
  have yes : (wayDid y).1 = 1 → stt st'.seats u = 2 → ∃ d, G1 = setS st' (st'.seats.set u (3, d)) ∧ (turn st'.seats u 3).1 = 0 := fun h hs2 => by
    have hl : u < st'.seats.length := by rw [f'.sl]; exact hu
    obtain ⟨d, ed⟩ := turn_eq st'.seats u 3 hl hs2
    refine ⟨d, ?_, turn_ok _ _ _ hl hs2⟩
    rw [← hG]; unfold go1
    rw [e', if_pos h, ed]
  rw [hG, e']
  cases y with
  | stay =>
    dsimp only at ws wp wg wo
    have hn := no (by decide)
    subst hn
    have wg : g' = g := wg
    refine ⟨g', f', fun v _ => ⟨by rw [ws], by rw [wp]⟩, .inl ⟨fun ok => ?_, (show (0 : Int) ≠ 1 by decide), wg, ws, wp, wc⟩⟩
    rcases wo with o | o | ⟨o1, o2, o3⟩
    · exact h0 o
    · exact h2 o
    · rcases ok with k | ⟨_, k | ⟨k1, k2⟩ | ⟨k1, k2, k3, k4⟩⟩
      · omega
      · omega
      · exact o3 k1 k2
      · have hk := f.hi.ku u hu k2 k1 k3
        rcases hk with ⟨p, p1, p2, _⟩ | ⟨_, _, q3, _⟩
        · have := f.hi.rO p p1 p2
          omega
        · have := step_watch f u hu o1 k1 q3
          rw [e] at this
          have : fs G1.pls u = 3 := this
          rw [wp] at this
          omega
  | grantF =>
    dsimp only at ws wp wg wo
    obtain ⟨o1, o2, o3, o4⟩ := wo
    obtain ⟨d, hd, ht⟩ := yes (by decide) (by rw [ws, up_eq])
    have hl : u < st'.seats.length := by rw [f'.sl]; exact hu
    have hst : stt G1.seats = up (up (stt st.seats) u 2) u 3 := by rw [hd]; show stt (st'.seats.set u (3, d)) = _; rw [stt_up _ _ hl, ws]
    have hfs : fs G1.pls = up (fs st.pls) u 0 := by rw [hd]; exact wp
    refine ⟨g', by rw [hd]; exact seat_unl f' u hl (by rw [ws, up_eq]) d, fun v hv => ⟨by rw [hst, up_ne _ _ hv, up_ne _ _ hv], by rw [hfs, up_ne _ _ hv]⟩, .inr ⟨?_, .inl ⟨rfl, ht, o1, by rw [hst, up_eq]⟩⟩⟩
    unfold ph
    rw [hst, hfs, up_eq, up_eq, if_pos o1, o4]; decide
  | grantL =>
    dsimp only at ws wp wg wo
    obtain ⟨o1, o2, o3, o4⟩ := wo
    obtain ⟨d, hd, ht⟩ := yes (by decide) (by rw [ws, up_eq])
    have hl : u < st'.seats.length := by rw [f'.sl]; exact hu
    have hst : stt G1.seats = up (up (stt st.seats) u 2) u 3 := by rw [hd]; show stt (st'.seats.set u (3, d)) = _; rw [stt_up _ _ hl, ws]
    have hfs : fs G1.pls = up (fs st.pls) u 0 := by rw [hd]; exact wp
    refine ⟨g', by rw [hd]; exact seat_unl f' u hl (by rw [ws, up_eq]) d, fun v hv => ⟨by rw [hst, up_ne _ _ hv, up_ne _ _ hv], by rw [hfs, up_ne _ _ hv]⟩, .inr ⟨?_, .inl ⟨rfl, ht, o1, by rw [hst, up_eq]⟩⟩⟩
    unfold ph
    rw [hst, hfs, up_eq, up_eq, if_pos o1, o4]; decide
  | release =>
    dsimp only at ws wp wg wo
    obtain ⟨o1, o2⟩ := wo
    have hn := no (by decide)
    subst hn
    refine ⟨g', f', fun v hv => ⟨by rw [ws, up_ne _ _ hv], by rw [wp, up_ne _ _ hv]⟩, .inr ⟨?_, .inr ⟨(show (3 : Int) ≠ 1 by decide), .inr ⟨o1, by rw [ws, up_eq]⟩⟩⟩⟩
    unfold ph
    rw [ws, wp, up_eq, up_eq, o1, o2]; decide
  | queue =>
    dsimp only at ws wp wo
    obtain ⟨o1, o2⟩ := wo
    have hn := no (by decide)
    subst hn
    refine ⟨g', f', fun v hv => ⟨by rw [ws], by rw [wp, up_ne _ _ hv]⟩, .inr ⟨?_, .inr ⟨(show (0 : Int) ≠ 1 by decide), .inl (by rw [ws])⟩⟩⟩
    unfold ph
    rw [ws, wp, up_eq, o1, o2, if_pos rfl, if_pos rfl]
    split <;> decide
  | _ =>
    dsimp only at ws wp wo
    obtain ⟨o1, o2⟩ := wo
    have hn := no (by decide)
    subst hn
    refine ⟨g', f', fun v hv => ⟨by rw [ws], by rw [wp, up_ne _ _ hv]⟩, .inr ⟨?_, .inr ⟨(show (0 : Int) ≠ 1 by decide), .inl (by rw [ws])⟩⟩⟩
    unfold ph
    rw [ws, wp, up_eq, o1, o2]; decide
theorem gear (n : Nat) (hs : List Int) : Gear false n St.seats setS (sF n) 11 (GI n hs) ph (Can n hs) where
  states := fun st t h ht => by
    obtain ⟨⟨g, f⟩, h2⟩ := h
    have := f.hi.rg t ht
    have := h2 t ht
    rw [state_nat]; omega
  call := fun st t h ht h0 => by
    obtain ⟨⟨g, f⟩, h2⟩ := h
    rw [state_nat] at h0
    have hl : t < st.seats.length := by rw [f.sl]; exact ht
    have e : callS false St.seats setS st t = setS st (st.seats.set t (1, -1)) := by unfold callS; rw [lock_eq _ _ _ hl h0]
    have hst : stt (setS st (st.seats.set t (1, -1))).seats = up (stt st.seats) t 1 := stt_up _ _ hl _ _
    have k0 := (f.hi.s0 t ht h0).2
    rw [e]
    refine ⟨⟨⟨g, seat_call f t hl h0 (-1)⟩, fun u hu => ?_⟩, by rw [state_nat, hst, up_eq], ?_, fun u _ hne => ⟨by rw [state_nat, hst, up_ne _ _ hne, state_nat], ?_⟩⟩
    · rw [hst]; unfold up
      split
      · decide
      · exact h2 u hu
    · unfold ph
      rw [hst, up_eq, if_pos rfl, show fs (setS st (st.seats.set t (1, -1))).pls t = 0 from k0]; decide
    · unfold ph
      rw [hst, up_ne _ _ hne]; rfl
  rest := fun st t h ht h0 => by
    have e : sF n st t t 0 = ((0, false, false, false), st) := step_idle (by omega) (by omega) _ _
    rw [e]
    exact ⟨(show (0 : Int) ≠ 1 by decide), rfl⟩
  act := fun st t h ht hs0 => by
    obtain ⟨⟨g, f⟩, h2⟩ := h
    rw [state_nat] at hs0
    obtain ⟨g', f', ho, hc⟩ := one f t ht hs0 (h2 t ht)
    have all2 : ∀ u, u < n → stt (go1 St.seats setS (sF n) st t).seats u ≠ 2 := fun u hu => by
      by_cases eu : u = t
      · subst eu
        rcases hc with ⟨_, _, _, h5, _⟩ | ⟨_, ⟨_, _, _, h5⟩ | ⟨_, h5 | ⟨_, h5⟩⟩⟩
        · rw [h5]; exact h2 u hu
        · omega
        · rw [h5]; exact h2 u hu
        · omega
      · rw [(ho u eu).1]; exact h2 u hu
    have phe : stt (go1 St.seats setS (sF n) st t).seats = stt st.seats → fs (go1 St.seats setS (sF n) st t).pls = fs st.pls → ph (go1 St.seats setS (sF n) st t) t = ph st t := fun a b => by
      unfold ph; rw [a, b]
    refine ⟨⟨⟨g', f'⟩, all2⟩, fun u _ hne => ⟨by rw [state_nat, (ho u hne).1, state_nat], by unfold ph; rw [(ho u hne).1, (ho u hne).2]⟩, ?_, fun hcan => ?_, fun u hu hne hcan => ?_, ?_⟩
    · rcases hc with ⟨_, _, _, h5, h6, _⟩ | ⟨h5, _⟩
      · exact Nat.le_of_eq (phe h5 h6)
      · exact Nat.le_of_lt h5
    · obtain ⟨g2, f2, ok⟩ := hcan
      obtain ⟨_, _, _, hc2⟩ := one f2 t ht hs0 (h2 t ht)
      rcases hc2 with ⟨h5, _⟩ | ⟨h5, _⟩
      · exact absurd ok h5
      · exact h5
    · obtain ⟨g2, f2, ok⟩ := hcan
      obtain ⟨g3, f3, _, hc2⟩ := one f2 t ht hs0 (h2 t ht)
      rcases hc2 with ⟨_, _, h5, h6, h7, h8⟩ | ⟨h5, _⟩
      · subst h5
        right
        refine ⟨g3, f3, ?_⟩
        unfold Ok
        rw [h6, h7, h8]; exact ok
      · exact .inl h5
    · rcases hc with ⟨_, h4, _, h5, _⟩ | ⟨_, ⟨h3, h4, h5, h6⟩ | ⟨h3, h4⟩⟩
      · exact .inr ⟨h4, .inl (by rw [state_nat, h5, state_nat])⟩
      · exact .inl ⟨h3, h4, by rw [state_nat]; exact h5, by rw [state_nat]; exact h6⟩
      · refine .inr ⟨h3, ?_⟩
        rw [state_nat, state_nat]; exact h4
  live := fun st h hb => by
    obtain ⟨⟨g, f⟩, h2⟩ := h
    obtain ⟨t, ht, hs0⟩ := hb
    rw [state_nat] at hs0
    have hi := f.hi
    have fin : ∀ u, u < n → Ok st g u → ∃ u, u < n ∧ state st.seats u ≠ 0 ∧ Can n hs st u := fun u hu ok => ⟨u, hu, by
      rw [state_nat]
      rcases ok with k | ⟨k, _⟩ <;> omega, g, f, ok⟩
    by_cases hE : g.H = g.E
    · have no2 : ∀ p, p < n → g.lo p ≠ 2 := fun p hp e => by have := hi.rO p hp e; omega
      have rg := hi.rg t ht
      have h2t := h2 t ht
      have h1 : stt st.seats t = 1 := by
        rcases (show stt st.seats t = 1 ∨ stt st.seats t = 3 by omega) with e | e
        · exact e
        · exact absurd (hi.s3 t ht e).1 (no2 t ht)
      have k1 := hi.s1 t ht h1
      rcases (show g.lo t = 0 ∨ g.lo t = 1 by have := no2 t ht; omega) with l | l
      · exact fin t ht (.inr ⟨h1, .inl (by omega)⟩)
      · have hc := hi.clr t ht
        have hr := hi.rU t ht l
        obtain ⟨m, m1, m2, m3, m4⟩ := hi.oU (fc st.pls t) (g.hu (fc st.pls t)) hc.1 hc.2 (Int.le_refl _) (by omega)
        have s1 : stt st.seats m = 1 := hi.lo1 m m1 m2
        have k2 := hi.s1 m m1 s1
        by_cases e2 : fs st.pls m = 2
        · exact fin m m1 (.inr ⟨s1, .inr (.inr ⟨e2, m2, by rw [m3]; exact m4, hE⟩)⟩)
        · exact fin m m1 (.inr ⟨s1, .inl ⟨e2, by have := k2.2.2.2.1 m2; omega⟩⟩)
    · have := hi.hE
      obtain ⟨m, m1, m2, m3⟩ := hi.oO g.H (Int.le_refl _) (by omega)
      have rg := hi.rg m m1
      have h2m := h2 m m1
      rcases (show stt st.seats m = 0 ∨ stt st.seats m = 1 ∨ stt st.seats m = 3 by omega) with e | e | e
      · have := (hi.s0 m m1 e).1; omega
      · exact fin m m1 (.inr ⟨e, .inr (.inl ⟨m2, m3⟩)⟩)
      · exact fin m m1 (.inl e)
end Go.Proofs.Ytmiidiijhhjabaa.HierT
