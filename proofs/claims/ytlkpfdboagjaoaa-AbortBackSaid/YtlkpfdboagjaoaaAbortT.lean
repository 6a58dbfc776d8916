/- The lock of whom time may run out makes headway, where nobody has a deadline. No program in sight. -/
import Derived.Test.YtlkpfdboagjaoaaAbortO
import Derived.Test.YtlkpfdboagjaoaaGear
namespace Go.Proofs.Ytlkpfdboagjaoaa.AbortT
open Go Go.Proofs.Ytlkpfdboagjaoaa.Heap Go.Proofs.Ytlkpfdboagjaoaa.Seat Go.Proofs.Ytlkpfdboagjaoaa.Mach Go.Proofs.Ytlkpfdboagjaoaa.SeatP Go.Proofs.Ytlkpfdboagjaoaa.StepU Go.Proofs.Ytlkpfdboagjaoaa.Abort Go.Proofs.Ytlkpfdboagjaoaa.AbortQ Go.Proofs.Ytlkpfdboagjaoaa.AbortP Go.Proofs.Ytlkpfdboagjaoaa.AbortO Go.Proofs.Ytlkpfdboagjaoaa.Has

/-- Where nobody gives up: steps that may be; each rank is somebody's; each holder has a node of its own; nobody looks twice. -/
structure TQ (n : Nat) (s sp nd fr r : Nat → Int) (ow : Int → Int) (H E : Int) : Prop where
  s7 : ∀ t, t < n → s t = 1 → sp t ≤ 6
  s4 : ∀ t, t < n → s t = 3 → sp t ≠ 4
  rk : ∀ i, H < i → i < E → ∃ t, t < n ∧ s t = 1 ∧ 5 ≤ sp t ∧ r t = i
  kw : ∀ t, t < n → s t = 2 ∨ s t = 3 → ow (nd t) = t
  r0 : ∀ t, t < n → s t = 1 → sp t = 0 → fr t = 0
structure TI (n c : Nat) (st : St) (g : G) : Prop where
  dl : ∀ t, t < n → stt st.seats t = 1 → (st.seats.getD t (0, -1)).2 = -1
  tq : TQ n (stt st.seats) (fS st.pls) (fN st.pls) (fR st.pls) g.r (own c) g.H g.E
section
variable {n c : Nat} {st st' : St} {g g' : G} {u : Nat} {y : Wy}
theorem TI.call (h : TI n c st g) (f : I n c st g) (k : Nat) (hk : k < st.seats.length) (h0 : stt st.seats k = 0) : TI n c (setS st (st.seats.set k (1, -1))) g := by
  have hkn : k < n := by rw [← f.sl]; exact hk
  have e : stt (setS st (st.seats.set k (1, -1))).seats = up (stt st.seats) k 1 := stt_up st.seats k hk 1 (-1)
  have a : fR st.pls k = 0 := (f.rr k hkn).1 h0
  have b : fS st.pls k = 0 := f.aq.s0 k hkn (.inl h0)
  obtain ⟨a1, a2, a3, a4, a5⟩ := h.tq
  refine ⟨fun t ht h1 => ?_, ?_⟩
  · show ((st.seats.set k (1, -1)).getD t (0, -1)).2 = -1
    rw [seat_set _ _ hk]
    split
    · rfl
    · rename_i ne; rw [e, up_ne _ _ ne] at h1; exact h.dl t ht h1
  · rw [e]
    show TQ n (up (stt st.seats) k 1) (fS st.pls) (fN st.pls) (fR st.pls) g.r (own c) g.H g.E
    constructor
    case rk =>
      intro i h1 h2
      obtain ⟨t, t1, t2, t3, t4⟩ := a3 i h1 h2
      exact ⟨t, t1, by unfold up; split <;> first | rfl | exact t2, t3, t4⟩
    all_goals grind [up]
theorem TI.unl (h : TI n c st g) (f : I n c st g) (k : Nat) (hk : k < st.seats.length) (h0 : stt st.seats k = 2) (d : Int) : TI n c (setS st (st.seats.set k (3, d))) g := by
  have hkn : k < n := by rw [← f.sl]; exact hk
  have e : stt (setS st (st.seats.set k (3, d))).seats = up (stt st.seats) k 3 := stt_up st.seats k hk 3 d
  have b : fS st.pls k = 0 := f.aq.s0 k hkn (.inr h0)
  obtain ⟨a1, a2, a3, a4, a5⟩ := h.tq
  refine ⟨fun t ht h1 => ?_, ?_⟩
  · show ((st.seats.set k (3, d)).getD t (0, -1)).2 = -1
    by_cases ne : t = k
    · subst ne; rw [e, up_eq] at h1; omega
    · rw [seat_set _ _ hk, if_neg ne]; rw [e, up_ne _ _ ne] at h1; exact h.dl t ht h1
  · rw [e]
    show TQ n (up (stt st.seats) k 3) (fS st.pls) (fN st.pls) (fR st.pls) g.r (own c) g.H g.E
    constructor
    case rk =>
      intro i h1 h2
      obtain ⟨t, t1, t2, t3, t4⟩ := a3 i h1 h2
      exact ⟨t, t1, by rw [up_ne _ _ (fun z => by subst z; omega)]; exact t2, t3, t4⟩
    all_goals grind [up]
/-- Its own node is nobody's. -/
theorem TI.free (h : TI n c st g) (f : I n c st g) (hu : u < n) (h1 : stt st.seats u = 1) (h2 : fS st.pls u = 0) : gU st.ws ((u : Int) * c + fR st.pls u + 1) = 0 := by
  have hr := h.tq.r0 u hu h1 h2
  obtain ⟨n1, n2, n3⟩ := node_rng (c := c) hu 0 (Int.le_refl _) (by have := f.c1; omega)
  rw [hr]
  rcases f.aq.bz _ n1 with z | ⟨i, i1, i2, i3⟩ | ⟨v, v1, v2, v3⟩
  · exact z
  · exfalso
    rcases (show g.H < i ∨ i = g.H by omega) with e | e
    · obtain ⟨t, t1, t2, t3, t4⟩ := h.tq.rk i e i2
      obtain ⟨_, _, w3, w4⟩ := f.aq.wt t t1 t2 t3
      rw [t4] at w3
      rw [← w3, i3, n3] at w4
      obtain rfl : u = t := by omega
      omega
    · subst e
      rcases f.aq.r0 (by omega) with ⟨t, t1, t2⟩ | ⟨t, t1, t2, t3, t4, _⟩
      · have w := (f.aq.kh t t1 t2).2
        have o := h.tq.kw t t1 (by rcases t2 with z | z; exact .inl z; exact .inr z.1)
        rw [show fN st.pls t = g.nq g.H from w, i3, n3] at o
        obtain rfl : u = t := by omega
        rcases t2 with z | z
        · omega
        · omega
      · obtain ⟨_, _, w3, w4⟩ := f.aq.wt t t1 t2 t3
        rw [t4] at w3
        rw [← w3, i3, n3] at w4
        obtain rfl : u = t := by omega
        omega
  · exfalso
    rcases v3 with ⟨b1, b2, b3⟩ | ⟨b1, b2⟩
    · have o := (f.aq.cl v v1 b1 (by omega) b3).1
      rw [v2, n3] at o
      obtain rfl : u = v := by omega
      omega
    · have o := h.tq.kw v v1 (.inr b1)
      rw [show fN st.pls v = _ from v2, n3] at o
      obtain rfl : u = v := by omega
      omega
theorem TI.way (h : TI n c st g) (f : I n c st g) (hu : u < n) (w : Went c st g u 0 st' g' y) : y ≠ .on ∧ y ≠ .refused ∧ y ≠ .late ∧ y ≠ .gone ∧ y ≠ .over ∧ y ≠ .skip := by
  have wo := w.on
  refine ⟨?_, ?_, ?_, ?_, ?_, ?_⟩ <;> intro e <;> subst e <;> dsimp only [wayOn] at wo
  · exact wo.2.2.1 (h.free f hu wo.1 wo.2.1)
  · exact wo.2.2 (h.free f hu wo.1 wo.2.1)
  · have hl : u < st.seats.length := by rw [f.sl]; exact hu
    have e := wo.2.2
    unfold lateB deadline at e
    rw [inB_mk hl, if_pos rfl, Int.toNat_natCast, h.dl u hu wo.1] at e
    exact absurd e (by decide)
  · have := h.tq.s7 u hu wo.1
    omega
  · have k := f.aq.u3 u hu wo.1 (.inl wo.2.1)
    obtain ⟨t, t1, t2, t3, t4⟩ := h.tq.rk (g.H + 1) (by omega) k.1
    have w3 := (f.aq.wt t t1 t2 t3).2.2.1
    rw [t4] at w3
    have e2 : fO st.pls u = fN st.pls t := k.2.1.trans w3
    rcases f.aq.wf t t1 t2 t3 with z | z
    · exact wo.2.2 (by rw [e2]; exact z)
    · omega
  · exact h.tq.s4 u hu wo.1 wo.2.1
theorem seat_way (y : Wy) (l : List (Int × Int)) (hu : u < l.length) (v : Nat) (h : (l.getD v (0, -1)).2 = -1) : ((waySeat y u l).getD v (0, -1)).2 = -1 := by
  have k : ∀ z : Int, ((l.set u (z, -1)).getD v (0, -1)).2 = -1 := fun z => by
    rw [seat_set _ _ hu]
    split
    · rfl
    · exact h
  cases y <;> first | exact k _ | exact h
theorem way_one (y : Wy) (s : Nat → Int) (v : Nat) (h : wayS y u s v = 1) : s v = 1 := by
  cases y <;> dsimp only [wayS] at h <;> first | exact h | (unfold up at h; split at h <;> first | omega | exact h)
set_option maxHeartbeats 2000000 in
theorem TI.step (h : TI n c st g) (f : I n c st g) (hu : u < n) (w : Went c st g u 0 st' g' y) : TI n c st' g' := by
  obtain ⟨b1, b2, b3, b4, b5, b6⟩ := h.way f hu w
  have hl : u < st.seats.length := by rw [f.sl]; exact hu
  have ws := w.s; have wp := w.sp; have wn := w.nd; have wr := w.rk; have wf := w.ro; have wo := w.on; have he := w.he
  refine ⟨fun t ht h1 => ?_, ?_⟩
  · rw [w.se]
    rw [ws] at h1
    exact seat_way y st.seats hl t (h.dl t ht (way_one y _ t h1))
  · obtain ⟨a1, a2, a3, a4, a5⟩ := h.tq
    have c1 := f.aq.s1 u hu
    have c2 := f.aq.s3 u hu
    have c3 := f.aq.s0 u hu
    have c4 := f.aq.cl u hu
    have c5 := f.aq.wt u hu
    have c6 := f.aq.wf u hu
    rw [ws, wp, wn]
    generalize fR st'.pls = fr' at wf ⊢
    clear ws wp wn
    cases y <;> first | contradiction | skip
    all_goals
      dsimp only [wayS, wayP, wayN, wayOn, wayE] at wr wo he ⊢
      rw [wr]
      constructor
      case rk =>
        intro i h1 h2
        by_cases z : g.H < i ∧ i < g.E
        · obtain ⟨t, t1, t2, t3, t4⟩ := a3 i z.1 z.2
          refine ⟨t, t1, ?_, ?_, ?_⟩ <;> grind [up]
        · exact ⟨u, hu, by grind [up], by grind [up], by grind [up]⟩
      all_goals grind [up]
end
/-- Steps to go. -/
def ph (st : St) (t : Nat) : Nat := if stt st.seats t = 1 then (14 - fS st.pls t).toNat else if stt st.seats t = 3 then (6 - fS st.pls t).toNat else 0
def GI (n c : Nat) (st : St) : Prop := (∃ g, I n c st g ∧ TI n c st g) ∧ ∀ t, t < n → stt st.seats t ≠ 2
/-- Who comes on at its next step. -/
def Ok (st : St) (u : Nat) : Prop := (stt st.seats u = 3 ∧ (fS st.pls u ≠ 2 ∨ gN st.ws (fN st.pls u) ≠ 0)) ∨ (stt st.seats u = 1 ∧ (fS st.pls u ≠ 6 ∨ gF st.ws (fN st.pls u) ≠ 0))
abbrev sF (n c : Nat) : St → Int → Int → Int → Did × St := fun st t a now => Abort.step n 0 c st t a now
/-- A step, and the unlock of who was granted. -/
theorem one {n c : Nat} {st : St} {g : G} (f : I n c st g) (h : TI n c st g) (u : Nat) (hu : u < n) (h0 : stt st.seats u ≠ 0) (h2 : stt st.seats u ≠ 2) :
    (∃ g', I n c (go1 St.seats setS (sF n c) st u) g' ∧ TI n c (go1 St.seats setS (sF n c) st u) g') ∧ (∀ v, v ≠ u → stt (go1 St.seats setS (sF n c) st u).seats v = stt st.seats v ∧ fS (go1 St.seats setS (sF n c) st u).pls v = fS st.pls v) ∧
    ((¬ Ok st u ∧ (sF n c st u u 0).1.1 ≠ 1 ∧ stt (go1 St.seats setS (sF n c) st u).seats = stt st.seats ∧ fS (go1 St.seats setS (sF n c) st u).pls = fS st.pls ∧ fN (go1 St.seats setS (sF n c) st u).pls = fN st.pls ∧ (go1 St.seats setS (sF n c) st u).ws = st.ws) ∨
     (ph (go1 St.seats setS (sF n c) st u) u < ph st u ∧
      (((sF n c st u u 0).1.1 = 1 ∧ (turn (sF n c st u u 0).2.seats u 3).1 = 0 ∧ stt st.seats u = 1 ∧ stt (go1 St.seats setS (sF n c) st u).seats u = 3) ∨
       ((sF n c st u u 0).1.1 ≠ 1 ∧ (stt (go1 St.seats setS (sF n c) st u).seats u = stt st.seats u ∨ (stt st.seats u = 3 ∧ stt (go1 St.seats setS (sF n c) st u).seats u = 0)))))) := by
  obtain ⟨st', g', y, e, f', w⟩ := stepW f u hu 0
  obtain ⟨b1, b2, b3, b4, b5, b6⟩ := h.way f hu w
  have h' := h.step f hu w
  have ws := w.s
  have wp := w.sp
  have wn := w.nd
  have wo := w.on
  have k1 := f.aq.s1 u hu
  have k3 := f.aq.s3 u hu
  have e' : sF n c st u u 0 = (wayDid y, st') := e
  obtain ⟨G1, hG⟩ : ∃ G1, go1 St.seats setS (sF n c) st u = G1 := ⟨_, rfl⟩
  have no : (wayDid y).1 ≠ 1 → G1 = st' := fun h => by
    rw [← hG]; unfold go1
    rw [e', if_neg h]
  have yes : (wayDid y).1 = 1 → stt st'.seats u = 2 → ∃ d, G1 = setS st' (st'.seats.set u (3, d)) ∧ (turn st'.seats u 3).1 = 0 := fun h hs2 => by
    have hl : u < st'.seats.length := by rw [f'.sl]; exact hu
    obtain ⟨d, ed⟩ := turn_eq st'.seats u 3 hl hs2
    refine ⟨d, ?_, turn_ok _ _ _ hl hs2⟩
    rw [← hG]; unfold go1
    rw [e', if_pos h, ed]
  have grant : ∀ {v0 : Int}, (wayDid y).1 = 1 → stt st'.seats = up (stt st.seats) u 2 → fS st'.pls = up (fS st.pls) u 0 → stt st.seats u = 1 → fS st.pls u = v0 → v0 ≤ 7 →
      (∃ g', I n c G1 g' ∧ TI n c G1 g') ∧ (∀ v, v ≠ u → stt G1.seats v = stt st.seats v ∧ fS G1.pls v = fS st.pls v) ∧ ph G1 u < ph st u ∧ (turn st'.seats u 3).1 = 0 ∧ stt G1.seats u = 3 := fun {v0} hd hs hp h1 hv0 hv7 => by
    obtain ⟨d, hd2, ht⟩ := yes hd (by rw [hs, up_eq])
    have hl : u < st'.seats.length := by rw [f'.sl]; exact hu
    have hst : stt G1.seats = up (up (stt st.seats) u 2) u 3 := by rw [hd2]; show stt (st'.seats.set u (3, d)) = _; rw [stt_up _ _ hl, hs]
    have hfs : fS G1.pls = up (fS st.pls) u 0 := by rw [hd2]; exact hp
    refine ⟨⟨g', by rw [hd2]; exact seat_unl f' u hl (by rw [hs, up_eq]) d, by rw [hd2]; exact h'.unl f' u hl (by rw [hs, up_eq]) d⟩, fun v hv => ⟨by rw [hst, up_ne _ _ hv, up_ne _ _ hv], by rw [hfs, up_ne _ _ hv]⟩, ?_, ht, by rw [hst, up_eq]⟩
    unfold ph
    rw [hst, hfs, up_eq, up_eq, if_pos h1, hv0, if_neg (by decide), if_pos rfl]; omega
  rw [hG, e']
  cases y with
  | on => contradiction
  | refused => contradiction
  | late => contradiction
  | gone => contradiction
  | over => contradiction
  | skip => contradiction
  | idle => dsimp only [wayOn] at wo; omega
  | wait =>
    dsimp only [wayS, wayP, wayN, wayOn] at ws wp wn wo
    have hn := no (by decide)
    subst hn
    obtain ⟨o1, o2, o3, o4, o5, o6⟩ := wo
    refine ⟨⟨g', f', h'⟩, fun v _ => ⟨by rw [ws], by rw [wp]⟩, .inl ⟨fun ok => ?_, (show (0 : Int) ≠ 1 by decide), ws, wp, wn, o5⟩⟩
    rcases ok with ⟨q, _⟩ | ⟨_, q | q⟩
    · omega
    · exact q o2
    · exact q o3
  | spin =>
    dsimp only [wayS, wayP, wayN, wayOn] at ws wp wn wo
    have hn := no (by decide)
    subst hn
    obtain ⟨o1, o2, o3, o4, o5⟩ := wo
    have wp2 : fS G1.pls = fS st.pls := wp.trans (up_self _ _ _ o2)
    refine ⟨⟨g', f', h'⟩, fun v _ => ⟨by rw [ws], by rw [wp2]⟩, .inl ⟨fun ok => ?_, (show (0 : Int) ≠ 1 by decide), ws, wp2, wn, o4⟩⟩
    rcases ok with ⟨_, q | q⟩ | ⟨q, _⟩
    · exact q o2
    · exact q o3
    · omega
  | queue0 =>
    dsimp only [wayS, wayP, wayN, wayOn] at ws wp wn wo
    obtain ⟨o1, o2, o3, o4⟩ := wo
    obtain ⟨z1, z2, z3, z4, z5⟩ := grant rfl ws wp o1 o2 (by decide)
    exact ⟨z1, z2, .inr ⟨z3, .inl ⟨rfl, z4, o1, z5⟩⟩⟩
  | granted =>
    dsimp only [wayS, wayP, wayN, wayOn] at ws wp wn wo
    obtain ⟨o1, o2, o3⟩ := wo
    obtain ⟨z1, z2, z3, z4, z5⟩ := grant rfl ws wp o1 rfl (by omega)
    exact ⟨z1, z2, .inr ⟨z3, .inl ⟨rfl, z4, o1, z5⟩⟩⟩
  | done =>
    dsimp only [wayS, wayP, wayN, wayOn] at ws wp wn wo
    obtain ⟨o1, o2⟩ := wo
    have hn := no (by decide)
    subst hn
    refine ⟨⟨g', f', h'⟩, fun v hv => ⟨by rw [ws, up_ne _ _ hv], by rw [wp, up_ne _ _ hv]⟩, .inr ⟨?_, .inr ⟨(show (3 : Int) ≠ 1 by decide), .inr ⟨o1, by rw [ws, up_eq]⟩⟩⟩⟩
    unfold ph
    rw [ws, wp, up_eq, up_eq, o1, o2]; decide
  | look2 =>
    dsimp only [wayS, wayP, wayN, wayOn] at ws wp wn wo
    obtain ⟨o1, o2⟩ := wo
    have hn := no (by decide)
    subst hn
    refine ⟨⟨g', f', h'⟩, fun v hv => ⟨by rw [ws], by rw [wp, up_ne _ _ hv]⟩, .inr ⟨?_, .inr ⟨(show (0 : Int) ≠ 1 by decide), .inl (by rw [ws])⟩⟩⟩
    unfold ph
    rw [ws, wp, up_eq, o1, if_neg (by decide), if_pos rfl, if_neg (by decide), if_pos rfl]; omega
  | _ =>
    dsimp only [wayS, wayP, wayN, wayOn] at ws wp wn wo
    have hn := no (by decide)
    subst hn
    have o1 := wo.1
    have o2 := wo.2
    try have o2 := wo.2.1
    refine ⟨⟨g', f', h'⟩, fun v hv => ⟨by rw [ws], by rw [wp, up_ne _ _ hv]⟩, .inr ⟨?_, .inr ⟨(show (0 : Int) ≠ 1 by decide), .inl (by rw [ws])⟩⟩⟩
    unfold ph
    rw [ws, wp, up_eq, o1, o2]; decide
theorem gear (n c : Nat) : Gear true n St.seats setS (sF n c) 15 (GI n c) ph Ok where
  states := fun st t h ht => by
    obtain ⟨⟨g, f, _⟩, h2⟩ := h
    have := f.aq.rg t ht
    have := h2 t ht
    rw [state_nat]; omega
  call := fun st t h ht h0 => by
    obtain ⟨⟨g, f, q⟩, h2⟩ := h
    rw [state_nat] at h0
    have hl : t < st.seats.length := by rw [f.sl]; exact ht
    have e : callS true St.seats setS st t = setS st (st.seats.set t (1, -1)) := by unfold callS; rw [lock_eq _ _ _ hl h0]
    have hst : stt (setS st (st.seats.set t (1, -1))).seats = up (stt st.seats) t 1 := stt_up _ _ hl _ _
    have k0 : fS st.pls t = 0 := f.aq.s0 t ht (.inl h0)
    rw [e]
    refine ⟨⟨⟨g, seat_call f t hl h0 (-1), q.call f t hl h0⟩, fun u hu => ?_⟩, by rw [state_nat, hst, up_eq], ?_, fun u _ hne => ⟨by rw [state_nat, hst, up_ne _ _ hne, state_nat], ?_⟩⟩
    · rw [hst]; unfold up
      split
      · decide
      · exact h2 u hu
    · unfold ph
      rw [hst, up_eq, if_pos rfl, show fS (setS st (st.seats.set t (1, -1))).pls t = 0 from k0]; decide
    · unfold ph
      rw [hst, up_ne _ _ hne]; rfl
  rest := fun st t h ht h0 => by
    have e : sF n c st t t 0 = ((0, false, false, false), st) := step_idle (by omega) (by omega) _ _
    rw [e]
    exact ⟨(show (0 : Int) ≠ 1 by decide), rfl⟩
  act := fun st t h ht hs0 => by
    obtain ⟨⟨g, f, q⟩, h2⟩ := h
    rw [state_nat] at hs0
    obtain ⟨hf, ho, hc⟩ := one f q t ht hs0 (h2 t ht)
    have all2 : ∀ u, u < n → stt (go1 St.seats setS (sF n c) st t).seats u ≠ 2 := fun u hu => by
      by_cases eu : u = t
      · subst eu
        rcases hc with ⟨_, _, h5, _⟩ | ⟨_, ⟨_, _, _, h5⟩ | ⟨_, h5 | ⟨_, h5⟩⟩⟩
        · rw [h5]; exact h2 u hu
        · omega
        · rw [h5]; exact h2 u hu
        · omega
      · rw [(ho u eu).1]; exact h2 u hu
    have phe : stt (go1 St.seats setS (sF n c) st t).seats = stt st.seats → fS (go1 St.seats setS (sF n c) st t).pls = fS st.pls → ph (go1 St.seats setS (sF n c) st t) t = ph st t := fun a b => by
      unfold ph; rw [a, b]
    refine ⟨⟨hf, all2⟩, fun u _ hne => ⟨by rw [state_nat, (ho u hne).1, state_nat], by unfold ph; rw [(ho u hne).1, (ho u hne).2]⟩, ?_, fun hcan => ?_, fun u hu hne hcan => ?_, ?_⟩
    · rcases hc with ⟨_, _, h5, h6, _⟩ | ⟨h5, _⟩
      · exact Nat.le_of_eq (phe h5 h6)
      · exact Nat.le_of_lt h5
    · rcases hc with ⟨h5, _⟩ | ⟨h5, _⟩
      · exact absurd hcan h5
      · exact h5
    · rcases hc with ⟨_, _, h5, h6, h7, h8⟩ | ⟨h5, _⟩
      · right
        unfold Ok
        rw [h5, h6, h7, h8]; exact hcan
      · exact .inl h5
    · rcases hc with ⟨_, h4, h5, _⟩ | ⟨_, ⟨h3, h4, h5, h6⟩ | ⟨h3, h4⟩⟩
      · exact .inr ⟨h4, .inl (by rw [state_nat, h5, state_nat])⟩
      · exact .inl ⟨h3, h4, by rw [state_nat]; exact h5, by rw [state_nat]; exact h6⟩
      · refine .inr ⟨h3, ?_⟩
        rw [state_nat, state_nat]; exact h4
  live := fun st h hb => by
    obtain ⟨⟨g, f, q⟩, h2⟩ := h
    obtain ⟨t, ht, hs0⟩ := hb
    rw [state_nat] at hs0
    have hi := f.aq
    have fin : ∀ u, u < n → Ok st u → ∃ u, u < n ∧ state st.seats u ≠ 0 ∧ Ok st u := fun u hu ok => ⟨u, hu, by
      rw [state_nat]
      rcases ok with ⟨k, _⟩ | ⟨k, _⟩ <;> omega, ok⟩
    have hhE := hi.hE
    by_cases hE : g.H = g.E
    · have rg := hi.rg t ht
      have h2t := h2 t ht
      rcases (show stt st.seats t = 1 ∨ stt st.seats t = 3 by omega) with e | e
      · refine fin t ht (.inr ⟨e, .inl fun z => ?_⟩)
        have := hi.wt t ht e (by omega); omega
      · refine fin t ht (.inl ⟨e, .inl fun z => ?_⟩)
        have := (hi.kh t ht (.inr ⟨e, by omega⟩)).1; omega
    · rcases hi.r0 (by omega) with ⟨v, v1, v2⟩ | ⟨v, v1, v2, v3, v4, v5⟩
      · have e3 : stt st.seats v = 3 ∧ fS st.pls v ≤ 4 := by
          rcases v2 with z | z
          · exact absurd z (h2 v v1)
          · exact z
        by_cases e2 : fS st.pls v = 2
        · by_cases eN : gN st.ws (fN st.pls v) = 0
          · have k2 := hi.u2 v v1 e3.1 e2
            have kh := (hi.kh v v1 v2).2
            rcases hi.nx g.H (Int.le_refl _) k2 with z | ⟨_, x, x1, x2, x3, _⟩
            · have p := hi.pos (g.H + 1) (by omega) k2
              rw [show fN st.pls v = g.nq g.H from kh] at eN
              omega
            · exact fin x x1 (.inr ⟨x2, .inl (by omega)⟩)
          · exact fin v v1 (.inl ⟨e3.1, .inr eN⟩)
        · exact fin v v1 (.inl ⟨e3.1, .inl e2⟩)
      · refine fin v v1 (.inr ⟨v2, .inr ?_⟩)
        rw [v5]; decide
theorem start (n c : Nat) (n8 : n ≤ 8) (c1 : 1 ≤ c) : GI n c (st0 n ([] ++ [0] ++ List.replicate (n * (3 * c)) 0)) := by
  have e : ∀ t, stt (st0 n ([] ++ [0] ++ List.replicate (n * (3 * c)) 0)).seats t = 0 := stt0 n
  refine ⟨⟨g0, AbortO.start n c n8 c1, ⟨fun t _ h => ?_, ?_⟩⟩, fun t _ => ?_⟩
  · rw [e] at h; exact absurd h (by decide)
  · constructor
    · intro t _ h; rw [e] at h; exact absurd h (by decide)
    · intro t _ h; rw [e] at h; exact absurd h (by decide)
    · intro i h1 h2
      have h1 : (0 : Int) < i := h1
      have h2 : i < (0 : Int) := h2
      omega
    · intro t _ h; rw [e] at h; rcases h with h | h <;> exact absurd h (by decide)
    · intro t _ h; rw [e] at h; exact absurd h (by decide)
  · rw [e]; decide
/-- All words that tell what is out are 0 where nobody does anything. -/
theorem back {n c : Nat} {st : St} {g : G} (f : I n c st g) (h : ∀ t, t < n → stt st.seats t = 0) : Mem.get st.ws 0 = 0 ∧ ∀ x, 1 ≤ x → gU st.ws x = 0 := by
  have hi := f.aq
  have hhE := hi.hE
  have hE : g.H = g.E := by
    rcases (show g.H = g.E ∨ g.H < g.E by omega) with e | e
    · exact e
    · rcases hi.r0 e with ⟨v, v1, v2⟩ | ⟨v, v1, v2, _⟩
      · have := h v v1
        rcases v2 with z | z <;> omega
      · have := h v v1; omega
  refine ⟨hi.t0 hE, fun x hx => ?_⟩
  rcases hi.bz x hx with z | ⟨i, i1, i2, _⟩ | ⟨v, v1, _, v3⟩
  · exact z
  · omega
  · have := h v v1
    rcases v3 with z | z <;> omega
end Go.Proofs.Ytlkpfdboagjaoaa.AbortT
