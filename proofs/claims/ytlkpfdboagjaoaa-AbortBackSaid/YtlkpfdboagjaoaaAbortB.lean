/- The lock of whom time may run out comes to rest, where nobody calls. No program in sight. -/
import Derived.Test.YtlkpfdboagjaoaaAbortT
namespace Go.Proofs.Ytlkpfdboagjaoaa.AbortB
open Go Go.Proofs.Ytlkpfdboagjaoaa.Heap Go.Proofs.Ytlkpfdboagjaoaa.Seat Go.Proofs.Ytlkpfdboagjaoaa.Mach Go.Proofs.Ytlkpfdboagjaoaa.SeatP Go.Proofs.Ytlkpfdboagjaoaa.StepU Go.Proofs.Ytlkpfdboagjaoaa.Abort Go.Proofs.Ytlkpfdboagjaoaa.AbortQ Go.Proofs.Ytlkpfdboagjaoaa.AbortP Go.Proofs.Ytlkpfdboagjaoaa.AbortO Go.Proofs.Ytlkpfdboagjaoaa.AbortT Go.Proofs.Ytlkpfdboagjaoaa.Has

/-- Steps to go, of a context's. -/
def pw (s sp fr : Int) : Nat :=
  if s = 1 then (if sp = 0 then 42 + (8 - fr).toNat else if sp ≤ 4 then (42 - sp).toNat else (34 - sp).toNat)
  else if s = 2 then 20 else if s = 3 then (6 - sp).toNat else 0
def pb (st : St) (t : Nat) : Nat := pw (stt st.seats t) (fS st.pls t) (fR st.pls t)
def Ph (n : Nat) (st : St) (g : G) : Nat := tot (pb st) n + 8 * (g.E - g.H).toNat
/-- Who comes on at its next step. -/
def Okb (now : Int) (st : St) (u : Nat) : Prop := stt st.seats u = 2 ∨ (stt st.seats u = 3 ∧ (fS st.pls u ≠ 2 ∨ gN st.ws (fN st.pls u) ≠ 0)) ∨ (stt st.seats u = 1 ∧ (fS st.pls u ≠ 6 ∨ gF st.ws (fN st.pls u) ≠ 0 ∨ lateB st.seats u now = true))
/-- Who holds the lock unlocks. -/
def bpre (st : St) (t : Nat) : St := if state st.seats t = 2 then setS st (turn st.seats t 3).2 else st
def bturn (n c : Nat) (now : Int) (st : St) (t : Nat) : St := (Abort.step n 0 c (bpre st t) t t now).2
section
variable {n c : Nat} {st st' : St} {g g' : G} {u : Nat} {y : Wy} {now : Int}
theorem pb_up (z v w : Int) (hs : stt st'.seats = up (stt st.seats) u z) (hp : fS st'.pls = up (fS st.pls) u v) (hr : fR st'.pls u = w) : pb st' u = pw z v w := by
  unfold pb; rw [hs, hp, hr, up_eq, up_eq]
/-- A step's headway. -/
theorem went_ph (f : I n c st g) (f' : I n c st' g') (hc8 : c ≤ 8) (hu : u < n) (w : Went c st g u now st' g' y) : (y = .idle ∨ y = .wait ∨ y = .spin) ∨ pb st' u + 8 * (g'.E - g'.H).toNat < pb st u + 8 * (g.E - g.H).toNat := by
  have ws := w.s; have wp := w.sp; have wo := w.on; have he := w.he
  have k1 := f.aq.s1 u hu
  have k3 := f.aq.s3 u hu
  have r0 := f.rr u hu
  have r1 := f'.rr u hu
  have hE := f.aq.hE
  have hE' := f'.aq.hE
  have es := congrFun ws u
  have ep := congrFun wp u
  clear ws wp
  unfold pb pw
  cases y <;> first | exact .inl (.inl rfl) | exact .inl (.inr (.inl rfl)) | exact .inl (.inr (.inr rfl)) | skip
  all_goals
    right
    dsimp only [wayS, wayP, wayOn, wayE] at es ep wo he
    try rw [up_eq] at es
    try rw [up_eq] at ep
    obtain ⟨o1, o2⟩ := wo
    grind
theorem tot_one {f h : Nat → Nat} (hu : u < n) (ho : ∀ v, v < n → v ≠ u → f v = h v) : tot f n + h u = tot h n + f u := tot_le u n hu ho
theorem went_other (w : Went c st g u now st' g' y) (v : Nat) (hv : v ≠ u) : stt st'.seats v = stt st.seats v ∧ pb st' v = pb st v := by
  have e1 : stt st'.seats v = stt st.seats v := by
    rw [w.s]; cases y <;> first | rfl | exact up_ne _ _ hv
  have e2 : fS st'.pls v = fS st.pls v := by
    rw [w.sp]; cases y <;> first | rfl | exact up_ne _ _ hv
  exact ⟨e1, by unfold pb; rw [e1, e2, w.ro v hv]⟩
theorem bturn_ev (f : I n c st g) (hc8 : c ≤ 8) (hu : u < n) (now : Int) :
    ∃ g', I n c (bturn n c now st u) g' ∧ (∀ v, v ≠ u → stt (bturn n c now st u).seats v = stt st.seats v) ∧ (stt st.seats u = 0 → stt (bturn n c now st u).seats u = 0) ∧
      (Ph n (bturn n c now st u) g' < Ph n st g ∨ (Ph n (bturn n c now st u) g' ≤ Ph n st g ∧ ¬ Okb now st u ∧ ∀ v, Okb now st v → Okb now (bturn n c now st u) v)) := by
  have hl : u < st.seats.length := by rw [f.sl]; exact hu
  have hsn := state_nat st.seats u
  by_cases h2 : stt st.seats u = 2
  · obtain ⟨d, ed⟩ := turn_eq st.seats u 3 hl h2
    have e0 : bpre st u = setS st (st.seats.set u (3, d)) := by unfold bpre; rw [hsn, if_pos h2, ed]
    have f1 := seat_unl f u hl h2 d
    obtain ⟨st', g', y, e, f', w⟩ := stepW f1 u hu now
    have eb : bturn n c now st u = st' := by unfold bturn; rw [e0, e]
    have hs1 : stt (setS st (st.seats.set u (3, d))).seats = up (stt st.seats) u 3 := stt_up _ _ hl _ _
    have hp0 : fS st.pls u = 0 := f.aq.s0 u hu (.inr h2)
    have po : ∀ v, v ≠ u → pb (setS st (st.seats.set u (3, d))) v = pb st v := fun v hv => by
      unfold pb; rw [hs1, up_ne _ _ hv]; rfl
    have pu : pb (setS st (st.seats.set u (3, d))) u = 6 := by
      unfold pb; rw [hs1, up_eq, show fS (setS st (st.seats.set u (3, d))).pls u = 0 from hp0]; rfl
    have pu0 : pb st u = 20 := by unfold pb pw; rw [h2, if_neg (by decide), if_pos rfl]
    rw [eb]
    refine ⟨g', f', fun v hv => by rw [(went_other w v hv).1, hs1, up_ne _ _ hv], fun z => by omega, .inl ?_⟩
    have t1 := tot_one (f := pb st') (h := pb st) hu (fun v _ hv => by rw [(went_other w v hv).2, po v hv])
    have k := went_ph f1 f' hc8 hu w
    have wo := w.on
    unfold Ph
    rcases k with (rfl | rfl | rfl) | k
    · exfalso
      dsimp only [wayOn] at wo
      rw [hs1, up_eq] at wo
      omega
    · exfalso
      dsimp only [wayOn] at wo
      rw [hs1, up_eq] at wo
      omega
    · exfalso
      dsimp only [wayOn] at wo
      have : fS st.pls u = 2 := wo.2.1
      omega
    · omega
  · have e0 : bpre st u = st := by unfold bpre; rw [hsn, if_neg h2]
    obtain ⟨st', g', y, e, f', w⟩ := stepW f u hu now
    have eb : bturn n c now st u = st' := by unfold bturn; rw [e0, e]
    have t1 := tot_one (f := pb st') (h := pb st) hu (fun v _ hv => (went_other w v hv).2)
    have wo := w.on
    have ws := w.s
    have wp := w.sp
    have he := w.he
    have same : st'.seats = st.seats → fS st'.pls = fS st.pls → fN st'.pls = fN st.pls → st'.ws = st.ws → (stt st.seats u = 1 ∨ stt st.seats u = 3 → fS st.pls u ≠ 0) ∨ st' = st → g'.E = g.E ∧ g'.H = g.H → ¬ Okb now st u → Ph n st' g' < Ph n st g ∨ (Ph n st' g' ≤ Ph n st g ∧ ¬ Okb now st u ∧ ∀ v, Okb now st v → Okb now st' v) := fun q1 q2 q3 q4 q5 q6 q7 => by
      refine .inr ⟨?_, q7, fun v hv => by unfold Okb; rw [q1, q2, q3, q4]; exact hv⟩
      have eu : pb st' u = pb st u := by
        rcases q5 with q5 | q5
        · unfold pb pw
          rw [q1, q2]
          have a := f.aq.rg u hu
          have b := f.rr u hu
          have b' := f'.rr u hu
          rw [q1] at b'
          grind
        · rw [q5]
      unfold Ph
      rw [q6.1, q6.2]; omega
    rw [eb]
    refine ⟨g', f', fun v hv => (went_other w v hv).1, fun z => ?_, ?_⟩
    · rw [ws]
      cases y <;> dsimp only [wayOn, wayS] at wo ⊢ <;> first | exact z | (exfalso; omega)
    · rcases went_ph f f' hc8 hu w with (rfl | rfl | rfl) | k
      · dsimp only [wayOn, wayE] at wo he
        obtain ⟨o1, o2⟩ := wo
        subst o2
        refine same rfl rfl rfl rfl (.inr rfl) he (fun ok => ?_)
        rcases ok with q | ⟨q, _⟩ | ⟨q, _⟩ <;> omega
      · dsimp only [wayOn, wayE] at wo he
        obtain ⟨o1, o2, o3, o4, o5, o6⟩ := wo
        refine same w.se (by rw [o6]) (by rw [o6]) o5 (.inl fun _ => by omega) he (fun ok => ?_)
        rcases ok with q | ⟨q, _⟩ | ⟨_, q | q | q⟩
        · omega
        · omega
        · exact q o2
        · exact q o3
        · rw [o4] at q; exact absurd q (by decide)
      · dsimp only [wayOn, wayE, wayP] at wo he wp
        obtain ⟨o1, o2, o3, o4, o5⟩ := wo
        refine same w.se (wp.trans (up_self _ _ _ o2)) o5 o4 (.inl fun _ => by omega) he (fun ok => ?_)
        rcases ok with q | ⟨_, q | q⟩ | ⟨q, _⟩
        · omega
        · exact q o2
        · exact q o3
        · omega
      · left
        unfold Ph; omega
theorem live (f : I n c st g) (now : Int) (hb : ∃ t, t < n ∧ stt st.seats t ≠ 0) : ∃ u, u < n ∧ Okb now st u := by
  obtain ⟨t, ht, hs0⟩ := hb
  have hi := f.aq
  have hhE := hi.hE
  by_cases hE : g.H = g.E
  · have rg := hi.rg t ht
    rcases (show stt st.seats t = 1 ∨ stt st.seats t = 2 ∨ stt st.seats t = 3 by omega) with e | e | e
    · refine ⟨t, ht, .inr (.inr ⟨e, .inl fun z => ?_⟩)⟩
      have := hi.wt t ht e (by omega); omega
    · exact ⟨t, ht, .inl e⟩
    · refine ⟨t, ht, .inr (.inl ⟨e, .inl fun z => ?_⟩)⟩
      have := (hi.kh t ht (.inr ⟨e, by omega⟩)).1; omega
  · rcases hi.r0 (by omega) with ⟨v, v1, v2⟩ | ⟨v, v1, v2, v3, v4, v5⟩
    · have v3 := v2
      rcases v3 with z | e3
      · exact ⟨v, v1, .inl z⟩
      · by_cases e2 : fS st.pls v = 2
        · by_cases eN : gN st.ws (fN st.pls v) = 0
          · have k2 := hi.u2 v v1 e3.1 e2
            have kh := (hi.kh v v1 v2).2
            rcases hi.nx g.H (Int.le_refl _) k2 with z | ⟨_, x, x1, x2, x3, _⟩
            · have p := hi.pos (g.H + 1) (by omega) k2
              rw [show fN st.pls v = g.nq g.H from kh] at eN
              omega
            · exact ⟨x, x1, .inr (.inr ⟨x2, .inl (by omega)⟩)⟩
          · exact ⟨v, v1, .inr (.inl ⟨e3.1, .inr eN⟩)⟩
        · exact ⟨v, v1, .inr (.inl ⟨e3.1, .inl e2⟩)⟩
    · refine ⟨v, v1, .inr (.inr ⟨v2, .inr (.inl ?_)⟩)⟩
      rw [v5]; decide
/-- Amid a round. -/
structure Rd (n : Nat) (now : Int) (st0 : St) (g0 : G) (st : St) (g : G) (t : Nat) : Prop where
  id : ∀ v, v < n → stt st0.seats v = 0 → stt st.seats v = 0
  on : (∃ v, v < n ∧ stt st0.seats v ≠ 0) → Ph n st g < Ph n st0 g0 ∨ (Ph n st g ≤ Ph n st0 g0 ∧ ∃ v, t ≤ v ∧ v < n ∧ Okb now st v)
theorem Rd.start (f : I n c st g) (now : Int) : Rd n now st g st g 0 := ⟨fun _ _ h => h, fun h => .inr ⟨Nat.le_refl _, by
  obtain ⟨u, h1, h2⟩ := live f now h
  exact ⟨u, Nat.zero_le _, h1, h2⟩⟩⟩
theorem Rd.next {st0 : St} {g0 : G} {t : Nat} (h : Rd n now st0 g0 st g t) (f : I n c st g) (hc8 : c ≤ 8) (ht : t < n) : ∃ g', I n c (bturn n c now st t) g' ∧ (∀ v, v ≠ t → stt (bturn n c now st t).seats v = stt st.seats v) ∧ Rd n now st0 g0 (bturn n c now st t) g' (t + 1) := by
  obtain ⟨g', f', h1, h2, h3⟩ := bturn_ev f hc8 ht now
  refine ⟨g', f', h1, fun v hv hz => ?_, fun hb => ?_⟩
  · have a := h.id v hv hz
    by_cases e : v = t
    · subst e; exact h2 a
    · rw [h1 v e]; exact a
  · rcases h.on hb with a | ⟨a, v, v1, v2, v3⟩
    · left
      rcases h3 with b | ⟨b, _⟩ <;> omega
    · rcases h3 with b | ⟨b1, b2, b3⟩
      · left; omega
      · right
        have ne : v ≠ t := fun z => by subst z; exact b2 v3
        exact ⟨by omega, v, by omega, v2, b3 v v3⟩
theorem Rd.end {st0 : St} {g0 : G} (h : Rd n now st0 g0 st g n) (hb : ∃ v, v < n ∧ stt st.seats v ≠ 0) : Ph n st g < Ph n st0 g0 := by
  obtain ⟨v, hv, hz⟩ := hb
  rcases h.on ⟨v, hv, fun z => hz (h.id v hv z)⟩ with a | ⟨_, u, u1, u2, _⟩
  · exact a
  · omega
/-- How many of the first k do nothing. -/
def idles (st : St) : Nat → Nat
  | 0 => 0
  | k + 1 => idles st k + if stt st.seats k = 0 then 1 else 0
theorem idles_le (st : St) : ∀ k, idles st k ≤ k
  | 0 => Nat.le_refl _
  | k + 1 => by unfold idles; have := idles_le st k; split <;> omega
theorem idles_same {st st' : St} : ∀ k, (∀ v, v < k → stt st'.seats v = stt st.seats v) → idles st' k = idles st k
  | 0, _ => rfl
  | k + 1, h => by unfold idles; rw [idles_same k (fun v hv => h v (by omega)), h k (by omega)]
theorem idles_all (st : St) : ∀ k, idles st k = k → ∀ v, v < k → stt st.seats v = 0
  | 0, _, _, h => by omega
  | k + 1, h, v, hv => by
    unfold idles at h
    have := idles_le st k
    split at h
    · rename_i e
      by_cases q : v = k
      · subst q; exact e
      · exact idles_all st k (by omega) v (by omega)
    · omega
theorem idles_not (st : St) : ∀ k, idles st k ≠ k → ∃ v, v < k ∧ stt st.seats v ≠ 0
  | 0, h => absurd rfl h
  | k + 1, h => by
    by_cases e : stt st.seats k = 0
    · unfold idles at h
      rw [if_pos e] at h
      obtain ⟨v, h1, h2⟩ := idles_not st k (by omega)
      exact ⟨v, by omega, h2⟩
    · exact ⟨k, by omega, e⟩
/-- What is kept by calls and steps. -/
def Kp (n c : Nat) (st : St) (j : Nat) : Prop := ∃ g, I n c st g ∧ g.E - g.H ≤ j
theorem Kp.mono {j k : Nat} (h : Kp n c st j) (hk : j ≤ k) : Kp n c st k := by
  obtain ⟨g, f, e⟩ := h
  exact ⟨g, f, by omega⟩
theorem Kp.lock {j : Nat} (h : Kp n c st j) (t d : Int) : Kp n c (setS st (lock st.seats true t d).2) j := by
  obtain ⟨g, f, he⟩ := h
  rcases lock_cases st.seats true t d with e | ⟨k, _, hk, h0, e, _⟩
  · rw [seat_same _ e]; exact ⟨g, f, he⟩
  · rw [e]; exact ⟨g, seat_call f k hk h0 d, he⟩
theorem Kp.unlock {j : Nat} (h : Kp n c st j) (t : Int) : Kp n c (setS st (turn st.seats t 3).2) j := by
  obtain ⟨g, f, he⟩ := h
  rcases turn_cases st.seats t 3 with e | ⟨k, _, hk, h0, d, e⟩
  · rw [seat_same _ e]; exact ⟨g, f, he⟩
  · rw [e]; exact ⟨g, seat_unl f k hk h0 d, he⟩
theorem Kp.step {j : Nat} (h : Kp n c st j) (t now : Int) : Kp n c (Abort.step n 0 c st t t now).2 (j + 1) := by
  obtain ⟨g, f, he⟩ := h
  by_cases hin : ∃ k : Nat, t = k ∧ k < st.seats.length
  · obtain ⟨u, rfl, hu⟩ := hin
    obtain ⟨st', g', y, e, f', w⟩ := stepW f u (by rw [← f.sl]; exact hu) now
    rw [e]
    refine ⟨g', f', ?_⟩
    have wo := w.on
    have wh := w.he
    cases y <;> dsimp only [wayOn, wayE] at wo wh <;> omega
  · have hz := state_out st.seats t hin
    rw [step_idle (by omega) (by omega) t now]
    exact ⟨g, f, by omega⟩
theorem Kp.first (n8 : n ≤ 8) (c1 : 1 ≤ c) : Kp n c (st0 n ([] ++ [0] ++ List.replicate (n * (3 * c)) 0)) 0 := ⟨g0, AbortO.start n c n8 c1, Int.le_refl _⟩
theorem pb_le (f : I n c st g) (hu : u < n) : pb st u ≤ 50 := by
  have a := f.aq.rg u hu
  have k1 := f.aq.s1 u hu
  have k3 := f.aq.s3 u hu
  have r := f.rr u hu
  unfold pb pw
  grind
theorem Ph_le (f : I n c st g) (n8 : n ≤ 8) (h : g.E - g.H ≤ 150) : Ph n st g < 2000 := by
  have t := tot_bound (f := pb st) 50 n (fun u hu => pb_le f hu)
  have : 50 * n ≤ 50 * 8 := Nat.mul_le_mul_left _ n8
  unfold Ph; omega
end
end Go.Proofs.Ytlkpfdboagjaoaa.AbortB
