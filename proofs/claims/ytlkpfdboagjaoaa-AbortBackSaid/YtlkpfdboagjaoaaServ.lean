/- The laws' Served, for whatever lock makes headway: the plain part. -/
import Derived.Test.YtlkpfdboagjaoaaMach
namespace Go.Proofs.Ytlkpfdboagjaoaa.Mach
open Go Go.RowKit Go.Proofs.Ytlkpfdboagjaoaa.Heap Go.Proofs.Ytlkpfdboagjaoaa.Open Go.Proofs.Ytlkpfdboagjaoaa.Seat

section
variable {σ : Type} (td : Bool) (n : Nat) (seats : σ → List (Int × Int)) (setS : σ → List (Int × Int) → σ) (step : σ → Int → Int → Int → Did × σ)
/-- A context that does nothing calls, if it has calls left. -/
def pre (st : σ) (lf : List Int) (t : Nat) : σ × List Int :=
  if state (seats st) t = 0 ∧ 0 < lf.getD t 0 then (setS st (lock (seats st) td t (-1)).2, lf.set t (lf.getD t 0 - 1)) else (st, lf)
/-- Who is granted the lock unlocks. -/
def post (d : Did) (st : σ) (gr : List Int) (t : Nat) : σ × List Int :=
  if d.1 = 1 then (setS st (turn (seats st) t 3).2, gr.set t (gr.getD t 0 + 1)) else (st, gr)
/-- A context's turn: the state then, what is left, the grants. -/
def tick (st : σ) (lf gr : List Int) (t : Nat) : σ × List Int × List Int :=
  let a := pre td seats setS st lf t
  let r := step a.1 t t 0
  let p := post seats setS r.1 r.2 gr t
  (p.1, a.2, p.2)
def Busy (st : σ) (lf : List Int) : Prop := ∃ t, t < n ∧ (0 < lf.getD t 0 ∨ state (seats st) t ≠ 0)
/-- What a lock keeps that serves all. -/
structure Serves (calls : Int) (Inv : σ → List Int → List Int → Prop) (μ : σ → List Int → Nat) (En : σ → List Int → Nat → Prop) : Prop where
  len : ∀ st lf gr, Inv st lf gr → lf.length = 8 ∧ gr.length = 8
  low : ∀ st lf gr, Inv st lf gr → ∀ t : Nat, 0 ≤ lf.getD t 0 ∧ lf.getD t 0 ≤ 1000 ∧ 0 ≤ gr.getD t 0 ∧ gr.getD t 0 ≤ 1000
  ok : ∀ st lf gr t, Inv st lf gr → t < n → (step (pre td seats setS st lf t).1 t t 0).1.1 = 1 → (turn (seats (step (pre td seats setS st lf t).1 t t 0).2) t 3).1 = 0
  inv : ∀ st lf gr t, Inv st lf gr → t < n → Inv (tick td seats setS step st lf gr t).1 (tick td seats setS step st lf gr t).2.1 (tick td seats setS step st lf gr t).2.2
  other : ∀ st lf gr t u, Inv st lf gr → t < n → u < n → u ≠ t → state (seats (tick td seats setS step st lf gr t).1) u = state (seats st) u
  idle : ∀ st lf gr t, Inv st lf gr → t < n → state (seats st) t = 0 → lf.getD t 0 ≤ 0 → state (seats (tick td seats setS step st lf gr t).1) t = 0
  mono : ∀ st lf gr t, Inv st lf gr → t < n → μ (tick td seats setS step st lf gr t).1 (tick td seats setS step st lf gr t).2.1 ≤ μ st lf
  prog : ∀ st lf gr t, Inv st lf gr → t < n → En st lf t → μ (tick td seats setS step st lf gr t).1 (tick td seats setS step st lf gr t).2.1 < μ st lf
  keep : ∀ st lf gr t u, Inv st lf gr → t < n → u < n → u ≠ t → En st lf u → μ (tick td seats setS step st lf gr t).1 (tick td seats setS step st lf gr t).2.1 < μ st lf ∨ En (tick td seats setS step st lf gr t).1 (tick td seats setS step st lf gr t).2.1 u
  live : ∀ st lf gr, Inv st lf gr → Busy n seats st lf → ∃ u, u < n ∧ En st lf u
  done : ∀ st lf gr, Inv st lf gr → ¬ Busy n seats st lf → ∀ t, t < n → gr.getD t 0 = calls

theorem pre_left (st : σ) (lf : List Int) (t u : Nat) (hu : u ≠ t) : (pre td seats setS st lf t).2.getD u 0 = lf.getD u 0 := by
  unfold pre
  split
  · show (lf.set t _).getD u 0 = _
    rw [List.getD, List.getElem?_set_ne (Ne.symm hu)]; rfl
  · rfl
/-- Amid a round that began at st0: the truth so far, and headway. -/
def Mid (μ : σ → List Int → Nat) (En : σ → List Int → Nat → Prop) (st0 : σ) (lf0 : List Int) (st : σ) (lf : List Int) (bf : Bool) (t : Nat) : Prop :=
  (bf = false → ∀ u, u < t → ¬ 0 < lf.getD u 0 ∧ state (seats st) u = 0) ∧
  (Busy n seats st0 lf0 → μ st lf < μ st0 lf0 ∨ (μ st lf ≤ μ st0 lf0 ∧ ∃ u, t ≤ u ∧ u < n ∧ En st lf u)) ∧
  (¬ Busy n seats st0 lf0 → bf = false ∧ ¬ Busy n seats st lf)
variable {td n seats setS step} {calls : Int} {Inv : σ → List Int → List Int → Prop} {μ : σ → List Int → Nat} {En : σ → List Int → Nat → Prop}
theorem Serves.start (S : Serves td n seats setS step calls Inv μ En) (st : σ) (lf gr : List Int) (h : Inv st lf gr) : Mid n seats μ En st lf st lf false 0 := by
  refine ⟨fun _ u hu => absurd hu (Nat.not_lt_zero _), fun hb => .inr ⟨Nat.le_refl _, ?_⟩, fun hb => ⟨rfl, hb⟩⟩
  obtain ⟨u, hu, he⟩ := S.live st lf gr h hb
  exact ⟨u, Nat.zero_le _, hu, he⟩
theorem Serves.round (S : Serves td n seats setS step calls Inv μ En) (st0 : σ) (lf0 : List Int) (st : σ) (lf gr : List Int) (bf : Bool) (t : Nat) (ht : t < n) (h : Inv st lf gr) (hm : Mid n seats μ En st0 lf0 st lf bf t) (st' : σ) (lf' gr' : List Int)
    (e : tick td seats setS step st lf gr t = (st', lf', gr')) : Mid n seats μ En st0 lf0 st' lf' (bf || decide (0 < lf'.getD t 0) || decide (state (seats st') t ≠ 0)) (t + 1) := by
  obtain ⟨h1, h2, h3⟩ := hm
  have e1 : (tick td seats setS step st lf gr t).1 = st' := by rw [e]
  have e2 : (tick td seats setS step st lf gr t).2.1 = lf' := by rw [e]
  have hlf : ∀ u, u ≠ t → lf'.getD u 0 = lf.getD u 0 := fun u hu => by rw [← e2]; exact pre_left td seats setS st lf t u hu
  have hst : ∀ u, u < n → u ≠ t → state (seats st') u = state (seats st) u := fun u hu hne => by rw [← e1]; exact S.other st lf gr t u h ht hu hne
  refine ⟨?_, ?_, ?_⟩
  · intro hb u hu
    simp only [Bool.or_eq_false_iff, decide_eq_false_iff_not, ne_eq, Decidable.not_not] at hb
    by_cases ut : u = t
    · subst ut; exact ⟨hb.1.2, hb.2⟩
    · rw [hlf u ut, hst u (by omega) ut]
      exact h1 hb.1.1 u (by omega)
  · intro hb
    have hm := S.mono st lf gr t h ht
    rw [e1, e2] at hm
    rcases h2 hb with h4 | ⟨h4, u, hu1, hu2, hu3⟩
    · exact .inl (by omega)
    · by_cases ut : u = t
      · subst ut
        have hp := S.prog st lf gr u h ht hu3
        rw [e1, e2] at hp
        exact .inl (by omega)
      · have hk := S.keep st lf gr t u h ht hu2 ut hu3
        rw [e1, e2] at hk
        rcases hk with hk | hk
        · exact .inl (by omega)
        · exact .inr ⟨by omega, u, by omega, hu2, hk⟩
  · intro hb
    obtain ⟨h5, h6⟩ := h3 hb
    have hi : state (seats st) t = 0 := Decidable.byContradiction fun z => h6 ⟨t, ht, .inr z⟩
    have hl : ¬ 0 < lf.getD t 0 := fun z => h6 ⟨t, ht, .inl z⟩
    have hst' := S.idle st lf gr t h ht hi (by omega)
    rw [e1] at hst'
    have hlf' : lf'.getD t 0 = lf.getD t 0 := by
      rw [← e2]
      show (pre td seats setS st lf t).2.getD t 0 = _
      unfold pre
      rw [if_neg (fun z => hl z.2)]
    refine ⟨?_, ?_⟩
    · rw [h5, hlf', hst', decide_eq_false hl]; rfl
    · rintro ⟨u, hu, hz⟩
      by_cases ut : u = t
      · subst ut
        rcases hz with hz | hz
        · rw [hlf'] at hz; exact hl hz
        · exact hz hst'
      · rw [hlf u ut, hst u hu ut] at hz
        exact h6 ⟨u, hu, hz⟩
theorem Mid.busy {st0 : σ} {lf0 : List Int} {st : σ} {lf : List Int} (h : Mid n seats μ En st0 lf0 st lf true n) : μ st lf < μ st0 lf0 := by
  obtain ⟨_, h2, h3⟩ := h
  by_cases hb : Busy n seats st0 lf0
  · rcases h2 hb with h4 | ⟨_, u, hu1, hu2, _⟩
    · exact h4
    · omega
  · have := (h3 hb).1; cases this
theorem Mid.free {st0 : σ} {lf0 : List Int} {st : σ} {lf : List Int} (h : Mid n seats μ En st0 lf0 st lf false n) : ¬ Busy n seats st lf := by
  rintro ⟨u, hu, hz⟩
  obtain ⟨h1, _, _⟩ := h
  obtain ⟨h2, h3⟩ := h1 rfl u hu
  rcases hz with hz | hz
  · exact h2 hz
  · exact hz h3
end
theorem lock_idle (l : List (Int × Int)) (td : Bool) (t : Nat) (ht : t < l.length) (h : state l t = 0) : (lock l td t (-1)).1 = 0 := by
  unfold state at h
  rw [inB_mk ht, if_pos rfl] at h
  unfold lock
  rw [inB_mk ht, if_pos rfl, if_neg (by omega), if_neg (by omega), h, if_neg (by omega)]
end Go.Proofs.Ytlkpfdboagjaoaa.Mach
