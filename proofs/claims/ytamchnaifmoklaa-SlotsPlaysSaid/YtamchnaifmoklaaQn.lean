/- Locks with a queue that answer no probes: what their steps must do, for the laws' Ordered and Served. No program in sight. -/
import Derived.Test.YtamchnaifmoklaaSeatP
import Derived.Test.YtamchnaifmoklaaGear
namespace Go.Proofs.Ytamchnaifmoklaa.Qn
open Go Go.Proofs.Ytamchnaifmoklaa.Heap Go.Proofs.Ytamchnaifmoklaa.Seat Go.Proofs.Ytamchnaifmoklaa.Mach Go.Proofs.Ytamchnaifmoklaa.SeatP

section
variable {σ : Type} (pd : Bool) (n : Nat) (seats : σ → List (Int × Int)) (setS : σ → List (Int × Int) → σ) (step : σ → Int → Int → Int → Did × σ)
def Hw (ph : σ → Nat → Nat) (st : σ) (u : Nat) : Prop := ph (go1 seats setS step st u) u < ph st u
structure QL (c : Nat) (I : σ → List Int → Option Nat → Prop) (ph : σ → Nat → Nat) : Prop where
  get : ∀ st x, seats (setS st x) = x
  eta : ∀ st, setS st (seats st) = st
  set2 : ∀ st x y, setS (setS st x) y = setS st y
  len : ∀ {st q h}, I st q h → (seats st).length = n
  rg : ∀ {st q h}, I st q h → ∀ t, t < n → 0 ≤ stt (seats st) t ∧ stt (seats st) t ≤ 3
  hh : ∀ {st q h}, I st q h → ∀ t, t < n → (stt (seats st) t = 2 ∨ stt (seats st) t = 3) → h = some t
  h1 : ∀ {st q h}, I st q h → ∀ t, h = some t → t < n ∧ (stt (seats st) t = 2 ∨ stt (seats st) t = 3)
  qs : ∀ {st q h}, I st q h → ∀ a, q.head? = some a → ∃ t : Nat, a = t ∧ t < n ∧ stt (seats st) t = 1
  seat : ∀ {st q h}, I st q h → ∀ k, k < n → ∀ a d : Int, ((stt (seats st) k = 0 ∧ a = 1) ∨ (stt (seats st) k = 2 ∧ (a = 2 ∨ a = 3))) → I (setS st ((seats st).set k (a, d))) q h
  idle : ∀ st t now, (state (seats st) t = 0 ∨ state (seats st) t = 2) → step st t t now = ((0, false, false, false), st)
  lockS : ∀ {st q h}, I st q h → ∀ u : Nat, u < n → stt (seats st) u = 1 → ∀ now : Int,
    ((step st u u now).1.1 = 0 ∧ seats (step st u u now).2 = seats st ∧ I (step st u u now).2 (queue2 q u (step st u u now).1) h ∧ ph (step st u u now).2 u < ph st u ∧ ∀ v, v ≠ u → ph (step st u u now).2 v = ph st v) ∨
    ((step st u u now).1.1 = 1 ∧ (queue1 q u (step st u u now).1).head? = some (u : Int) ∧ h = none ∧ seats (step st u u now).2 = (seats st).set u (2, -1) ∧ I (step st u u now).2 (queue2 q u (step st u u now).1) (some u) ∧ (∀ d, ph (setS (step st u u now).2 ((seats (step st u u now).2).set u (3, d))) u < ph st u) ∧ ∀ v, v ≠ u → ∀ d, ph (setS (step st u u now).2 ((seats (step st u u now).2).set u (3, d))) v = ph st v) ∨
    ((step st u u now).1 = (0, false, false, false) ∧ seats (step st u u now).2 = seats st ∧ I (step st u u now).2 q h ∧ (∀ v, ph (step st u u now).2 v = ph st v) ∧ (u : Int) ∈ q ∧ ¬ (h = none ∧ q.head? = some (u : Int)) ∧ ∀ v, v < n → Hw seats setS step ph st v → Hw seats setS step ph (step st u u now).2 v)
  unlS : ∀ {st q h}, I st q h → ∀ u : Nat, u < n → stt (seats st) u = 3 → ∀ now : Int,
    ((step st u u now).1 = (3, false, false, false) ∧ seats (step st u u now).2 = (seats st).set u (0, -1) ∧ I (step st u u now).2 q none ∧ ph (step st u u now).2 u < ph st u ∧ ∀ v, v ≠ u → ph (step st u u now).2 v = ph st v) ∨
    ((step st u u now).1 = (0, false, false, false) ∧ seats (step st u u now).2 = seats st ∧ I (step st u u now).2 q h ∧ ph (step st u u now).2 u < ph st u ∧ ∀ v, v ≠ u → ph (step st u u now).2 v = ph st v) ∨
    ((step st u u now).1 = (0, false, false, false) ∧ seats (step st u u now).2 = seats st ∧ I (step st u u now).2 q h ∧ (∀ v, ph (step st u u now).2 v = ph st v) ∧ (∀ v, v < n → Hw seats setS step ph st v → Hw seats setS step ph (step st u u now).2 v) ∧ ∃ v, v < n ∧ stt (seats st) v = 1 ∧ Hw seats setS step ph st v)
  call : ∀ {st q h}, I st q h → ∀ u, u < n → stt (seats st) u = 0 → ph (setS st ((seats st).set u (1, -1))) u < c ∧ ∀ v, v ≠ u → ph (setS st ((seats st).set u (1, -1))) v = ph st v
variable {pd n seats setS step} {c : Nat} {I : σ → List Int → Option Nat → Prop} {ph : σ → Nat → Nat}
theorem q2_none (q : List Int) (t : Int) (ev : Int) (h : ev ≠ 1 ∧ ev ≠ 2) : queue2 q t (ev, false, false, false) = q := by
  unfold queue2 queue1
  (repeat' split) <;> simp_all
theorem QL.keeps (Q : QL n seats setS step c I ph) : Keeps false false n seats setS step (fun st q => ∃ h, I st q h) where
  lock := by
    rintro st q t d ⟨h, f⟩
    rcases lock_cases (seats st) false t d with e | ⟨k, rfl, hk, h0, e, _⟩
    · rw [e, Q.eta]; exact ⟨h, f⟩
    · rw [e]; exact ⟨h, Q.seat f k (by rw [← Q.len f]; exact hk) 1 d (.inl ⟨h0, rfl⟩)⟩
  unlock := by
    rintro st q t ⟨h, f⟩
    rcases turn_cases (seats st) t 3 with e | ⟨k, rfl, hk, h2, d, e⟩
    · rw [e, Q.eta]; exact ⟨h, f⟩
    · rw [e]; exact ⟨h, Q.seat f k (by rw [← Q.len f]; exact hk) 3 d (.inr ⟨h2, .inr rfl⟩)⟩
  probe := by
    rintro st q t ⟨h, f⟩
    have e : (Seat.probe (seats st) false t).2 = seats st := rfl
    rw [e, Q.eta]; exact ⟨h, f⟩
  step := by
    rintro st q t now ⟨h, f⟩
    have idle : (state (seats st) t = 0 ∨ state (seats st) t = 2) → ((step st t t now).1.1 = 1 → (queue1 q t (step st t t now).1).head? = some t) ∧ ∃ h, I (step st t t now).2 (queue2 q t (step st t t now).1) h := by
      intro h0
      rw [Q.idle st t now h0]
      exact ⟨(fun e => by cases e), h, f⟩
    by_cases hin : ∃ k : Nat, t = k ∧ k < (seats st).length
    · obtain ⟨u, rfl, hu⟩ := hin
      have hun : u < n := by rw [← Q.len f]; exact hu
      have hr := Q.rg f u hun
      by_cases h0 : stt (seats st) u = 0
      · exact idle (.inl (by rw [state_nat]; exact h0))
      by_cases h2 : stt (seats st) u = 2
      · exact idle (.inr (by rw [state_nat]; exact h2))
      by_cases h1 : stt (seats st) u = 1
      · rcases Q.lockS f u hun h1 now with ⟨e0, _, e2, _⟩ | ⟨_, e1, _, _, e2, _⟩ | ⟨e1, _, e2, _⟩
        · exact ⟨(fun e => by omega), h, e2⟩
        · exact ⟨fun _ => e1, some u, e2⟩
        · rw [e1, q2_none _ _ _ (by omega)]
          exact ⟨(fun e => by cases e), h, e2⟩
      by_cases h3 : stt (seats st) u = 3
      · rcases Q.unlS f u hun h3 now with ⟨e1, _, e2, _⟩ | ⟨e1, _, e2, _⟩ | ⟨e1, _, e2, _⟩
        · rw [e1, q2_none _ _ _ (by omega)]; exact ⟨(fun e => by cases e), none, e2⟩
        · rw [e1, q2_none _ _ _ (by omega)]; exact ⟨(fun e => by cases e), h, e2⟩
        · rw [e1, q2_none _ _ _ (by omega)]; exact ⟨(fun e => by cases e), h, e2⟩
      omega
    · exact idle (.inl (state_out _ _ hin))
  one := by
    rintro st q ⟨h, f⟩
    exact holders_one (seats st) n (Q.len f) h fun t ht h2 => Q.hh f t ht (.inl h2)
def GI (n : Nat) (seats : σ → List (Int × Int)) (I : σ → List Int → Option Nat → Prop) (st : σ) : Prop := (∃ q h, I st q h) ∧ ∀ t, t < n → stt (seats st) t ≠ 2
theorem QL.gear (Q : QL n seats setS step c I ph) : Gear false n seats setS step c (GI n seats I) ph (Hw seats setS step ph) where
  states := fun st t h ht => by
    obtain ⟨⟨q, h, f⟩, h2⟩ := h
    have := Q.rg f t ht
    have := h2 t ht
    rw [state_nat]; omega
  call := fun st t h ht h0 => by
    obtain ⟨⟨q, h, f⟩, h2⟩ := h
    rw [state_nat] at h0
    have hl : t < (seats st).length := by rw [Q.len f]; exact ht
    have e : callS false seats setS st t = setS st ((seats st).set t (1, -1)) := by unfold callS; rw [lock_eq _ _ _ hl h0]
    have g : ∀ u, stt ((seats st).set t (1, -1)) u = if u = t then 1 else stt (seats st) u := fun u => stt_set (seats st) t (1, -1) hl u
    obtain ⟨k1, k2⟩ := Q.call f t ht h0
    rw [e]
    refine ⟨⟨⟨q, h, Q.seat f t ht 1 (-1) (.inl ⟨h0, rfl⟩)⟩, ?_⟩, ?_, k1, ?_⟩
    · intro u hu
      rw [Q.get, g]
      split
      · decide
      · exact h2 u hu
    · rw [Q.get, state_nat, g, if_pos rfl]
    · intro u _ hne
      refine ⟨?_, k2 u hne⟩
      rw [Q.get, state_nat, g, if_neg hne, state_nat]
  rest := fun st t h ht h0 => by
    rw [Q.idle st t 0 (.inl h0)]
    exact ⟨(fun z => by cases z), rfl⟩
  act := fun st t h ht hs => by
    obtain ⟨⟨q, h, f⟩, h2⟩ := h
    rw [state_nat] at hs
    have hl : t < (seats st).length := by rw [Q.len f]; exact ht
    have hr := Q.rg f t ht
    have h2t := h2 t ht
    have same : ∀ {q' h'}, (step st t t 0).1.1 ≠ 1 → seats (step st t t 0).2 = seats st → I (step st t t 0).2 q' h' → go1 seats setS step st t = (step st t t 0).2 ∧ GI n seats I (step st t t 0).2 := fun {q' h'} hne hse hI => by
      refine ⟨?_, ⟨q', h', hI⟩, by rw [hse]; exact h2⟩
      unfold go1; rw [if_neg hne]
    by_cases h1 : stt (seats st) t = 1
    · rcases Q.lockS f t ht h1 0 with ⟨e1, e2, e3, e4, e5⟩ | ⟨e1, e2, rfl, e3, e4, e5, e6⟩ | ⟨e1, e2, e3, e4, e5, e6, e7⟩
      · obtain ⟨eg, hg⟩ := same (by omega) e2 e3
        rw [eg]
        refine ⟨hg, fun u _ hne => ⟨by rw [e2], e5 u hne⟩, by omega, fun _ => e4, fun _ _ _ _ => .inl e4, .inr ⟨by omega, .inl (by rw [e2])⟩⟩
      · have hs2 : ∀ u, stt (seats (step st t t 0).2) u = if u = t then 2 else stt (seats st) u := fun u => by rw [e3]; exact stt_set (seats st) t (2, -1) hl u
        have hl' : t < (seats (step st t t 0).2).length := by rw [e3]; simpa using hl
        have h2' : stt (seats (step st t t 0).2) t = 2 := by rw [hs2, if_pos rfl]
        obtain ⟨d, ed⟩ := turn_eq (seats (step st t t 0).2) t 3 hl' h2'
        have g2 : ∀ u, stt ((seats (step st t t 0).2).set t (3, d)) u = if u = t then 3 else stt (seats (step st t t 0).2) u := fun u => stt_set (seats (step st t t 0).2) t (3, d) hl' u
        have eg : go1 seats setS step st t = setS (step st t t 0).2 ((seats (step st t t 0).2).set t (3, d)) := by
          unfold go1; rw [if_pos e1, ed]
        rw [eg]
        refine ⟨⟨⟨_, some t, Q.seat e4 t ht 3 d (.inr ⟨h2', .inr rfl⟩)⟩, ?_⟩, ?_, Nat.le_of_lt (e5 d), fun _ => e5 d, fun _ _ _ _ => .inl (e5 d), .inl ⟨e1, turn_ok _ _ _ hl' h2', by rw [state_nat]; exact h1, ?_⟩⟩
        · intro u hu
          rw [Q.get, g2, hs2]
          split
          · decide
          · exact h2 u hu
        · intro u _ hne
          refine ⟨?_, e6 u hne d⟩
          rw [Q.get, state_nat, g2, if_neg hne, hs2, if_neg hne, state_nat]
        · rw [Q.get, state_nat, g2, if_pos rfl]
      · obtain ⟨eg, hg⟩ := same (by rw [e1]; decide) e2 e3
        have hno : ¬ Hw seats setS step ph st t := fun z => by
          unfold Hw at z
          rw [eg, e4] at z; omega
        rw [eg]
        refine ⟨hg, fun u _ _ => ⟨by rw [e2], e4 u⟩, by rw [e4]; exact Nat.le_refl _, fun z => absurd z hno, fun u hu _ z => .inr (e7 u hu z), .inr ⟨by rw [e1]; decide, .inl (by rw [e2])⟩⟩
    · have h3 : stt (seats st) t = 3 := by omega
      rcases Q.unlS f t ht h3 0 with ⟨e1, e2, e3, e4, e5⟩ | ⟨e1, e2, e3, e4, e5⟩ | ⟨e1, e2, e3, e4, e5, _⟩
      · have g : ∀ u, stt (seats (step st t t 0).2) u = if u = t then 0 else stt (seats st) u := fun u => by rw [e2]; exact stt_set (seats st) t (0, -1) hl u
        have eg : go1 seats setS step st t = (step st t t 0).2 := by unfold go1; rw [if_neg (by rw [e1]; decide)]
        rw [eg]
        refine ⟨⟨⟨_, _, e3⟩, ?_⟩, ?_, by omega, fun _ => e4, fun _ _ _ _ => .inl e4, .inr ⟨by rw [e1]; decide, .inr ⟨by rw [state_nat]; exact h3, by rw [state_nat, g, if_pos rfl]⟩⟩⟩
        · intro u hu
          rw [g]
          split
          · decide
          · exact h2 u hu
        · intro u _ hne
          exact ⟨by rw [state_nat, g, if_neg hne, state_nat], e5 u hne⟩
      · obtain ⟨eg, hg⟩ := same (by rw [e1]; decide) e2 e3
        rw [eg]
        refine ⟨hg, fun u _ hne => ⟨by rw [e2], e5 u hne⟩, by omega, fun _ => e4, fun _ _ _ _ => .inl e4, .inr ⟨by rw [e1]; decide, .inl (by rw [e2])⟩⟩
      · obtain ⟨eg, hg⟩ := same (by rw [e1]; decide) e2 e3
        have hno : ¬ Hw seats setS step ph st t := fun z => by
          unfold Hw at z
          rw [eg, e4] at z; omega
        rw [eg]
        refine ⟨hg, fun u _ _ => ⟨by rw [e2], e4 u⟩, by rw [e4]; exact Nat.le_refl _, fun z => absurd z hno, fun u hu _ z => .inr (e5 u hu z), .inr ⟨by rw [e1]; decide, .inl (by rw [e2])⟩⟩
  live := fun st h hb => by
    obtain ⟨⟨q, h, f⟩, h2⟩ := h
    obtain ⟨t, ht, hs⟩ := hb
    rw [state_nat] at hs
    have hr := Q.rg f t ht
    have h2t := h2 t ht
    have lockHw : ∀ u : Nat, u < n → stt (seats st) u = 1 → Hw seats setS step ph st u ∨ ((u : Int) ∈ q ∧ ¬ (h = none ∧ q.head? = some (u : Int))) := fun u hu h1 => by
      rcases Q.lockS f u hu h1 0 with ⟨e1, e2, e3, e4, e5⟩ | ⟨e1, e2, _, e3, e4, e5, e6⟩ | ⟨_, _, _, _, e5, e6, _⟩
      · left
        unfold Hw go1
        rw [if_neg (by omega)]; exact e4
      · left
        have hl : u < (seats st).length := by rw [Q.len f]; exact hu
        have hl' : u < (seats (step st u u 0).2).length := by rw [e3]; simpa using hl
        have h2' : stt (seats (step st u u 0).2) u = 2 := by rw [e3, stt_set (seats st) u (2, -1) hl u, if_pos rfl]
        obtain ⟨d, ed⟩ := turn_eq (seats (step st u u 0).2) u 3 hl' h2'
        unfold Hw go1
        rw [if_pos e1, ed]; exact e5 d
      · exact .inr ⟨e5, e6⟩
    have h3Hw : ∀ u : Nat, u < n → stt (seats st) u = 3 → ∃ v, v < n ∧ state (seats st) v ≠ 0 ∧ Hw seats setS step ph st v := fun u hu h3 => by
      rcases Q.unlS f u hu h3 0 with ⟨e1, e2, e3, e4, e5⟩ | ⟨e1, e2, e3, e4, e5⟩ | ⟨_, _, _, _, _, v, hv, k1, k2⟩
      · exact ⟨u, hu, by rw [state_nat]; omega, by unfold Hw go1; rw [if_neg (by rw [e1]; decide)]; exact e4⟩
      · exact ⟨u, hu, by rw [state_nat]; omega, by unfold Hw go1; rw [if_neg (by rw [e1]; decide)]; exact e4⟩
      · exact ⟨v, hv, by rw [state_nat]; omega, k2⟩
    by_cases h3 : stt (seats st) t = 3
    · exact h3Hw t ht h3
    · have h1 : stt (seats st) t = 1 := by omega
      rcases lockHw t ht h1 with z | ⟨z1, z2⟩
      · exact ⟨t, ht, by rw [state_nat]; exact hs, z⟩
      · cases h with
        | some v =>
          obtain ⟨k1, k2⟩ := Q.h1 f v rfl
          have := h2 v k1
          exact h3Hw v k1 (by omega)
        | none =>
          cases q with
          | nil => simp at z1
          | cons a r =>
            obtain ⟨u, rfl, hu, k1⟩ := Q.qs f a rfl
            rcases lockHw u hu k1 with z | ⟨_, z3⟩
            · exact ⟨u, hu, by rw [state_nat]; omega, z⟩
            · exact absurd ⟨rfl, rfl⟩ z3
end
end Go.Proofs.Ytamchnaifmoklaa.Qn
