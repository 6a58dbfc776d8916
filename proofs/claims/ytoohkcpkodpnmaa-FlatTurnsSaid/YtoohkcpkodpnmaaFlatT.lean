/- The ticket lock makes headway, by value. -/
import Derived.Test.YtoohkcpkodpnmaaFlatP
import Derived.Test.YtoohkcpkodpnmaaGear
namespace Go.Proofs.Ytoohkcpkodpnmaa.FlatT
open Go Go.Proofs.Ytoohkcpkodpnmaa.Heap Go.Proofs.Ytoohkcpkodpnmaa.Seat Go.Proofs.Ytoohkcpkodpnmaa.Mach Go.Proofs.Ytoohkcpkodpnmaa.SeatP Go.Proofs.Ytoohkcpkodpnmaa.Flat Go.Proofs.Ytoohkcpkodpnmaa.FlatP

def GI (n : Nat) (x : Int) (st : St) : Prop := (∃ q S h, FI n x st q S h) ∧ ∀ t, t < n → stt st.seats t ≠ 2 ∧ stt st.seats t ≠ 4
def phv (s : Int) (d : Bool) : Nat := if s = 0 then 0 else if s = 3 then 1 else if d = true then 2 else 3
def ph (st : St) (u : Nat) : Nat := phv (stt st.seats u) (st.drew.getD u false)
def En0 (n : Nat) (x : Int) (st : St) (u : Nat) : Prop := stt st.seats u = 3 ∨ (stt st.seats u = 1 ∧ st.drew.getD u false = false) ∨ (stt st.seats u = 1 ∧ ∃ q S, FI n x st q S none ∧ q.head? = some (u : Int))
theorem seats_set (st : St) (l : List (Int × Int)) : (setS st l).seats = l := rfl
theorem gear (n : Nat) (x : Int) : Gear false n St.seats setS (fun st t a now => Flat.step n 0 1 st t a now) 4 (GI n x) ph (En0 n x) where
  states := fun st t h ht => by
    obtain ⟨⟨q, S, h, f⟩, h2⟩ := h
    have := f.rg t ht
    have := h2 t ht
    rw [state_nat]; omega
  call := fun st t h ht h0 => by
    obtain ⟨⟨q, S, h, f⟩, h2⟩ := h
    rw [state_nat] at h0
    have hl : t < st.seats.length := by rw [f.sl]; exact ht
    have e : callS false St.seats setS st t = setS st (st.seats.set t (1, -1)) := by unfold callS; rw [lock_eq _ _ _ hl h0]
    have g : ∀ u, stt (st.seats.set t (1, -1)) u = if u = t then 1 else stt st.seats u := fun u => stt_set st.seats t (1, -1) hl u
    rw [e]
    refine ⟨⟨⟨q, S, h, f.seat t ht 1 (-1) (.inl ⟨h0, rfl⟩)⟩, ?_⟩, ?_, ?_, ?_⟩
    · intro u hu
      show stt (st.seats.set t (1, -1)) u ≠ 2 ∧ stt (st.seats.set t (1, -1)) u ≠ 4
      rw [g]
      split
      · decide
      · exact h2 u hu
    · show state (st.seats.set t (1, -1)) t = 1
      rw [state_nat, g, if_pos rfl]
    · show phv (stt (st.seats.set t (1, -1)) t) _ < 4
      unfold phv
      (repeat' split) <;> omega
    · intro u _ hne
      have hu := g u
      rw [if_neg hne] at hu
      refine ⟨?_, ?_⟩
      · show state (st.seats.set t (1, -1)) u = _
        rw [state_nat, hu, state_nat]
      · show phv (stt (st.seats.set t (1, -1)) u) _ = _
        rw [hu]; rfl
  rest := fun st t h ht h0 => by
    rw [step_idle h0]
    exact ⟨(fun z => by cases z), rfl⟩
  act := fun st t h ht hs => by
    obtain ⟨⟨q, S, h, f⟩, h2⟩ := h
    rw [state_nat] at hs
    have hl : t < st.seats.length := by rw [f.sl]; exact ht
    have hr := f.rg t ht
    have h2t := h2 t ht
    by_cases h1 : stt st.seats t = 1
    · have hp : ph st t = if st.drew.getD t false = true then 2 else 3 := by unfold ph phv; rw [h1]; rfl
      rcases step_lock f t ht h1 0 with ⟨hd, e1, e2, e3, e4⟩ | ⟨hd, e1, e2, rfl, e3, e4, e5⟩ | ⟨hd, e1, e2, e3, e4, e5⟩
      · -- a number is drawn
        obtain ⟨s', es⟩ : ∃ s', (Flat.step n 0 1 st t t 0).2 = s' := ⟨_, rfl⟩
        have e : go1 St.seats setS (fun st t a now => Flat.step n 0 1 st t a now) st t = s' := by
          unfold go1; dsimp only; rw [e1, if_neg (by decide), es]
        rw [es] at e2 e3 e4
        have gb := fun v => bset st.drew t (by rw [f.dl]; exact ht) true v
        rw [hd, if_neg (by decide)] at hp
        have hp' : ph s' t = 2 := by unfold ph phv; rw [e3, h1, e4, gb, if_pos rfl]; rfl
        rw [e, e1]
        refine ⟨⟨⟨_, S, h, e2⟩, by rw [e3]; exact h2⟩, ?_, by omega, fun _ => by omega, fun _ _ _ _ => .inl (by omega), .inr ⟨by decide, .inl (by rw [e3])⟩⟩
        intro u _ hne
        rw [e3]
        refine ⟨rfl, ?_⟩
        unfold ph
        rw [e3, e4, gb, if_neg hne]
      · -- the lock is granted, and left at once
        obtain ⟨s', es⟩ : ∃ s', (Flat.step n 0 1 st t t 0).2 = s' := ⟨_, rfl⟩
        rw [es] at e3 e4 e5
        have hl' : t < s'.seats.length := by rw [e4]; simpa using hl
        have g : ∀ u, stt s'.seats u = if u = t then 2 else stt st.seats u := fun u => by rw [e4]; exact stt_set st.seats t (2, -1) hl u
        have hs2 : stt s'.seats t = 2 := by rw [g, if_pos rfl]
        obtain ⟨d, ed⟩ := turn_eq s'.seats t 3 hl' hs2
        have g2 : ∀ u, stt (s'.seats.set t (3, d)) u = if u = t then 3 else stt s'.seats u := fun u => stt_set s'.seats t (3, d) hl' u
        have e : go1 St.seats setS (fun st t a now => Flat.step n 0 1 st t a now) st t = setS s' (s'.seats.set t (3, d)) := by
          unfold go1; dsimp only; rw [e1, if_pos (by decide), es, ed]
        rw [hd, if_pos rfl] at hp
        have hp' : ph (setS s' (s'.seats.set t (3, d))) t = 1 := by
          show phv (stt (s'.seats.set t (3, d)) t) _ = 1
          unfold phv; rw [g2, if_pos rfl]; rfl
        rw [e, e1, es]
        refine ⟨⟨⟨_, S, some t, e3.seat t ht 3 d (.inr ⟨.inl hs2, .inr (.inl rfl)⟩)⟩, ?_⟩, ?_, by omega, fun _ => by omega, fun _ _ _ _ => .inl (by omega), .inl ⟨rfl, turn_ok _ _ _ hl' hs2, by rw [state_nat]; exact h1, ?_⟩⟩
        · intro u hu
          show stt (s'.seats.set t (3, d)) u ≠ 2 ∧ stt (s'.seats.set t (3, d)) u ≠ 4
          rw [g2, g]
          split
          · decide
          · exact h2 u hu
        · intro u _ hne
          have hu := g2 u
          rw [if_neg hne, g, if_neg hne] at hu
          refine ⟨?_, ?_⟩
          · show state (s'.seats.set t (3, d)) u = _
            rw [state_nat, hu, state_nat]
          · show phv (stt (s'.seats.set t (3, d)) u) (s'.drew.getD u false) = _
            rw [hu, e5]; rfl
        · show state (s'.seats.set t (3, d)) t = 3
          rw [state_nat, g2, if_pos rfl]
      · -- it waits
        obtain ⟨s', es⟩ : ∃ s', (Flat.step n 0 1 st t t 0).2 = s' := ⟨_, rfl⟩
        have e : go1 St.seats setS (fun st t a now => Flat.step n 0 1 st t a now) st t = s' := by
          unfold go1; dsimp only; rw [e1, if_neg (by decide), es]
        have hstep : ∀ {q' S'}, FI n x st q' S' none → q'.head? ≠ some (t : Int) → FI n x s' q' S' none := fun {q' S'} f' hq' => by
          rcases step_lock f' t ht h1 0 with ⟨hd', _⟩ | ⟨_, _, hq, _⟩ | ⟨_, _, k2, _⟩
          · rw [hd] at hd'; cases hd'
          · exact absurd hq hq'
          · rw [es] at k2; exact k2
        have hno : ¬ En0 n x st t := by
          rintro (z | ⟨_, z⟩ | ⟨_, q', S', f', hq'⟩)
          · omega
          · rw [hd] at z; cases z
          · rcases step_lock f' t ht h1 0 with ⟨hd', _⟩ | ⟨_, k1, _⟩ | ⟨_, _, _, _, _, k5⟩
            · rw [hd] at hd'; cases hd'
            · rw [e1] at k1; cases k1
            · exact k5 ⟨rfl, hq'⟩
        rw [es] at e2 e3 e4
        have hph : ∀ u, ph s' u = ph st u := fun u => by unfold ph; rw [e3, e4]
        rw [e, e1]
        refine ⟨⟨⟨_, S, h, e2⟩, by rw [e3]; exact h2⟩, fun u _ _ => ⟨by rw [e3], hph u⟩, by rw [hph]; exact Nat.le_refl _, fun z => absurd z hno, ?_, .inr ⟨by decide, .inl (by rw [e3])⟩⟩
        intro u hu hne he
        right
        rcases he with z | ⟨z1, z2⟩ | ⟨z1, q', S', f', hq'⟩
        · exact .inl (by rw [e3]; exact z)
        · exact .inr (.inl ⟨by rw [e3]; exact z1, by rw [e4]; exact z2⟩)
        · exact .inr (.inr ⟨by rw [e3]; exact z1, q', S', hstep f' (by rw [hq']; intro z; simp at z; omega), hq'⟩)
    · have h3 : stt st.seats t = 3 := by omega
      obtain ⟨e1, e2, e3, e4⟩ := step_unlock f t ht h3 0
      obtain ⟨s', es⟩ : ∃ s', (Flat.step n 0 1 st t t 0).2 = s' := ⟨_, rfl⟩
      rw [es] at e2 e3 e4
      have e : go1 St.seats setS (fun st t a now => Flat.step n 0 1 st t a now) st t = s' := by
        unfold go1; dsimp only; rw [e1, if_neg (by decide), es]
      have g : ∀ u, stt s'.seats u = if u = t then 0 else stt st.seats u := fun u => by rw [e3]; exact stt_set st.seats t (0, -1) hl u
      have gb := fun v => bset st.drew t (by rw [f.dl]; exact ht) false v
      have hp : ph st t = 1 := by unfold ph phv; rw [h3]; rfl
      have hp' : ph s' t = 0 := by unfold ph phv; rw [g, if_pos rfl]; rfl
      rw [e, e1]
      refine ⟨⟨⟨_, S + 1, none, e2⟩, ?_⟩, ?_, by omega, fun _ => by omega, fun _ _ _ _ => .inl (by omega), .inr ⟨by decide, .inr ⟨by rw [state_nat]; exact h3, by rw [state_nat, g, if_pos rfl]⟩⟩⟩
      · intro u hu
        rw [g]
        split
        · decide
        · exact h2 u hu
      · intro u _ hne
        have hu := g u
        rw [if_neg hne] at hu
        refine ⟨by rw [state_nat, hu, state_nat], ?_⟩
        unfold ph
        rw [hu, e4, gb, if_neg hne]
  live := fun st h hb => by
    obtain ⟨⟨q, S, h, f⟩, h2⟩ := h
    obtain ⟨t, ht, hs⟩ := hb
    rw [state_nat] at hs
    have hr := f.rg t ht
    have h2t := h2 t ht
    by_cases h3 : stt st.seats t = 3
    · exact ⟨t, ht, by rw [state_nat]; exact hs, .inl h3⟩
    · have h1 : stt st.seats t = 1 := by omega
      cases hd : st.drew.getD t false with
      | false => exact ⟨t, ht, by rw [state_nat]; exact hs, .inr (.inl ⟨h1, hd⟩)⟩
      | true =>
        cases h with
        | some v =>
          obtain ⟨k1, k2, _⟩ := f.h1 v rfl
          have := h2 v k1
          exact ⟨v, k1, by rw [state_nat]; omega, .inl (by omega)⟩
        | none =>
          have hm := f.q2 t ht h1 hd
          cases q with
          | nil => simp at hm
          | cons a r =>
            obtain ⟨u, e2, hu, k1, _, _⟩ := f.q1 0 (by simp)
            have e2 : a = (u : Int) := e2
            exact ⟨u, hu, by rw [state_nat]; omega, .inr (.inr ⟨k1, _, S, f, by rw [e2]; rfl⟩)⟩
theorem start (n : Nat) (n8 : n ≤ 8) (x : Int) (hx0 : 0 ≤ x) (hx1 : x < 4294967296) : GI n x (st0 n [x, x]) ∧ (∀ t : Nat, t < n → state (st0 n [x, x]).seats t = 0) ∧ ∀ t, t < n → ph (st0 n [x, x]) t = 0 := by
  have g : ∀ t, stt (List.replicate n ((0 : Int), (-1 : Int))) t = 0 := fun t => by
    unfold stt
    rcases Nat.lt_or_ge t n with h | h
    · rw [getD_lt _ _ _ (by simpa using h)]; simp
    · simp [List.getD, h]
  refine ⟨⟨⟨[], 0, none, FI.start n n8 x hx0 hx1⟩, fun t _ => ?_⟩, fun t _ => ?_, fun t _ => ?_⟩
  · show stt (List.replicate n ((0 : Int), (-1 : Int))) t ≠ 2 ∧ stt (List.replicate n ((0 : Int), (-1 : Int))) t ≠ 4
    rw [g]; decide
  · show state (List.replicate n ((0 : Int), (-1 : Int))) t = 0
    rw [state_nat, g]
  · show phv (stt (List.replicate n ((0 : Int), (-1 : Int))) t) _ = 0
    rw [g]; rfl
end Go.Proofs.Ytoohkcpkodpnmaa.FlatT
