/- The lock of whom time may run out: what all states have, for the document. No program in sight. -/
import Derived.Test.YtlkpfdboagjaoaaAbortJ
namespace Go.Proofs.Ytlkpfdboagjaoaa.Abort
open Go Go.RowKit Go.Proofs.Ytlkpfdboagjaoaa.Heap Go.Proofs.Ytlkpfdboagjaoaa.Open Go.Proofs.Ytlkpfdboagjaoaa.Seat Go.Proofs.Ytlkpfdboagjaoaa.Mach Go.Proofs.Ytlkpfdboagjaoaa.Has Go.Proofs.Ytlkpfdboagjaoaa.StepU Go.Proofs.Ytlkpfdboagjaoaa.SeatP
variable {c k : Nat} {tl : Int}
def Q1 (c : Nat) (x : P) : Prop := x.s ≤ 7 ∧ (x.s = 0 → x.r < c) ∧ (x.s = 5 → x.o ≠ 0)
def Q3 (x : P) : Prop := x.s ≤ 5 ∧ (x.s = 3 ∨ x.s = 4 → x.o ≠ 0) ∧ x.r = 0
def Q0 (x : P) : Prop := x.s = 0 ∧ x.r = 0 ∧ x.o = 0
theorem lockS_iv {st : St} (u : Nat) (a : Int) (late : Bool) (h : Q1 c (st.pls.getD u p0)) : (lockS k tl c st u a late).1.1 ≠ 0 ∨ (lockS k tl c st u a late).2.pls = st.pls ∨ ∃ y, (lockS k tl c st u a late).2.pls = st.pls.set u y ∧ Q1 c y := by
  obtain ⟨⟨d, st'⟩, e⟩ : ∃ r, lockS k tl c st u a late = r := ⟨_, rfl⟩
  rw [e]
  obtain ⟨h7, h0, h5⟩ := h
  have z : ∀ {y : P} {v : Int}, y.s = v → v ≤ 7 → v ≠ 0 → v ≠ 5 → Q1 c y := fun h1 h2 h3 h4 => ⟨by omega, fun e => by omega, fun e => by omega⟩
  unfold lockS at e
  dsimp only at e
  split at e
  · rename_i hs0
    split at e
    · cases e; exact .inr (.inr ⟨_, rfl, z (v := 1) rfl (by decide) (by decide) (by decide)⟩)
    · split at e
      · cases e; exact .inl (show ¬ (6 : Int) = 0 by decide)
      · rename_i h9; cases e
        have := h0 hs0
        exact .inr (.inr ⟨_, rfl, show (0 : Int) ≤ 7 by decide, fun _ => (by show (st.pls.getD u p0).r + 1 < (c : Int); omega), fun e => absurd e (show ¬ (0 : Int) = 5 by decide)⟩)
  · split at e
    · cases e; exact .inr (.inr ⟨_, rfl, z (v := 2) rfl (by decide) (by decide) (by decide)⟩)
    · split at e
      · cases e; exact .inr (.inr ⟨_, rfl, z (v := 3) rfl (by decide) (by decide) (by decide)⟩)
      · split at e
        · cases e; exact .inr (.inr ⟨_, rfl, z (v := 4) rfl (by decide) (by decide) (by decide)⟩)
        · split at e
          · split at e
            · cases e; exact .inl (show ¬ (1 : Int) = 0 by decide)
            · rename_i hg; cases e; exact .inr (.inr ⟨_, rfl, show (5 : Int) ≤ 7 by decide, fun e => absurd e (show ¬ (5 : Int) = 0 by decide), fun _ => hg⟩)
          · split at e
            · cases e; exact .inr (.inr ⟨_, rfl, z (v := 6) rfl (by decide) (by decide) (by decide)⟩)
            · split at e
              · split at e
                · cases e; exact .inl (show ¬ (1 : Int) = 0 by decide)
                · split at e
                  · cases e; exact .inr (.inl rfl)
                  · cases e; exact .inr (.inr ⟨_, rfl, z (v := 7) rfl (by decide) (by decide) (by decide)⟩)
              · split at e
                · cases e; exact .inl (show ¬ (2 : Int) = 0 by decide)
                · cases e; exact .inl (show ¬ (1 : Int) = 0 by decide)
theorem unlS_iv {st : St} (u : Nat) (a : Int) (h : Q3 (st.pls.getD u p0)) : (unlS k tl st u a).1 ≠ 0 ∨ (unlS k tl st u a).2.pls = st.pls ∨ ∃ y, (unlS k tl st u a).2.pls = st.pls.set u y ∧ Q3 y := by
  obtain ⟨⟨d, st'⟩, e⟩ : ∃ r, unlS k tl st u a = r := ⟨_, rfl⟩
  rw [e]
  obtain ⟨h5, h34, hr⟩ := h
  unfold unlS at e
  dsimp only at e
  split at e
  · split at e
    · rename_i hg; cases e; exact .inr (.inr ⟨_, rfl, show (3 : Int) ≤ 5 by decide, fun _ => hg, hr⟩)
    · cases e
      refine .inr (.inr ⟨_, rfl, ?_, fun q => ?_, hr⟩)
      · dsimp only; split <;> omega
      · exfalso; dsimp only at q; split at q <;> omega
  · split at e
    · split at e
      · cases e; exact .inr (.inr ⟨_, rfl, show (5 : Int) ≤ 5 by decide, fun q => absurd q (show ¬ ((5 : Int) = 3 ∨ (5 : Int) = 4) by decide), hr⟩)
      · cases e; exact .inr (.inr ⟨_, rfl, show (2 : Int) ≤ 5 by decide, fun q => absurd q (show ¬ ((2 : Int) = 3 ∨ (2 : Int) = 4) by decide), hr⟩)
    · split at e
      · rename_i h3
        split at e
        · cases e; exact .inr (.inr ⟨_, rfl, show (5 : Int) ≤ 5 by decide, fun _ => h34 (.inl h3), hr⟩)
        · cases e; exact .inr (.inr ⟨_, rfl, show (4 : Int) ≤ 5 by decide, fun _ => h34 (.inl h3), hr⟩)
      · split at e
        · cases e; exact .inr (.inr ⟨_, rfl, show (0 : Int) ≤ 5 by decide, fun q => absurd q (show ¬ ((0 : Int) = 3 ∨ (0 : Int) = 4) by decide), rfl⟩)
        · split at e
          · cases e; exact .inl (show ¬ (3 : Int) = 0 by decide)
          · cases e; exact .inr (.inl rfl)
/-- What all states have. -/
structure IV (n c : Nat) (st : St) : Prop where
  sl : st.seats.length = n
  pl : st.pls.length = n
  one : ∀ t, t < n → stt st.seats t = 1 → Q1 c (st.pls.getD t p0)
  three : ∀ t, t < n → stt st.seats t = 3 → Q3 (st.pls.getD t p0)
  zero : ∀ t, t < n → stt st.seats t ≠ 1 → stt st.seats t ≠ 3 → Q0 (st.pls.getD t p0)
variable {n : Nat} {st : St}
theorem IV.turn (h : IV n c st) (c1 : 1 ≤ c) {l' : List (Int × Int)} (u : Nat) (hu : u < n) (z d : Int) (hl : l' = st.seats.set u (z, d)) (h0 : stt st.seats u ≠ 1 ∧ stt st.seats u ≠ 3) : IV n c (setS st l') := by
  subst hl
  have hus : u < st.seats.length := by rw [h.sl]; exact hu
  obtain ⟨q1, q2, q3⟩ := h.zero u hu h0.1 h0.2
  have e1 : Q1 c (st.pls.getD u p0) := ⟨by omega, fun _ => by omega, fun e => by omega⟩
  have e3 : Q3 (st.pls.getD u p0) := ⟨by omega, fun e => by omega, q2⟩
  refine ⟨by show (st.seats.set u _).length = n; simpa using h.sl, h.pl, fun v hv q => ?_, fun v hv q => ?_, fun v hv q q' => ?_⟩
  · replace q : stt (st.seats.set u (z, d)) v = 1 := q
    by_cases e : v = u
    · subst e; exact e1
    · rw [stt_set _ _ _ hus, if_neg e] at q; exact h.one v hv q
  · replace q : stt (st.seats.set u (z, d)) v = 3 := q
    by_cases e : v = u
    · subst e; exact e3
    · rw [stt_set _ _ _ hus, if_neg e] at q; exact h.three v hv q
  · replace q : stt (st.seats.set u (z, d)) v ≠ 1 := q
    replace q' : stt (st.seats.set u (z, d)) v ≠ 3 := q'
    by_cases e : v = u
    · subst e; exact ⟨q1, q2, q3⟩
    · rw [stt_set _ _ _ hus, if_neg e] at q q'; exact h.zero v hv q q'
theorem IV.step (h : IV n c st) (hok : ∀ u, u < n → 0 ≤ (st.pls.getD u p0).s) (t a now : Int) (k : Nat) (tl : Int) : IV n c (Abort.step k tl c st t a now).2 := by
  by_cases hin : ∃ u : Nat, t = u ∧ u < st.seats.length
  · obtain ⟨u, rfl, hu⟩ := hin
    have hun : u < n := by rw [← h.sl]; exact hu
    have hup : u < st.pls.length := by rw [h.pl]; exact hun
    have hsn := state_nat st.seats u
    have oth : ∀ y v, v ≠ u → (st.pls.set u y).getD v p0 = st.pls.getD v p0 := fun y v e => by rw [pl_set _ _ hup, if_neg e]
    have keep : ∀ st' : St, st'.seats = st.seats → st'.pls.length = n → (∀ v, v ≠ u → st'.pls.getD v p0 = st.pls.getD v p0) → (stt st.seats u = 1 → Q1 c (st'.pls.getD u p0)) → (stt st.seats u = 3 → Q3 (st'.pls.getD u p0)) → (stt st.seats u = 1 ∨ stt st.seats u = 3) → IV n c st' := fun st' e1 e2 e3 e4 e5 e6 => by
      refine ⟨by rw [e1]; exact h.sl, e2, fun v hv q => ?_, fun v hv q => ?_, fun v hv q q' => ?_⟩
      · rw [e1] at q
        by_cases e : v = u
        · subst e; exact e4 q
        · rw [e3 v e]; exact h.one v hv q
      · rw [e1] at q
        by_cases e : v = u
        · subst e; exact e5 q
        · rw [e3 v e]; exact h.three v hv q
      · rw [e1] at q q'
        by_cases e : v = u
        · subst e; rcases e6 with e | e; exact absurd e q; exact absurd e q'
        · rw [e3 v e]; exact h.zero v hv q q'
    have endE : ∀ (st' : St) (z : Int), z ≠ 1 → z ≠ 3 → st'.seats = st.seats.set u (z, -1) → st'.pls.length = n → (∀ v, v ≠ u → st'.pls.getD v p0 = st.pls.getD v p0) → Q0 (st'.pls.getD u p0) → IV n c st' := fun st' z z1 z3 e1 e2 e3 e4 => by
      refine ⟨by rw [e1]; simpa using h.sl, e2, fun v hv q => ?_, fun v hv q => ?_, fun v hv q q' => ?_⟩
      · rw [e1, stt_set _ _ _ hu] at q
        split at q
        · exact absurd q z1
        · rename_i e; rw [e3 v e]; exact h.one v hv q
      · rw [e1, stt_set _ _ _ hu] at q
        split at q
        · exact absurd q z3
        · rename_i e; rw [e3 v e]; exact h.three v hv q
      · rw [e1, stt_set _ _ _ hu] at q q'
        by_cases e : v = u
        · subst e; exact e4
        · rw [if_neg e] at q q'; rw [e3 v e]; exact h.zero v hv q q'
    have rg : ∀ l : List P, l.length = n → Q0 ((rest l u).getD u p0) := fun l hl => by
      unfold rest; rw [pl_set _ _ (by omega), if_pos rfl]; exact ⟨rfl, rfl, rfl⟩
    by_cases h1 : stt st.seats u = 1
    · have hI := lockS_iv (k := k) (tl := tl) (c := c) (st := st) u a (lateB st.seats u now) (h.one u hun h1)
      have hL := lockS_ev (k := k) (tl := tl) (c := c) (st := st) u a (lateB st.seats u now) ⟨hok u hun, (h.one u hun h1).1⟩
      have hss := (lockS_len (k := k) (tl := tl) (c := c) st u a (lateB st.seats u now)).1
      have hm : midS k tl c st u a now = lockS k tl c st u a (lateB st.seats u now) := by unfold midS; rw [hsn, if_pos h1, Int.toNat_natCast]
      obtain ⟨⟨d, st'⟩, hr⟩ : ∃ r, lockS k tl c st u a (lateB st.seats u now) = r := ⟨_, rfl⟩
      rw [hr] at hL hI hss hm
      dsimp only at hL hI hss
      have hst : Abort.step k tl c st u a now = (d, { st' with seats := (fin st.seats u d.1).2, pls := if (fin st.seats u d.1).1 = true then rest st'.pls u else st'.pls }) := by
        unfold Abort.step; rw [hm]; dsimp only; rw [hss, Int.toNat_natCast]
      rw [hst]
      have hpl : st'.pls.length = n ∧ ∀ v, v ≠ u → st'.pls.getD v p0 = st.pls.getD v p0 := by
        rcases hL with (⟨_, h2, _⟩ | ⟨_, y, h2, _⟩) | ⟨_, y, h2 | ⟨h2, _⟩⟩ <;> rw [h2]
        · exact ⟨h.pl, fun _ _ => rfl⟩
        · exact ⟨by simpa using h.pl, oth y⟩
        · exact ⟨by simpa using h.pl, oth y⟩
        · exact ⟨h.pl, fun _ _ => rfl⟩
      by_cases h0 : d.1 = 0
      · have hi := hI.resolve_left (fun e => e h0)
        refine keep _ ?_ ?_ ?_ ?_ ?_ (.inl h1)
        · show (fin st.seats u d.1).2 = _; rw [h0, fin_0]
        · show (if (fin st.seats u d.1).1 = true then rest st'.pls u else st'.pls).length = n; rw [h0, fin_0, if_neg Bool.false_ne_true]; exact hpl.1
        · intro v e; show (if (fin st.seats u d.1).1 = true then rest st'.pls u else st'.pls).getD v p0 = _; rw [h0, fin_0, if_neg Bool.false_ne_true]; exact hpl.2 v e
        · intro _; show Q1 c ((if (fin st.seats u d.1).1 = true then rest st'.pls u else st'.pls).getD u p0); rw [h0, fin_0, if_neg Bool.false_ne_true]
          rcases hi with e | ⟨y, e, q⟩ <;> rw [e]
          · exact h.one u hun h1
          · rw [pl_set _ _ hup, if_pos rfl]; exact q
        · exact fun e => absurd (h1.symm.trans e) (by decide)
      · have he : d.1 = 1 ∨ d.1 = 2 ∨ d.1 = 6 := by rcases hL with (⟨e, _⟩ | ⟨e, _⟩) | ⟨e | e | ⟨e, _⟩, _⟩ <;> omega
        obtain ⟨z, hf, z1, z3⟩ := fin_1 h1 he
        refine endE _ z z1 z3 ?_ ?_ ?_ ?_
        · show (fin st.seats u d.1).2 = _; rw [hf]
        · show (if (fin st.seats u d.1).1 = true then rest st'.pls u else st'.pls).length = n; rw [hf, if_pos rfl, rest_len]; exact hpl.1
        · intro v e; show (if (fin st.seats u d.1).1 = true then rest st'.pls u else st'.pls).getD v p0 = _; rw [hf, if_pos rfl, (rest_get (pl := st'.pls) (u := u) (by omega)).2 v e]; exact hpl.2 v e
        · show Q0 ((if (fin st.seats u d.1).1 = true then rest st'.pls u else st'.pls).getD u p0); rw [hf, if_pos rfl]; exact rg _ hpl.1
    · by_cases h3 : stt st.seats u = 3
      · have hI := unlS_iv (k := k) (tl := tl) (st := st) u a (h.three u hun h3)
        have hU := unlS_ev (k := k) (tl := tl) (st := st) u a
        have hss := (unlS_len (k := k) (tl := tl) st u a).1
        have hm : midS k tl c st u a now = (((unlS k tl st u a).1, false, false, false), (unlS k tl st u a).2) := by unfold midS; rw [hsn, if_neg h1, if_pos h3, Int.toNat_natCast]
        obtain ⟨⟨ev, st'⟩, hr⟩ : ∃ r, unlS k tl st u a = r := ⟨_, rfl⟩
        rw [hr] at hU hI hss hm
        dsimp only at hU hI hss hm
        have hst : Abort.step k tl c st u a now = ((ev, false, false, false), { st' with seats := (fin st.seats u ev).2, pls := if (fin st.seats u ev).1 = true then rest st'.pls u else st'.pls }) := by
          unfold Abort.step; rw [hm]; dsimp only; rw [hss, Int.toNat_natCast]
        rw [hst]
        obtain ⟨h0, h2⟩ := hU
        have hpl : st'.pls.length = n ∧ ∀ v, v ≠ u → st'.pls.getD v p0 = st.pls.getD v p0 := by
          rcases h2 with h2 | ⟨y, h2⟩ <;> rw [h2]
          · exact ⟨h.pl, fun _ _ => rfl⟩
          · exact ⟨by simpa using h.pl, oth y⟩
        rcases h0 with rfl | rfl
        · have hi := hI.resolve_left (fun e => e rfl)
          refine keep _ ?_ ?_ ?_ ?_ ?_ (.inr h3)
          · show (fin st.seats u 0).2 = _; rw [fin_0]
          · show (if (fin st.seats u 0).1 = true then rest st'.pls u else st'.pls).length = n; rw [fin_0, if_neg Bool.false_ne_true]; exact hpl.1
          · intro v e; show (if (fin st.seats u 0).1 = true then rest st'.pls u else st'.pls).getD v p0 = _; rw [fin_0, if_neg Bool.false_ne_true]; exact hpl.2 v e
          · exact fun e => absurd e h1
          · intro _; show Q3 ((if (fin st.seats u 0).1 = true then rest st'.pls u else st'.pls).getD u p0); rw [fin_0, if_neg Bool.false_ne_true]
            rcases hi with e | ⟨y, e, q⟩ <;> rw [e]
            · exact h.three u hun h3
            · rw [pl_set _ _ hup, if_pos rfl]; exact q
        · have hf := fin_3 h3
          refine endE _ 0 (by decide) (by decide) ?_ ?_ ?_ ?_
          · show (fin st.seats u 3).2 = _; rw [hf]
          · show (if (fin st.seats u 3).1 = true then rest st'.pls u else st'.pls).length = n; rw [hf, if_pos rfl, rest_len]; exact hpl.1
          · intro v e; show (if (fin st.seats u 3).1 = true then rest st'.pls u else st'.pls).getD v p0 = _; rw [hf, if_pos rfl, (rest_get (pl := st'.pls) (u := u) (by omega)).2 v e]; exact hpl.2 v e
          · show Q0 ((if (fin st.seats u 3).1 = true then rest st'.pls u else st'.pls).getD u p0); rw [hf, if_pos rfl]; exact rg _ hpl.1
      · have hm : midS k tl c st u a now = ((0, false, false, false), st) := by unfold midS; rw [hsn, if_neg h1, if_neg h3]
        have hst : Abort.step k tl c st u a now = ((0, false, false, false), st) := by
          unfold Abort.step; rw [hm]; dsimp only; rw [fin_0, if_neg Bool.false_ne_true]
        rw [hst]; exact h
  · have hz := state_out st.seats t hin
    have hm : midS k tl c st t a now = ((0, false, false, false), st) := by unfold midS; rw [hz, if_neg (by decide), if_neg (by decide)]
    have hst : Abort.step k tl c st t a now = ((0, false, false, false), st) := by
      unfold Abort.step; rw [hm]; dsimp only; rw [fin_0, if_neg Bool.false_ne_true]
    rw [hst]; exact h
theorem startI (n : Nat) (ws : List Int) : IV n c (st0 n ws) := by
  have h0 : ∀ t, stt (List.replicate n ((0 : Int), (-1 : Int))) t = 0 := fun t => by
    unfold stt; rw [List.getD, List.getElem?_replicate]; split <;> rfl
  refine ⟨by simp [st0], by simp [st0], fun t _ h => ?_, fun t _ h => ?_, fun t _ _ _ => ?_⟩
  · have : stt (List.replicate n ((0 : Int), (-1 : Int))) t = 1 := h
    rw [h0] at this; exact absurd this (by decide)
  · have : stt (List.replicate n ((0 : Int), (-1 : Int))) t = 3 := h
    rw [h0] at this; exact absurd this (by decide)
  · show Q0 ((List.replicate n p0).getD t p0)
    rw [List.getD, List.getElem?_replicate]; split <;> exact ⟨rfl, rfl, rfl⟩
end Go.Proofs.Ytlkpfdboagjaoaa.Abort
