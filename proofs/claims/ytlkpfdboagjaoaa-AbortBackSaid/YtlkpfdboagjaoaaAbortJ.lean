/- The lock of whom time may run out: whose time ran out, by value. No program in sight. -/
import Derived.Test.YtlkpfdboagjaoaaAbort3
namespace Go.Proofs.Ytlkpfdboagjaoaa.Abort
open Go Go.RowKit Go.Proofs.Ytlkpfdboagjaoaa.Heap Go.Proofs.Ytlkpfdboagjaoaa.Open Go.Proofs.Ytlkpfdboagjaoaa.Seat Go.Proofs.Ytlkpfdboagjaoaa.Mach Go.Proofs.Ytlkpfdboagjaoaa.Has Go.Proofs.Ytlkpfdboagjaoaa.StepU Go.Proofs.Ytlkpfdboagjaoaa.SeatP
variable {c k : Nat} {tl : Int}
/-- A step of a call for the lock: what it may come to. -/
theorem lockS_ev {st : St} (u : Nat) (a : Int) (late : Bool) (h8 : 0 ≤ (st.pls.getD u p0).s ∧ (st.pls.getD u p0).s ≤ 7) :
    (((lockS k tl c st u a late).1.1 = 0 ∧ ((lockS k tl c st u a late).2.pls = st.pls ∧ (st.pls.getD u p0).s ≠ 7)) ∨
    ((lockS k tl c st u a late).1.1 = 0 ∧ ∃ y, (lockS k tl c st u a late).2.pls = st.pls.set u y ∧ (y.s = 7 → late = true))) ∨
    (((lockS k tl c st u a late).1.1 = 1 ∨ (lockS k tl c st u a late).1.1 = 6 ∨ ((lockS k tl c st u a late).1.1 = 2 ∧ (st.pls.getD u p0).s = 7)) ∧ ∃ y, (lockS k tl c st u a late).2.pls = st.pls.set u y ∨ (lockS k tl c st u a late).2.pls = st.pls ∧ y = p0) := by
  obtain ⟨⟨d, st'⟩, e⟩ : ∃ r, lockS k tl c st u a late = r := ⟨_, rfl⟩
  rw [e]
  have z : ∀ {y : P} {v : Int}, y.s = v → v ≠ 7 → y.s = 7 → late = true := fun h1 h2 h3 => absurd (h1.symm.trans h3) h2
  unfold lockS at e
  dsimp only at e
  split at e
  · rename_i hs0
    split at e
    · cases e; exact .inl (.inr ⟨rfl, _, rfl, z (v := 1) rfl (by decide)⟩)
    · split at e
      · cases e; exact .inr ⟨.inr (.inl rfl), _, .inl rfl⟩
      · cases e; exact .inl (.inr ⟨rfl, _, rfl, z (v := 0) rfl (by decide)⟩)
  · split at e
    · cases e; exact .inl (.inr ⟨rfl, _, rfl, z (v := 2) rfl (by decide)⟩)
    · split at e
      · cases e; exact .inl (.inr ⟨rfl, _, rfl, z (v := 3) rfl (by decide)⟩)
      · split at e
        · cases e; exact .inl (.inr ⟨rfl, _, rfl, z (v := 4) rfl (by decide)⟩)
        · split at e
          · split at e
            · cases e; exact .inr ⟨.inl rfl, _, .inl rfl⟩
            · cases e; exact .inl (.inr ⟨rfl, _, rfl, z (v := 5) rfl (by decide)⟩)
          · split at e
            · cases e; exact .inl (.inr ⟨rfl, _, rfl, z (v := 6) rfl (by decide)⟩)
            · split at e
              · rename_i h6
                split at e
                · cases e; exact .inr ⟨.inl rfl, p0, .inr ⟨rfl, rfl⟩⟩
                · split at e
                  · cases e; exact .inl (.inl ⟨rfl, rfl, by omega⟩)
                  · rename_i hl
                    cases e; exact .inl (.inr ⟨rfl, _, rfl, fun _ => by simpa using hl⟩)
              · have h7 : (st.pls.getD u p0).s = 7 := by omega
                split at e
                · cases e; exact .inr ⟨.inr (.inr ⟨rfl, h7⟩), p0, .inr ⟨rfl, rfl⟩⟩
                · cases e; exact .inr ⟨.inl rfl, p0, .inr ⟨rfl, rfl⟩⟩
theorem unlS_ev {st : St} (u : Nat) (a : Int) : ((unlS k tl st u a).1 = 0 ∨ (unlS k tl st u a).1 = 3) ∧ ((unlS k tl st u a).2.pls = st.pls ∨ ∃ y, (unlS k tl st u a).2.pls = st.pls.set u y) := by
  obtain ⟨⟨d, st'⟩, e⟩ : ∃ r, unlS k tl st u a = r := ⟨_, rfl⟩
  rw [e]
  unfold unlS at e
  dsimp only at e
  (repeat' split at e) <;> cases e <;> first | exact ⟨.inl rfl, .inl rfl⟩ | exact ⟨.inr rfl, .inl rfl⟩ | exact ⟨.inl rfl, .inr ⟨_, rfl⟩⟩
theorem lock_split (l : List (Int × Int)) (td : Bool) (t d : Int) : ((lock l td t d).1 ≠ 0 ∧ (lock l td t d).2 = l) ∨ ∃ u : Nat, t = u ∧ u < l.length ∧ stt l u = 0 ∧ lock l td t d = (0, l.set u (1, d)) := by
  unfold lock
  cases hb : inB t l.length with
  | false => exact .inl ⟨show (1 : Int) ≠ 0 by decide, rfl⟩
  | true =>
    obtain ⟨u, rfl, hu⟩ := inB_nat hb
    rw [if_pos rfl]
    split
    · exact .inl ⟨show (1 : Int) ≠ 0 by decide, rfl⟩
    · split
      · exact .inl ⟨show (1 : Int) ≠ 0 by decide, rfl⟩
      · split
        · exact .inl ⟨show (2 : Int) ≠ 0 by decide, rfl⟩
        · rename_i h
          rw [Int.toNat_natCast] at h ⊢
          exact .inr ⟨u, rfl, hu, by unfold stt; omega, rfl⟩
theorem dls_set (l : List Int) (u : Nat) (hu : u < l.length) (x : Int) (v : Nat) : (l.set u x).getD v 0 = if v = u then x else l.getD v 0 := by
  by_cases e : v = u
  · subst e; rw [if_pos rfl]; simp [List.getD, List.getElem?_set_self hu]
  · rw [if_neg e, List.getD, List.getElem?_set_ne (fun z => e z.symm)]; rfl
theorem seat_set (l : List (Int × Int)) (u : Nat) (hu : u < l.length) (x : Int × Int) (v : Nat) : (l.set u x).getD v (0, -1) = if v = u then x else l.getD v (0, -1) := by
  by_cases e : v = u
  · subst e; rw [if_pos rfl]; simp [List.getD, List.getElem?_set_self hu]
  · rw [if_neg e, List.getD, List.getElem?_set_ne (fun z => e z.symm)]; rfl
/-- What the laws know of deadlines. -/
structure JT (n : Nat) (st : St) (now : Int) (dls : List Int) : Prop where
  sl : st.seats.length = n
  pl : st.pls.length = n
  n8 : n ≤ 8
  dl : dls.length = 8
  a : ∀ t, t < n → stt st.seats t = 1 → (st.seats.getD t (0, -1)).2 = dls.getD t 0
  b : ∀ t, t < n → stt st.seats t = 1 → (st.pls.getD t p0).s = 7 → 0 ≤ dls.getD t 0 ∧ dls.getD t 0 ≤ now
  c : ∀ t, t < n → stt st.seats t ≠ 1 → stt st.seats t ≠ 3 → (st.pls.getD t p0).s = 0
variable {n : Nat} {st : St} {now : Int} {dls : List Int}
theorem JT.later (h : JT n st now dls) {now' : Int} (hn : now ≤ now') : JT n st now' dls :=
  ⟨h.sl, h.pl, h.n8, h.dl, h.a, fun t ht h1 h2 => by have := h.b t ht h1 h2; omega, h.c⟩
theorem JT.lock (h : JT n st now dls) (t d : Int) : ((Seat.lock st.seats true t d).1 ≠ 0 ∧ JT n (setS st (Seat.lock st.seats true t d).2) now dls) ∨ ∃ u : Nat, t = u ∧ u < 8 ∧ (Seat.lock st.seats true t d).1 = 0 ∧ JT n (setS st (Seat.lock st.seats true t d).2) now (dls.set u d) := by
  rcases lock_split st.seats true t d with ⟨h1, h2⟩ | ⟨u, rfl, hu, h0, h2⟩
  · rw [h2]; exact .inl ⟨h1, h⟩
  · have hun : u < n := by rw [← h.sl]; exact hu
    have hud : u < dls.length := by rw [h.dl]; have := h.n8; omega
    refine .inr ⟨u, rfl, by have := h.n8; omega, by rw [h2], ?_⟩
    rw [h2]
    have hs0 := h.c u hun (by omega) (by omega)
    refine ⟨by show (st.seats.set u _).length = n; simpa using h.sl, h.pl, h.n8, by simpa using h.dl, fun v hv h1 => ?_, fun v hv h1 h3 => ?_, fun v hv h1 h3 => ?_⟩
    · replace h1 : stt (st.seats.set u (1, d)) v = 1 := h1
      show ((st.seats.set u (1, d)).getD v (0, -1)).2 = _
      rw [seat_set _ _ hu, dls_set _ _ hud]
      split
      · rfl
      · rename_i e; rw [stt_set _ _ _ hu, if_neg e] at h1; exact h.a v hv h1
    · replace h1 : stt (st.seats.set u (1, d)) v = 1 := h1
      have h3 : (st.pls.getD v p0).s = 7 := h3
      rw [dls_set _ _ hud]
      by_cases e : v = u
      · subst e; omega
      · rw [if_neg e]; rw [stt_set _ _ _ hu, if_neg e] at h1; exact h.b v hv h1 h3
    · replace h1 : stt (st.seats.set u (1, d)) v ≠ 1 := h1
      replace h3 : stt (st.seats.set u (1, d)) v ≠ 3 := h3
      by_cases e : v = u
      · subst e; exact hs0
      · rw [stt_set _ _ _ hu, if_neg e] at h1 h3; exact h.c v hv h1 h3
theorem JT.unlock (h : JT n st now dls) (t : Int) : JT n (setS st (turn st.seats t 3).2) now dls := by
  rcases turn_cases st.seats t 3 with h2 | ⟨u, rfl, hu, h0, d, h2⟩
  · rw [h2]; exact h
  · rw [h2]
    refine ⟨by show (st.seats.set u _).length = n; simpa using h.sl, h.pl, h.n8, h.dl, fun v hv h1 => ?_, fun v hv h1 h3 => ?_, fun v hv h1 h3 => ?_⟩
    · replace h1 : stt (st.seats.set u (3, d)) v = 1 := h1
      show ((st.seats.set u (3, d)).getD v (0, -1)).2 = _
      rw [stt_set _ _ _ hu] at h1
      split at h1
      · exact absurd h1 (show ¬ (3 : Int) = 1 by decide)
      · rename_i e; rw [seat_set _ _ hu, if_neg e]; exact h.a v hv h1
    · replace h1 : stt (st.seats.set u (3, d)) v = 1 := h1
      rw [stt_set _ _ _ hu] at h1
      split at h1
      · exact absurd h1 (show ¬ (3 : Int) = 1 by decide)
      · exact h.b v hv h1 h3
    · replace h1 : stt (st.seats.set u (3, d)) v ≠ 1 := h1
      replace h3 : stt (st.seats.set u (3, d)) v ≠ 3 := h3
      rw [stt_set _ _ _ hu] at h1 h3
      split at h3
      · exact absurd rfl h3
      · rename_i e; rw [if_neg e] at h1; exact h.c v hv h1 h3
theorem fin_1 {sl : List (Int × Int)} {u : Nat} {ev : Int} (h1 : stt sl u = 1) (he : ev = 1 ∨ ev = 2 ∨ ev = 6) : ∃ z, fin sl u ev = (true, sl.set u (z, -1)) ∧ z ≠ 1 ∧ z ≠ 3 := by
  refine ⟨next (stt sl u) ev, ?_, ?_, ?_⟩
  · unfold fin
    rw [state_nat, if_neg ?_, Int.toNat_natCast]
    rw [h1]; rcases he with rfl | rfl | rfl <;> decide
  · rw [h1]; rcases he with rfl | rfl | rfl <;> decide
  · rw [h1]; rcases he with rfl | rfl | rfl <;> decide
theorem fin_3 {sl : List (Int × Int)} {u : Nat} (h1 : stt sl u = 3) : fin sl u 3 = (true, sl.set u (0, -1)) := by
  unfold fin
  rw [state_nat, h1, if_neg (by decide), Int.toNat_natCast]
  rfl
theorem fin_0 (sl : List (Int × Int)) (t : Int) : fin sl t 0 = (false, sl) := by
  unfold fin
  rw [if_pos]
  unfold next
  (repeat' split) <;> simp_all
theorem JT.keepE (h : JT n st now dls) (u : Nat) (st' : St) (hs : st'.seats = st.seats) (hl : st'.pls.length = n) (ho : ∀ v, v ≠ u → st'.pls.getD v p0 = st.pls.getD v p0) (hb : stt st.seats u = 1 → (st'.pls.getD u p0).s = 7 → 0 ≤ dls.getD u 0 ∧ dls.getD u 0 ≤ now) (hc : stt st.seats u ≠ 1 → stt st.seats u ≠ 3 → (st'.pls.getD u p0).s = 0) : JT n st' now dls := by
  refine ⟨by rw [hs]; exact h.sl, hl, h.n8, h.dl, by rw [hs]; exact h.a, fun v hv q1 q2 => ?_, fun v hv q1 q3 => ?_⟩
  · rw [hs] at q1
    by_cases e : v = u
    · subst e; exact hb q1 q2
    · rw [ho v e] at q2; exact h.b v hv q1 q2
  · rw [hs] at q1 q3
    by_cases e : v = u
    · subst e; exact hc q1 q3
    · rw [ho v e]; exact h.c v hv q1 q3
theorem JT.endE (h : JT n st now dls) (u : Nat) (hu : u < st.seats.length) (st' : St) (z : Int) (z1 : z ≠ 1) (hs : st'.seats = st.seats.set u (z, -1)) (hl : st'.pls.length = n) (ho : ∀ v, v ≠ u → st'.pls.getD v p0 = st.pls.getD v p0) (h0 : (st'.pls.getD u p0).s = 0) : JT n st' now dls := by
  refine ⟨by rw [hs]; simpa using h.sl, hl, h.n8, h.dl, fun v hv q1 => ?_, fun v hv q1 q2 => ?_, fun v hv q1 q3 => ?_⟩
  · rw [hs, stt_set _ _ _ hu] at q1
    split at q1
    · exact absurd q1 z1
    · rename_i e; rw [hs, seat_set _ _ hu, if_neg e]; exact h.a v hv q1
  · rw [hs, stt_set _ _ _ hu] at q1
    split at q1
    · exact absurd q1 z1
    · rename_i e; rw [ho v e] at q2; exact h.b v hv q1 q2
  · rw [hs, stt_set _ _ _ hu] at q1 q3
    by_cases e : v = u
    · subst e; exact h0
    · rw [if_neg e] at q1 q3; rw [ho v e]; exact h.c v hv q1 q3
theorem rest_get {pl : List P} {u : Nat} (hu : u < pl.length) : ((rest pl u).getD u p0).s = 0 ∧ ∀ v, v ≠ u → (rest pl u).getD v p0 = pl.getD v p0 := by
  unfold rest
  exact ⟨by rw [pl_set _ _ hu, if_pos rfl], fun v e => by rw [pl_set _ _ hu, if_neg e]⟩
theorem JT.step (h : JT n st now dls) (hok : ∀ u, u < n → 0 ≤ (st.pls.getD u p0).s ∧ (st.pls.getD u p0).s ≤ 7) (t : Int) (k : Nat) (c : Nat) (tl a : Int) : JT n (Abort.step k tl c st t a now).2 now dls ∧ ((Abort.step k tl c st t a now).1.1 = 2 → ∃ u : Nat, t = u ∧ u < 8 ∧ 0 ≤ dls.getD u 0 ∧ dls.getD u 0 ≤ now) := by
  by_cases hin : ∃ u : Nat, t = u ∧ u < st.seats.length
  · obtain ⟨u, rfl, hu⟩ := hin
    have hun : u < n := by rw [← h.sl]; exact hu
    have hup : u < st.pls.length := by rw [h.pl]; exact hun
    have hsn := state_nat st.seats u
    have oth : ∀ y v, v ≠ u → (st.pls.set u y).getD v p0 = st.pls.getD v p0 := fun y v e => by rw [pl_set _ _ hup, if_neg e]
    by_cases h1 : stt st.seats u = 1
    · have hL := lockS_ev (k := k) (tl := tl) (c := c) (st := st) u a (lateB st.seats u now) (hok u hun)
      have hss := (lockS_len (k := k) (tl := tl) (c := c) st u a (lateB st.seats u now)).1
      have hm : midS k tl c st u a now = lockS k tl c st u a (lateB st.seats u now) := by unfold midS; rw [hsn, if_pos h1, Int.toNat_natCast]
      have hlate : lateB st.seats u now = true → 0 ≤ dls.getD u 0 ∧ dls.getD u 0 ≤ now := fun e => by
        have ha := h.a u hun h1
        unfold lateB deadline at e
        rw [inB_mk hu, if_pos rfl, Int.toNat_natCast, ha] at e
        simpa using e
      obtain ⟨⟨d, st'⟩, hr⟩ : ∃ r, lockS k tl c st u a (lateB st.seats u now) = r := ⟨_, rfl⟩
      rw [hr] at hL hss hm
      dsimp only at hL hss
      have hst : Abort.step k tl c st u a now = (d, { st' with seats := (fin st.seats u d.1).2, pls := if (fin st.seats u d.1).1 = true then rest st'.pls u else st'.pls }) := by
        unfold Abort.step; rw [hm]; dsimp only; rw [hss, Int.toNat_natCast]
      rw [hst]
      rcases hL with (⟨h0, h2, h3⟩ | ⟨h0, y, h2, h3⟩) | ⟨h0, y, h2⟩
      · refine ⟨h.keepE u _ ?_ ?_ ?_ ?_ ?_, fun e => absurd (show d.1 = 2 from e) (by omega)⟩
        · show (fin st.seats u d.1).2 = _; rw [h0, fin_0]
        · show (if (fin st.seats u d.1).1 = true then rest st'.pls u else st'.pls).length = n; rw [h0, fin_0, if_neg Bool.false_ne_true, h2]; exact h.pl
        · intro v _; show (if (fin st.seats u d.1).1 = true then rest st'.pls u else st'.pls).getD v p0 = _; rw [h0, fin_0, if_neg Bool.false_ne_true, h2]
        · intro _ q
          replace q : ((if (fin st.seats u d.1).1 = true then rest st'.pls u else st'.pls).getD u p0).s = 7 := q
          rw [h0, fin_0, if_neg Bool.false_ne_true, h2] at q; exact absurd q h3
        · exact fun e => absurd h1 e
      · refine ⟨h.keepE u _ ?_ ?_ ?_ ?_ ?_, fun e => absurd (show d.1 = 2 from e) (by omega)⟩
        · show (fin st.seats u d.1).2 = _; rw [h0, fin_0]
        · show (if (fin st.seats u d.1).1 = true then rest st'.pls u else st'.pls).length = n; rw [h0, fin_0, if_neg Bool.false_ne_true, h2]; simpa using h.pl
        · intro v e; show (if (fin st.seats u d.1).1 = true then rest st'.pls u else st'.pls).getD v p0 = _; rw [h0, fin_0, if_neg Bool.false_ne_true, h2]; exact oth y v e
        · intro _ q
          replace q : ((if (fin st.seats u d.1).1 = true then rest st'.pls u else st'.pls).getD u p0).s = 7 := q
          rw [h0, fin_0, if_neg Bool.false_ne_true, h2, pl_set _ _ hup, if_pos rfl] at q; exact hlate (h3 q)
        · exact fun e => absurd h1 e
      · have he : d.1 = 1 ∨ d.1 = 2 ∨ d.1 = 6 := by rcases h0 with e | e | ⟨e, _⟩ <;> omega
        obtain ⟨z, hf, z1, z3⟩ := fin_1 h1 he
        have hpl : st'.pls.length = n ∧ ∀ v, v ≠ u → st'.pls.getD v p0 = st.pls.getD v p0 := by
          rcases h2 with h2 | ⟨h2, _⟩ <;> rw [h2]
          · exact ⟨by simpa using h.pl, oth y⟩
          · exact ⟨h.pl, fun _ _ => rfl⟩
        obtain ⟨r1, r2⟩ := rest_get (pl := st'.pls) (u := u) (by rw [hpl.1]; exact hun)
        refine ⟨h.endE u hu _ z z1 ?_ ?_ ?_ ?_, fun e => ⟨u, rfl, by have := h.n8; omega, ?_⟩⟩
        · show (fin st.seats u d.1).2 = _; rw [hf]
        · show (if (fin st.seats u d.1).1 = true then rest st'.pls u else st'.pls).length = n; rw [hf, if_pos rfl, rest_len]; exact hpl.1
        · intro v e; show (if (fin st.seats u d.1).1 = true then rest st'.pls u else st'.pls).getD v p0 = _; rw [hf, if_pos rfl, r2 v e]; exact hpl.2 v e
        · show ((if (fin st.seats u d.1).1 = true then rest st'.pls u else st'.pls).getD u p0).s = 0; rw [hf, if_pos rfl]; exact r1
        · have e2 : d.1 = 2 := e
          rcases h0 with q | q | ⟨_, q⟩
          · omega
          · omega
          · exact h.b u hun h1 q
    · by_cases h3 : stt st.seats u = 3
      · have hU := unlS_ev (k := k) (tl := tl) (st := st) u a
        have hss := (unlS_len (k := k) (tl := tl) st u a).1
        have hm : midS k tl c st u a now = (((unlS k tl st u a).1, false, false, false), (unlS k tl st u a).2) := by unfold midS; rw [hsn, if_neg h1, if_pos h3, Int.toNat_natCast]
        obtain ⟨⟨ev, st'⟩, hr⟩ : ∃ r, unlS k tl st u a = r := ⟨_, rfl⟩
        rw [hr] at hU hss hm
        dsimp only at hU hss hm
        have hst : Abort.step k tl c st u a now = ((ev, false, false, false), { st' with seats := (fin st.seats u ev).2, pls := if (fin st.seats u ev).1 = true then rest st'.pls u else st'.pls }) := by
          unfold Abort.step; rw [hm]; dsimp only; rw [hss, Int.toNat_natCast]
        rw [hst]
        obtain ⟨h0, h2⟩ := hU
        have hpl : st'.pls.length = n ∧ ∀ v, v ≠ u → st'.pls.getD v p0 = st.pls.getD v p0 := by
          rcases h2 with h2 | ⟨y, h2⟩ <;> rw [h2]
          · exact ⟨h.pl, fun _ _ => rfl⟩
          · exact ⟨by simpa using h.pl, oth y⟩
        rcases h0 with rfl | rfl
        · refine ⟨h.keepE u _ ?_ ?_ ?_ ?_ ?_, fun e => absurd (show (0 : Int) = 2 from e) (by decide)⟩
          · show (fin st.seats u 0).2 = _; rw [fin_0]
          · show (if (fin st.seats u 0).1 = true then rest st'.pls u else st'.pls).length = n; rw [fin_0, if_neg Bool.false_ne_true]; exact hpl.1
          · intro v e; show (if (fin st.seats u 0).1 = true then rest st'.pls u else st'.pls).getD v p0 = _; rw [fin_0, if_neg Bool.false_ne_true]; exact hpl.2 v e
          · exact fun e => absurd e h1
          · exact fun _ e => absurd h3 e
        · have hf := fin_3 h3
          obtain ⟨r1, r2⟩ := rest_get (pl := st'.pls) (u := u) (by rw [hpl.1]; exact hun)
          refine ⟨h.endE u hu _ 0 (by decide) ?_ ?_ ?_ ?_, fun e => absurd (show (3 : Int) = 2 from e) (by decide)⟩
          · show (fin st.seats u 3).2 = _; rw [hf]
          · show (if (fin st.seats u 3).1 = true then rest st'.pls u else st'.pls).length = n; rw [hf, if_pos rfl, rest_len]; exact hpl.1
          · intro v e; show (if (fin st.seats u 3).1 = true then rest st'.pls u else st'.pls).getD v p0 = _; rw [hf, if_pos rfl, r2 v e]; exact hpl.2 v e
          · show ((if (fin st.seats u 3).1 = true then rest st'.pls u else st'.pls).getD u p0).s = 0; rw [hf, if_pos rfl]; exact r1
      · have hm : midS k tl c st u a now = ((0, false, false, false), st) := by unfold midS; rw [hsn, if_neg h1, if_neg h3]
        have hst : Abort.step k tl c st u a now = ((0, false, false, false), st) := by
          unfold Abort.step; rw [hm]; dsimp only; rw [fin_0, if_neg Bool.false_ne_true]
        rw [hst]
        exact ⟨h, fun e => absurd (show (0 : Int) = 2 from e) (by decide)⟩
  · have hz := state_out st.seats t hin
    have hm : midS k tl c st t a now = ((0, false, false, false), st) := by unfold midS; rw [hz, if_neg (by decide), if_neg (by decide)]
    have hst : Abort.step k tl c st t a now = ((0, false, false, false), st) := by
      unfold Abort.step; rw [hm]; dsimp only; rw [fin_0, if_neg Bool.false_ne_true]
    rw [hst]
    exact ⟨h, fun e => absurd (show (0 : Int) = 2 from e) (by decide)⟩
theorem startT (n : Nat) (n8 : n ≤ 8) (ws : List Int) : JT n (st0 n ws) 0 (List.replicate 8 0) := by
  have h0 : ∀ t, stt (List.replicate n ((0 : Int), (-1 : Int))) t = 0 := fun t => by
    unfold stt; rw [List.getD, List.getElem?_replicate]; split <;> rfl
  refine ⟨by simp [st0], by simp [st0], n8, rfl, fun t _ h => ?_, fun t _ h => ?_, fun t _ _ _ => ?_⟩
  · have : stt (List.replicate n ((0 : Int), (-1 : Int))) t = 1 := h
    rw [h0] at this; exact absurd this (by decide)
  · have : stt (List.replicate n ((0 : Int), (-1 : Int))) t = 1 := h
    rw [h0] at this; exact absurd this (by decide)
  · show ((List.replicate n p0).getD t p0).s = 0
    rw [List.getD, List.getElem?_replicate]; split <;> rfl
end Go.Proofs.Ytlkpfdboagjaoaa.Abort
