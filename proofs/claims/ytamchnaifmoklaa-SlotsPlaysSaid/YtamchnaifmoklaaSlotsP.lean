/- Anderson's lock keeps its queue. No program in sight but the steps' values. -/
import Derived.Test.YtamchnaifmoklaaSlotQ
import Derived.Test.YtamchnaifmoklaaQn
import Derived.Test.YtamchnaifmoklaaSlots3
namespace Go.Proofs.Ytamchnaifmoklaa.SlotsP
open Go Go.Proofs.Ytamchnaifmoklaa.Heap Go.Proofs.Ytamchnaifmoklaa.Seat Go.Proofs.Ytamchnaifmoklaa.Mach Go.Proofs.Ytamchnaifmoklaa.SeatP Go.Proofs.Ytamchnaifmoklaa.StepU Go.Proofs.Ytamchnaifmoklaa.Slots Go.Proofs.Ytamchnaifmoklaa.Pack Go.Proofs.Ytamchnaifmoklaa.SlotQ Go.Proofs.Ytamchnaifmoklaa.Qn

def num (st : St) (t : Nat) : Int := (st.pls.getD t (0, 0)).1
def sp (st : St) (t : Nat) : Int := (st.pls.getD t (0, 0)).2
structure I (n m : Nat) (x : Int) (st : St) (q : List Int) (h : Option Nat) : Prop where
  sl : st.seats.length = n
  pl : st.pls.length = n
  wl : st.ws.length = m + 1
  ci : ∃ S, CI n x m (num st) (sp st) (stt st.seats) (fun y => Mem.get st.ws (0 + 1 + y)) (Mem.get st.ws 0) q S h
def phv (s p : Int) : Nat := if s = 0 then 0 else if s = 3 then 1 else if p = 0 then 4 else if p = 1 then 3 else 2
def ph (st : St) (t : Nat) : Nat := phv (stt st.seats t) (sp st t)
theorem rd_in {n : Nat} {u : Nat} (hu : u < n) (ws : List Int) (a : Int) : rd n ws u a = Mem.get ws a := by unfold rd; rw [if_pos (by simp [Mem.inB]; omega)]
theorem wr_in {n : Nat} {u : Nat} (hu : u < n) (ws : List Int) (a v : Int) : wrt n ws u a v = Mem.put ws a v := by unfold wrt; rw [if_pos (by simp [Mem.inB]; omega)]
theorem get_put (ws : List Int) (a b v : Int) (h0 : 0 ≤ a) (h1 : a < ws.length) : Mem.get (Mem.put ws a v) b = if b = a then v else Mem.get ws b := by
  have ha : Mem.inB a ws.length = true := by simp [Mem.inB]; omega
  rw [Mem.put_in (k := a.toNat) (by omega) ha]
  by_cases e : b = a
  · subst e
    rw [if_pos rfl, Mem.get_in (k := b.toNat) (by omega) (by rw [List.length_set]; exact ha)]
    simp [List.getD, List.getElem?_set_self (show b.toNat < ws.length by omega)]
  · rw [if_neg e]
    unfold Mem.get
    rw [List.length_set]
    split
    · rename_i hb
      have hb : 0 ≤ b ∧ b < ws.length := by simpa [Mem.inB] using hb
      rw [List.getD, List.getElem?_set_ne (by omega)]; rfl
    · rfl
theorem pset (l : List P2) (k : Nat) (hk : k < l.length) (x : P2) (u : Nat) : (l.set k x).getD u (0, 0) = if u = k then x else l.getD u (0, 0) := by
  by_cases e : u = k
  · subst e; simp [List.getD, List.getElem?_set_self hk]
  · rw [if_neg e, List.getD, List.getElem?_set_ne (fun z => e z.symm)]; rfl
theorem step_ts (k : Nat) (tl kn : Int) (st : St) (x : List Has.T) (t a now : Int) : (Slots.step k tl kn { st with ts := x } t a now).1 = (Slots.step k tl kn st t a now).1 ∧ (Slots.step k tl kn { st with ts := x } t a now).2.seats = (Slots.step k tl kn st t a now).2.seats ∧ (Slots.step k tl kn { st with ts := x } t a now).2.pls = (Slots.step k tl kn st t a now).2.pls := by
  unfold Slots.step midS lockS
  dsimp only
  by_cases h1 : state st.seats t = 1
  · simp only [if_pos h1]
    by_cases h2 : (st.pls.getD t.toNat (0, 0)).2 = 0
    · simp only [if_pos h2]; (refine ⟨?_, ?_, ?_⟩ <;> first | rfl | trivial)
    · simp only [if_neg h2]
      by_cases h3 : (st.pls.getD t.toNat (0, 0)).2 = 1
      · simp only [if_pos h3]; (refine ⟨?_, ?_, ?_⟩ <;> first | rfl | trivial)
      · simp only [if_neg h3]; (refine ⟨?_, ?_, ?_⟩ <;> first | rfl | trivial)
  · simp only [if_neg h1]
    by_cases h2 : state st.seats t = 3
    · simp only [if_pos h2]; (refine ⟨?_, ?_, ?_⟩ <;> first | rfl | trivial)
    · simp only [if_neg h2]; (refine ⟨?_, ?_, ?_⟩ <;> first | rfl | trivial)
abbrev stp (n m : Nat) : St → Int → Int → Int → Did × St := fun st t a now => Slots.step n 0 m st t a now
theorem hw_ts (n m : Nat) (st : St) (x : List Has.T) (v : Nat) (h : Hw St.seats setS (stp n m) ph st v) : Hw St.seats setS (stp n m) ph { st with ts := x } v := by
  obtain ⟨e1, e2, e3⟩ := step_ts n 0 m st x v v 0
  have e : ph (go1 St.seats setS (stp n m) { st with ts := x } v) v = ph (go1 St.seats setS (stp n m) st v) v := by
    unfold go1
    dsimp only [stp]
    rw [e1]
    split
    · show phv (stt (turn (Slots.step n 0 m { st with ts := x } v v 0).2.seats v 3).2 v) (((Slots.step n 0 m { st with ts := x } v v 0).2.pls).getD v (0, 0)).2 = _
      rw [e2, e3]; rfl
    · show phv (stt (Slots.step n 0 m { st with ts := x } v v 0).2.seats v) (((Slots.step n 0 m { st with ts := x } v v 0).2.pls).getD v (0, 0)).2 = _
      rw [e2, e3]; rfl
  unfold Hw at h ⊢
  rw [e]; exact h
theorem I.ts {n m : Nat} {x : Int} {st : St} {q : List Int} {h : Option Nat} (f : I n m x st q h) (y : List Has.T) : I n m x { st with ts := y } q h := ⟨f.sl, f.pl, f.wl, f.ci⟩
theorem I.seat {n m : Nat} {x : Int} {st : St} {q : List Int} {h : Option Nat} (f : I n m x st q h) (k : Nat) (hk : k < n) (a d : Int) (hc : (stt st.seats k = 0 ∧ a = 1) ∨ (stt st.seats k = 2 ∧ (a = 2 ∨ a = 3))) : I n m x (setS st (st.seats.set k (a, d))) q h := by
  obtain ⟨S, c⟩ := f.ci
  refine ⟨by simp [setS, f.sl], f.pl, f.wl, S, (c.seat k hk a hc).congr (fun _ _ => rfl) (fun _ _ => rfl) (fun t _ => ?_) (fun _ _ _ => rfl) rfl⟩
  exact stt_set st.seats k (a, d) (by rw [f.sl]; exact hk) t
theorem q2_eq (q : List Int) (t : Int) : queue2 q t (0, false, false, false) = q := q2_none q t 0 (by omega)
theorem q2_enq (q : List Int) (t : Int) : queue2 q t (0, true, false, false) = q ++ [t] := rfl
theorem q2_got (q : List Int) (t : Int) : queue2 q t (1, false, false, false) = q.filter (· != t) := rfl
theorem lockStep {n m : Nat} {x : Int} {st : St} {q : List Int} {h : Option Nat} (f : I n m x st q h) (u : Nat) (hu : u < n) (h1 : stt st.seats u = 1) (now : Int) :
    (sp st u = 0 ∧ ∃ ts, Slots.step n 0 m st u u now = ((0, true, false, false), ⟨st.seats, st.pls.set u (Mem.get st.ws 0, 1), Mem.put st.ws 0 ((Mem.get st.ws 0 + 1) % 4294967296), ts⟩)) ∨
    (sp st u = 1 ∧ Mem.get st.ws (slotA 0 m (num st u)) ≠ 0 ∧ ∃ ts, Slots.step n 0 m st u u now = ((0, false, false, false), ⟨st.seats, st.pls.set u (num st u, 2), st.ws, ts⟩)) ∨
    (sp st u = 1 ∧ Mem.get st.ws (slotA 0 m (num st u)) = 0 ∧ ∃ ts, Slots.step n 0 m st u u now = ((0, false, false, false), { st with ts := ts })) ∨
    (sp st u = 2 ∧ ∃ ts, Slots.step n 0 m st u u now = ((1, false, false, false), ⟨st.seats.set u (2, -1), st.pls, Mem.put st.ws (slotA 0 m (num st u)) 0, ts⟩)) := by
  obtain ⟨S, c⟩ := f.ci
  have hs : state st.seats (u : Int) = 1 := by rw [state_nat]; exact h1
  have hm : midS n 0 m st u u = lockS n 0 m st u u := by unfold midS; rw [hs, if_pos rfl, Int.toNat_natCast]
  have hp := c.p3 u hu
  rcases hp with hp | hp | hp
  · left
    refine ⟨hp, Cache.after n st.ws.length st.ts u 0 true, ?_⟩
    unfold Slots.step
    rw [hm]
    unfold lockS
    dsimp only
    rw [if_pos (show (st.pls.getD u (0, 0)).2 = 0 from hp)]
    simp only [fin_none, wr_in hu, rd_in hu]
  · right
    have hp' : (st.pls.getD u (0, 0)).2 = 1 := hp
    by_cases hF : Mem.get st.ws (slotA 0 m (num st u)) = 0
    · right; left
      refine ⟨hp, hF, Cache.after n st.ws.length st.ts u (slotA 0 m (num st u)) false, ?_⟩
      have hF' : rd n st.ws u (slotA 0 m (st.pls.getD u (0, 0)).1) = 0 := by rw [rd_in hu]; exact hF
      unfold Slots.step
      rw [hm]
      unfold lockS
      dsimp only
      rw [if_neg (by omega), if_pos hp']
      simp only [fin_none, if_pos hF']
      rfl
    · left
      refine ⟨hp, hF, Cache.after n st.ws.length st.ts u (slotA 0 m (num st u)) false, ?_⟩
      have hF' : ¬ rd n st.ws u (slotA 0 m (st.pls.getD u (0, 0)).1) = 0 := by rw [rd_in hu]; exact hF
      unfold Slots.step
      rw [hm]
      unfold lockS
      dsimp only
      rw [if_neg (by omega), if_pos hp']
      simp only [fin_none, if_neg hF']
      rfl
  · right; right; right
    have hp' : (st.pls.getD u (0, 0)).2 = 2 := hp
    refine ⟨hp, Cache.after n st.ws.length st.ts u (slotA 0 m (num st u)) true, ?_⟩
    have hf1 : (fin st.seats (u : Int) 1).2 = st.seats.set u (2, -1) := by
      rw [fin_eq _ _ _ (by rw [h1]; decide), h1]; rfl
    unfold Slots.step
    rw [hm]
    unfold lockS
    dsimp only
    rw [if_neg (by omega), if_neg (by omega)]
    simp only [hf1, wr_in hu]
    rfl
theorem ql (n m : Nat) (x : Int) : QL n St.seats setS (stp n m) 5 (I n m x) ph where
  get := fun _ _ => rfl
  eta := fun _ => rfl
  set2 := fun _ _ _ => rfl
  len := fun f => f.sl
  rg := fun f => by obtain ⟨S, c⟩ := f.ci; exact c.rg
  hh := fun f => by obtain ⟨S, c⟩ := f.ci; exact c.hh
  h1 := fun f t e => by obtain ⟨S, c⟩ := f.ci; obtain ⟨k1, k2, _⟩ := c.h1 t e; exact ⟨k1, k2⟩
  qs := fun {st q h} f a ha => by
    obtain ⟨S, c⟩ := f.ci
    cases q with
    | nil => simp at ha
    | cons y r =>
      obtain ⟨t, e1, ht, k, _⟩ := c.q1 0 (by simp)
      have e1 : y = (t : Int) := e1
      simp at ha
      exact ⟨t, by omega, ht, k⟩
  seat := fun f k hk a d hc => f.seat k hk a d hc
  idle := fun st t now h0 => by
    dsimp only [stp]
    unfold Slots.step midS
    rw [if_neg (by omega), if_neg (by omega)]
    simp only [fin_none]
  lockS := fun {st q h} f u hu h1 now => by
    obtain ⟨S, c⟩ := f.ci
    have hpl : u < st.pls.length := by rw [f.pl]; exact hu
    have hwl := f.wl
    obtain ⟨g0, g1⟩ := mod_rg c.sz (num st u)
    dsimp only [stp]
    rcases lockStep f u hu h1 now with ⟨hp, ts, e1⟩ | ⟨hp, hF, ts, e1⟩ | ⟨hp, hF, ts, e1⟩ | ⟨hp, ts, e1⟩
    · left
      rw [e1]
      have gp := fun v => pset st.pls u hpl (Mem.get st.ws 0, 1) v
      refine ⟨rfl, rfl, ?_, ?_, ?_⟩
      · rw [q2_enq]
        refine ⟨f.sl, by simpa using f.pl, by rw [Mem.put_len]; exact f.wl, S, (c.draw u hu h1 hp).congr ?_ ?_ (fun _ _ => rfl) ?_ ?_⟩
        · intro t _
          show ((st.pls.set u (Mem.get st.ws 0, 1)).getD t (0, 0)).1 = up (num st) u (Mem.get st.ws 0) t
          rw [gp]
          by_cases e : t = u
          · subst e; rw [if_pos rfl, up_eq]
          · rw [if_neg e, up_ne e]; rfl
        · intro t _
          show ((st.pls.set u (Mem.get st.ws 0, 1)).getD t (0, 0)).2 = up (sp st) u 1 t
          rw [gp]
          by_cases e : t = u
          · subst e; rw [if_pos rfl, up_eq]
          · rw [if_neg e, up_ne e]; rfl
        · intro y y0 y1
          rw [get_put _ _ _ _ (by omega) (by omega), if_neg (by omega)]
        · rw [get_put _ _ _ _ (by omega) (by omega), if_pos rfl]
      · show phv (stt st.seats u) ((st.pls.set u (Mem.get st.ws 0, 1)).getD u (0, 0)).2 < phv (stt st.seats u) (sp st u)
        rw [gp, if_pos rfl, h1, hp]; exact (by decide : phv 1 1 < phv 1 0)
      · intro v hv
        show phv (stt st.seats v) ((st.pls.set u (Mem.get st.ws 0, 1)).getD v (0, 0)).2 = _
        rw [gp, if_neg hv]; rfl
    · left
      rw [e1]
      have gp := fun v => pset st.pls u hpl (num st u, 2) v
      rcases c.sees u hu h1 (by omega) with ⟨_, rfl, hq⟩ | ⟨z, _⟩
      · refine ⟨rfl, rfl, ?_, ?_, ?_⟩
        · rw [q2_eq]
          refine ⟨f.sl, by simpa using f.pl, f.wl, S, (c.look u hu h1 hq).congr ?_ ?_ (fun _ _ => rfl) (fun _ _ _ => rfl) rfl⟩
          · intro t _
            show ((st.pls.set u (num st u, 2)).getD t (0, 0)).1 = num st t
            rw [gp]
            by_cases e : t = u
            · subst e; rw [if_pos rfl]
            · rw [if_neg e]; rfl
          · intro t _
            show ((st.pls.set u (num st u, 2)).getD t (0, 0)).2 = up (sp st) u 2 t
            rw [gp]
            by_cases e : t = u
            · subst e; rw [if_pos rfl, up_eq]
            · rw [if_neg e, up_ne e]; rfl
        · show phv (stt st.seats u) ((st.pls.set u (num st u, 2)).getD u (0, 0)).2 < phv (stt st.seats u) (sp st u)
          rw [gp, if_pos rfl, h1, hp]; exact (by decide : phv 1 2 < phv 1 1)
        · intro v hv
          show phv (stt st.seats v) ((st.pls.set u (num st u, 2)).getD v (0, 0)).2 = _
          rw [gp, if_neg hv]; rfl
      · exact absurd z hF
    · right; right
      rw [e1]
      rcases c.sees u hu h1 (by omega) with ⟨z, _⟩ | ⟨_, _, z⟩
      · exact absurd hF z
      · exact ⟨rfl, rfl, f.ts _, fun _ => rfl, c.q2 u hu h1 (by omega), z, fun v _ hv => hw_ts n m st ts v hv⟩
    · right; left
      rw [e1]
      rcases c.sees u hu h1 (by omega) with ⟨_, rfl, hq⟩ | ⟨_, z, _⟩
      · have hl : u < st.seats.length := by rw [f.sl]; exact hu
        have hl2 : u < (st.seats.set u (2, -1)).length := by simpa using hl
        refine ⟨rfl, hq, rfl, rfl, ?_, ?_, ?_⟩
        · rw [q2_got]
          refine ⟨by simpa using f.sl, f.pl, by rw [Mem.put_len]; exact f.wl, S, (c.grant u hu h1 hq).congr (fun _ _ => rfl) (fun _ _ => rfl) (fun t _ => stt_set st.seats u (2, -1) hl t) ?_ ?_⟩
          · intro y y0 y1
            show Mem.get (Mem.put st.ws (0 + 1 + num st u % m) 0) (0 + 1 + y) = _
            rw [get_put _ _ _ _ (by omega) (by omega)]
            unfold upI
            by_cases ey : y = num st u % m
            · rw [if_pos (by omega), if_pos ey]
            · rw [if_neg (by omega), if_neg ey]
          · show Mem.get (Mem.put st.ws (0 + 1 + num st u % m) 0) 0 = _
            rw [get_put _ _ _ _ (by omega) (by omega), if_neg (by omega)]
        · intro d
          show phv (stt ((st.seats.set u (2, -1)).set u (3, d)) u) (sp st u) < phv (stt st.seats u) (sp st u)
          rw [stt_set _ u (3, d) hl2, if_pos rfl, h1, hp]; exact (by decide : phv 3 2 < phv 1 2)
        · intro v hv d
          show phv (stt ((st.seats.set u (2, -1)).set u (3, d)) v) (sp st v) = _
          rw [stt_set _ u (3, d) hl2, if_neg hv, stt_set _ u (2, -1) hl, if_neg hv]; rfl
      · omega
  unlS := fun {st q h} f u hu h3 now => by
    obtain ⟨S, c⟩ := f.ci
    have hpl : u < st.pls.length := by rw [f.pl]; exact hu
    have hl : u < st.seats.length := by rw [f.sl]; exact hu
    have hwl := f.wl
    obtain ⟨g0, g1⟩ := mod_rg c.sz ((num st u + 1) % 4294967296)
    have hs : state st.seats (u : Int) = 3 := by rw [state_nat]; exact h3
    have hf1 : (fin st.seats (u : Int) 3).2 = st.seats.set u (0, -1) := by
      rw [fin_eq _ _ _ (by rw [h3]; decide), h3]; rfl
    obtain ⟨ts, e1⟩ : ∃ ts, Slots.step n 0 m st u u now = ((3, false, false, false), ⟨st.seats.set u (0, -1), st.pls.set u (0, 0), Mem.put st.ws (slotA 0 m ((num st u + 1) % 4294967296)) 1, ts⟩) := by
      refine ⟨Cache.after n st.ws.length st.ts u (slotA 0 m ((num st u + 1) % 4294967296)) true, ?_⟩
      unfold Slots.step midS
      rw [hs, if_neg (by omega), if_pos rfl]
      simp only [Int.toNat_natCast, wr_in hu, hf1]
      rfl
    left
    dsimp only [stp]
    rw [e1]
    have gp := fun v => pset st.pls u hpl (0, 0) v
    refine ⟨rfl, rfl, ?_, ?_, ?_⟩
    · refine ⟨by simpa using f.sl, by simpa using f.pl, by rw [Mem.put_len]; exact f.wl, S + 1, (c.leave u hu h3).congr ?_ ?_ ?_ ?_ ?_⟩
      · intro t _
        show ((st.pls.set u (0, 0)).getD t (0, 0)).1 = up (num st) u 0 t
        rw [gp]
        by_cases e : t = u
        · subst e; rw [if_pos rfl, up_eq]
        · rw [if_neg e, up_ne e]; rfl
      · intro t _
        show ((st.pls.set u (0, 0)).getD t (0, 0)).2 = up (sp st) u 0 t
        rw [gp]
        by_cases e : t = u
        · subst e; rw [if_pos rfl, up_eq]
        · rw [if_neg e, up_ne e]; rfl
      · intro t _; exact stt_set st.seats u (0, -1) hl t
      · intro y y0 y1
        show Mem.get (Mem.put st.ws (0 + 1 + (num st u + 1) % 4294967296 % m) 1) (0 + 1 + y) = _
        rw [get_put _ _ _ _ (by omega) (by omega)]
        unfold upI
        by_cases ey : y = (num st u + 1) % 4294967296 % m
        · rw [if_pos (by omega), if_pos ey]
        · rw [if_neg (by omega), if_neg ey]
      · show Mem.get (Mem.put st.ws (0 + 1 + (num st u + 1) % 4294967296 % m) 1) 0 = _
        rw [get_put _ _ _ _ (by omega) (by omega), if_neg (by omega)]
    · show phv (stt (st.seats.set u (0, -1)) u) _ < phv (stt st.seats u) (sp st u)
      rw [stt_set _ u (0, -1) hl, if_pos rfl, h3]
      show 0 < phv 3 (sp st u)
      unfold phv
      (repeat' split) <;> omega
    · intro v hv
      show phv (stt (st.seats.set u (0, -1)) v) ((st.pls.set u (0, 0)).getD v (0, 0)).2 = _
      rw [stt_set _ u (0, -1) hl, if_neg hv, gp, if_neg hv]; rfl
  call := fun {st q h} f u hu h0 => by
    have hl : u < st.seats.length := by rw [f.sl]; exact hu
    refine ⟨?_, fun v hv => ?_⟩
    · show phv (stt (st.seats.set u (1, -1)) u) (sp st u) < 5
      unfold phv
      (repeat' split) <;> omega
    · show phv (stt (st.seats.set u (1, -1)) v) (sp st v) = _
      rw [stt_set _ u (1, -1) hl, if_neg hv]; rfl
theorem stt0 (n t : Nat) : stt (List.replicate n ((0 : Int), (-1 : Int))) t = 0 := by
  unfold stt
  rcases Nat.lt_or_ge t n with h | h
  · rw [getD_lt _ _ _ (by simpa using h)]; simp
  · simp [List.getD, h]
theorem start (n m : Nat) (hnm : n ≤ m) (hz : IsSize (m : Int)) (x : Int) (hx : 0 ≤ x ∧ x < 4294967296) : I n m x (st0 n ([] ++ [x] ++ flags m x m)) [] none := by
  have gp : ∀ t, (List.replicate n ((0 : Int), (0 : Int))).getD t (0, 0) = (0, 0) := fun t => by
    rw [List.getD, List.getElem?_replicate]; split <;> rfl
  have g2 : ∀ t, sp (st0 n ([] ++ [x] ++ flags m x m)) t = 0 := fun t => by
    show ((List.replicate n ((0 : Int), (0 : Int))).getD t (0, 0)).2 = 0
    rw [gp]
  have gs : ∀ t, stt (st0 n ([] ++ [x] ++ flags m x m)).seats t = 0 := stt0 n
  have fl : (flags m x m).length = m := by simp [flags]
  refine ⟨by simp [st0], by simp [st0], by simp [st0, fl], 0, ⟨by omega, hz, by simp, fun i hi => by simp at hi, ?_, ?_, fun t _ _ => g2 t, ?_, (fun t ht => by cases ht), ?_, fun t _ => .inl (g2 t), ?_⟩⟩
  · intro t _ h; rw [gs] at h; omega
  · show Mem.get ([] ++ [x] ++ flags m x m) 0 = _
    rw [show Mem.get ([] ++ [x] ++ flags m x m) 0 = x from Mem.get_in (a := 0) (k := 0) rfl (by simp [Mem.inB])]
    simp [off]; omega
  · intro t _ h; rw [gs] at h; omega
  · intro t _; rw [gs]; omega
  · intro y y0 y1
    obtain ⟨k, rfl⟩ : ∃ k : Nat, y = (k : Int) := ⟨y.toNat, by omega⟩
    show Mem.get ([] ++ [x] ++ flags m x m) (0 + 1 + k) = _
    rw [Mem.get_in (k := k + 1) (by omega) (by simp [Mem.inB, fl]; omega)]
    show (flags m x m).getD k 0 = _
    have e : (x + 0) % 4294967296 = x := by omega
    rw [e]
    simp [flags, List.getD, show k < m by omega]
end Go.Proofs.Ytamchnaifmoklaa.SlotsP
