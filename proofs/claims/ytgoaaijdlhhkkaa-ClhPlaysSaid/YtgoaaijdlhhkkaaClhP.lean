/- The lock of Craig, Landin and Hagersten keeps its queue. No program in sight but the steps' values. -/
import Derived.Test.YtgoaaijdlhhkkaaClhQ
import Derived.Test.YtgoaaijdlhhkkaaQl
import Derived.Test.YtgoaaijdlhhkkaaClh3
namespace Go.Proofs.Ytgoaaijdlhhkkaa.ClhP
open Go Go.Proofs.Ytgoaaijdlhhkkaa.Heap Go.Proofs.Ytgoaaijdlhhkkaa.Seat Go.Proofs.Ytgoaaijdlhhkkaa.Mach Go.Proofs.Ytgoaaijdlhhkkaa.SeatP Go.Proofs.Ytgoaaijdlhhkkaa.StepU Go.Proofs.Ytgoaaijdlhhkkaa.Clh Go.Proofs.Ytgoaaijdlhhkkaa.ClhQ Go.Proofs.Ytgoaaijdlhhkkaa.Ql

def nd (st : St) (t : Nat) : Int := (st.pls.getD t (0, 0, 0)).1
def ah (st : St) (t : Nat) : Int := (st.pls.getD t (0, 0, 0)).2.1
def sp (st : St) (t : Nat) : Int := (st.pls.getD t (0, 0, 0)).2.2
structure I (n : Nat) (st : St) (q : List Int) (h : Option Nat) : Prop where
  sl : st.seats.length = n
  pl : st.pls.length = n
  wl : st.ws.length = n + 2
  ci : ∃ e, CI n (nd st) (ah st) (sp st) (stt st.seats) (fun x => Mem.get st.ws (0 + 1 + x)) (Mem.get st.ws 0) q e h
def phv (s p : Int) : Nat := if s = 0 then 0 else if s = 3 then 1 else if p = 0 then 4 else if p = 1 then 3 else 2
def ph (st : St) (t : Nat) : Nat := phv (stt st.seats t) (sp st t)
theorem rd_in {n : Nat} {u : Nat} (hu : u < n) (ws : List Int) (a : Int) : rd n ws u a = Mem.get ws a := by unfold rd; rw [if_pos (by simp [Mem.inB]; omega)]
theorem wr_in {n : Nat} {u : Nat} (hu : u < n) (ws : List Int) (a v : Int) : wrt n ws u a v = Mem.put ws a v := by unfold wrt; rw [if_pos (by simp [Mem.inB]; omega)]
theorem get_put (ws : List Int) (a b v : Int) (h0 : 0 ≤ a) (h1 : a < ws.length) : Mem.get (Mem.put ws a v) b = if b = a then v else Mem.get ws b := by
  have ha : Mem.inB a ws.length = true := by simp [Mem.inB]; omega
  rw [Mem.put_in (k := a.toNat) (by omega) ha]
  by_cases e : b = a
  · subst e
    rw [if_pos rfl, Mem.get_in (k := b.toNat) (by omega) (by rw [List.length_set]; exact ha)]
    simp [List.getD, List.getElem?_set_self (show b.toNat < ws.length by omega)]
  · rw [if_neg e]
    unfold Mem.get
    rw [List.length_set]
    split
    · rename_i hb
      have hb : 0 ≤ b ∧ b < ws.length := by simpa [Mem.inB] using hb
      rw [List.getD, List.getElem?_set_ne (by omega)]; rfl
    · rfl
theorem pset (l : List P3) (k : Nat) (hk : k < l.length) (x : P3) (u : Nat) : (l.set k x).getD u (0, 0, 0) = if u = k then x else l.getD u (0, 0, 0) := by
  by_cases e : u = k
  · subst e; simp [List.getD, List.getElem?_set_self hk]
  · rw [if_neg e, List.getD, List.getElem?_set_ne (fun z => e z.symm)]; rfl
theorem step_ts (k : Nat) (tl : Int) (st : St) (x : List Has.T) (t a now : Int) : (Clh.step k tl { st with ts := x } t a now).1 = (Clh.step k tl st t a now).1 ∧ (Clh.step k tl { st with ts := x } t a now).2.seats = (Clh.step k tl st t a now).2.seats ∧ (Clh.step k tl { st with ts := x } t a now).2.pls = (Clh.step k tl st t a now).2.pls := by
  unfold Clh.step midS lockS
  dsimp only
  by_cases h1 : state st.seats t = 1
  · simp only [if_pos h1]
    by_cases h2 : (st.pls.getD t.toNat (0, 0, 0)).2.2 = 0
    · simp only [if_pos h2]; (refine ⟨?_, ?_, ?_⟩ <;> first | rfl | trivial)
    · simp only [if_neg h2]
      by_cases h3 : (st.pls.getD t.toNat (0, 0, 0)).2.2 = 1
      · simp only [if_pos h3]; (refine ⟨?_, ?_, ?_⟩ <;> first | rfl | trivial)
      · simp only [if_neg h3]; (refine ⟨?_, ?_, ?_⟩ <;> first | rfl | trivial)
  · simp only [if_neg h1]
    by_cases h2 : state st.seats t = 3
    · simp only [if_pos h2]; (refine ⟨?_, ?_, ?_⟩ <;> first | rfl | trivial)
    · simp only [if_neg h2]
      by_cases h3 : state st.seats t = 4
      · simp only [if_pos h3]; (refine ⟨?_, ?_, ?_⟩ <;> first | rfl | trivial)
      · simp only [if_neg h3]; (refine ⟨?_, ?_, ?_⟩ <;> first | rfl | trivial)
abbrev stp (n : Nat) : St → Int → Int → Int → Did × St := fun st t a now => Clh.step n 0 st t a now
theorem hw_ts (n : Nat) (st : St) (x : List Has.T) (v : Nat) (h : Hw St.seats setS (stp n) ph st v) : Hw St.seats setS (stp n) ph { st with ts := x } v := by
  obtain ⟨e1, e2, e3⟩ := step_ts n 0 st x v v 0
  have e : ph (go1 St.seats setS (stp n) { st with ts := x } v) v = ph (go1 St.seats setS (stp n) st v) v := by
    unfold go1
    dsimp only [stp]
    rw [e1]
    split
    · show phv (stt (turn (Clh.step n 0 { st with ts := x } v v 0).2.seats v 3).2 v) (((Clh.step n 0 { st with ts := x } v v 0).2.pls).getD v (0, 0, 0)).2.2 = _
      rw [e2, e3]; rfl
    · show phv (stt (Clh.step n 0 { st with ts := x } v v 0).2.seats v) (((Clh.step n 0 { st with ts := x } v v 0).2.pls).getD v (0, 0, 0)).2.2 = _
      rw [e2, e3]; rfl
  unfold Hw at h ⊢
  rw [e]; exact h
/-- A context that stays as it is, and the words. -/
theorem I.ts {n : Nat} {st : St} {q : List Int} {h : Option Nat} (f : I n st q h) (x : List Has.T) : I n { st with ts := x } q h := ⟨f.sl, f.pl, f.wl, f.ci⟩
theorem I.seat {n : Nat} {st : St} {q : List Int} {h : Option Nat} (f : I n st q h) (k : Nat) (hk : k < n) (a d : Int) (hc : (stt st.seats k = 0 ∧ a = 1) ∨ ((stt st.seats k = 2 ∨ stt st.seats k = 4) ∧ (a = 2 ∨ a = 3 ∨ a = 4))) : I n (setS st (st.seats.set k (a, d))) q h := by
  obtain ⟨e, c⟩ := f.ci
  refine ⟨by simp [setS, f.sl], f.pl, f.wl, e, (c.seat k hk a hc).congr (fun _ _ => rfl) (fun _ _ => rfl) (fun _ _ => rfl) (fun t _ => ?_) (fun _ _ _ => rfl) rfl⟩
  exact stt_set st.seats k (a, d) (by rw [f.sl]; exact hk) t
theorem q2_eq (q : List Int) (t : Int) : queue2 q t (0, false, false, false) = q := q2_none q t 0 (by omega)
theorem q2_enq (q : List Int) (t : Int) : queue2 q t (0, true, false, false) = q ++ [t] := rfl
theorem q2_got (q : List Int) (t : Int) : queue2 q t (1, false, false, false) = q.filter (· != t) := rfl
theorem lockStep {n : Nat} {st : St} {q : List Int} {h : Option Nat} (f : I n st q h) (u : Nat) (hu : u < n) (h1 : stt st.seats u = 1) (now : Int) :
    (sp st u = 0 ∧ ∃ ts, Clh.step n 0 st u u now = ((0, false, false, false), ⟨st.seats, st.pls.set u (nd st u, ah st u, 1), Mem.put st.ws (0 + 1 + nd st u) 1, ts⟩)) ∨
    (sp st u = 1 ∧ ∃ ts, Clh.step n 0 st u u now = ((0, true, false, false), ⟨st.seats, st.pls.set u (nd st u, Mem.get st.ws 0, 2), Mem.put st.ws 0 (nd st u), ts⟩)) ∨
    (sp st u = 2 ∧ Mem.get st.ws (0 + 1 + ah st u) = 0 ∧ ∃ ts, Clh.step n 0 st u u now = ((1, false, false, false), ⟨st.seats.set u (2, -1), st.pls, st.ws, ts⟩)) ∨
    (sp st u = 2 ∧ Mem.get st.ws (0 + 1 + ah st u) ≠ 0 ∧ ∃ ts, Clh.step n 0 st u u now = ((0, false, false, false), { st with ts := ts })) := by
  obtain ⟨e, c⟩ := f.ci
  have hs : state st.seats (u : Int) = 1 := by rw [state_nat]; exact h1
  have hm : midS n 0 st u u = lockS n 0 st u u := by unfold midS; rw [hs, if_pos rfl, Int.toNat_natCast]
  have hp := c.p3 u hu
  rcases hp with hp | hp | hp
  · left
    refine ⟨hp, Cache.after n st.ws.length st.ts u (0 + 1 + nd st u) true, ?_⟩
    unfold Clh.step
    rw [hm]
    unfold lockS
    dsimp only
    rw [if_pos (show (st.pls.getD u (0, 0, 0)).2.2 = 0 from hp)]
    simp only [fin_none, wr_in hu]
    rfl
  · right; left
    refine ⟨hp, Cache.after n st.ws.length st.ts u 0 true, ?_⟩
    have hp' : (st.pls.getD u (0, 0, 0)).2.2 = 1 := hp
    unfold Clh.step
    rw [hm]
    unfold lockS
    dsimp only
    rw [if_neg (by omega), if_pos hp']
    simp only [fin_none, wr_in hu, rd_in hu]
    rfl
  · right; right
    have hp' : (st.pls.getD u (0, 0, 0)).2.2 = 2 := hp
    by_cases hF : Mem.get st.ws (0 + 1 + ah st u) = 0
    · left
      refine ⟨hp, hF, Cache.after n st.ws.length st.ts u (0 + 1 + ah st u) false, ?_⟩
      have hf1 : (fin st.seats (u : Int) 1).2 = st.seats.set u (2, -1) := by
        rw [fin_eq _ _ _ (by rw [h1]; decide), h1]; rfl
      unfold Clh.step
      rw [hm]
      unfold lockS
      dsimp only
      rw [if_neg (by omega), if_neg (by omega)]
      have hF' : rd n st.ws u (0 + 1 + (st.pls.getD u (0, 0, 0)).2.1) = 0 := by rw [rd_in hu]; exact hF
      simp only [if_pos hF', hf1]
      rfl
    · right
      refine ⟨hp, hF, Cache.after n st.ws.length st.ts u (0 + 1 + ah st u) false, ?_⟩
      unfold Clh.step
      rw [hm]
      unfold lockS
      dsimp only
      rw [if_neg (by omega), if_neg (by omega)]
      have hF' : ¬ rd n st.ws u (0 + 1 + (st.pls.getD u (0, 0, 0)).2.1) = 0 := by rw [rd_in hu]; exact hF
      simp only [if_neg hF', fin_none]
      rfl
theorem ql (n : Nat) : QL n St.seats setS (stp n) 5 (I n) ph where
  get := fun _ _ => rfl
  eta := fun _ => rfl
  set2 := fun _ _ _ => rfl
  len := fun f => f.sl
  rg := fun f => by obtain ⟨e, c⟩ := f.ci; exact c.rg
  hh := fun f => by obtain ⟨e, c⟩ := f.ci; exact c.hh
  h1 := fun f t e => by obtain ⟨e, c⟩ := f.ci; obtain ⟨k1, k2, _⟩ := c.h1 t ‹_›; exact ⟨k1, k2⟩
  qs := fun {st q h} f a ha => by
    obtain ⟨e, c⟩ := f.ci
    cases q with
    | nil => simp at ha
    | cons x r =>
      obtain ⟨t, e1, ht, k, _⟩ := c.q1 0 (by simp)
      have e1 : x = (t : Int) := e1
      simp at ha
      exact ⟨t, by omega, ht, k⟩
  seat := fun f k hk a d hc => f.seat k hk a d hc
  idle := fun st t now h0 => by
    dsimp only [stp]
    unfold Clh.step midS
    rw [if_neg (by omega), if_neg (by omega), if_neg (by omega)]
    simp only [fin_none]
  lockS := fun {st q h} f u hu h1 now => by
    obtain ⟨e, c⟩ := f.ci
    have hnu := c.nd0 u hu
    have hpl : u < st.pls.length := by rw [f.pl]; exact hu
    have hwl := f.wl
    dsimp only [stp]
    rcases lockStep f u hu h1 now with ⟨hp, ts, e1⟩ | ⟨hp, ts, e1⟩ | ⟨hp, hF, ts, e1⟩ | ⟨hp, hF, ts, e1⟩
    · left
      rw [e1]
      have gp := fun v => pset st.pls u hpl (nd st u, ah st u, 1) v
      refine ⟨rfl, rfl, ?_, ?_, ?_⟩
      · rw [q2_eq]
        refine ⟨f.sl, by simpa using f.pl, by rw [Mem.put_len]; exact f.wl, e, (c.raise u hu h1 hp).congr ?_ ?_ ?_ (fun _ _ => rfl) ?_ ?_⟩
        · intro t _
          show ((st.pls.set u (nd st u, ah st u, 1)).getD t (0, 0, 0)).1 = nd st t
          rw [gp]
          by_cases e : t = u
          · subst e; rw [if_pos rfl]
          · rw [if_neg e]; rfl
        · intro t _
          show ((st.pls.set u (nd st u, ah st u, 1)).getD t (0, 0, 0)).2.1 = ah st t
          rw [gp]
          by_cases e : t = u
          · subst e; rw [if_pos rfl]
          · rw [if_neg e]; rfl
        · intro t _
          show ((st.pls.set u (nd st u, ah st u, 1)).getD t (0, 0, 0)).2.2 = up (sp st) u 1 t
          rw [gp]
          by_cases e : t = u
          · subst e; rw [if_pos rfl, up_eq]
          · rw [if_neg e, up_ne e]; rfl
        · intro x x0 x1
          rw [get_put _ _ _ _ (by omega) (by omega)]
          unfold upI
          by_cases ex : x = nd st u
          · subst ex; rw [if_pos rfl, if_pos rfl]
          · rw [if_neg (by omega), if_neg ex]
        · rw [get_put _ _ _ _ (by omega) (by omega), if_neg (by omega)]
      · show phv (stt st.seats u) ((st.pls.set u (nd st u, ah st u, 1)).getD u (0, 0, 0)).2.2 < phv (stt st.seats u) (sp st u)
        rw [gp, if_pos rfl, h1, hp]; exact (by decide : phv 1 1 < phv 1 0)
      · intro v hv
        show phv (stt st.seats v) ((st.pls.set u (nd st u, ah st u, 1)).getD v (0, 0, 0)).2.2 = _
        rw [gp, if_neg hv]; rfl
    · left
      rw [e1]
      have gp := fun v => pset st.pls u hpl (nd st u, Mem.get st.ws 0, 2) v
      refine ⟨rfl, rfl, ?_, ?_, ?_⟩
      · rw [q2_enq]
        refine ⟨f.sl, by simpa using f.pl, by rw [Mem.put_len]; exact f.wl, e, (c.queue u hu h1 hp).congr ?_ ?_ ?_ (fun _ _ => rfl) ?_ ?_⟩
        · intro t _
          show ((st.pls.set u (nd st u, Mem.get st.ws 0, 2)).getD t (0, 0, 0)).1 = nd st t
          rw [gp]
          by_cases e : t = u
          · subst e; rw [if_pos rfl]
          · rw [if_neg e]; rfl
        · intro t _
          show ((st.pls.set u (nd st u, Mem.get st.ws 0, 2)).getD t (0, 0, 0)).2.1 = up (ah st) u (Mem.get st.ws 0) t
          rw [gp]
          by_cases e : t = u
          · subst e; rw [if_pos rfl, up_eq]
          · rw [if_neg e, up_ne e]; rfl
        · intro t _
          show ((st.pls.set u (nd st u, Mem.get st.ws 0, 2)).getD t (0, 0, 0)).2.2 = up (sp st) u 2 t
          rw [gp]
          by_cases e : t = u
          · subst e; rw [if_pos rfl, up_eq]
          · rw [if_neg e, up_ne e]; rfl
        · intro x x0 x1
          rw [get_put _ _ _ _ (by omega) (by omega), if_neg (by omega)]
        · rw [get_put _ _ _ _ (by omega) (by omega), if_pos rfl]
      · show phv (stt st.seats u) ((st.pls.set u (nd st u, Mem.get st.ws 0, 2)).getD u (0, 0, 0)).2.2 < phv (stt st.seats u) (sp st u)
        rw [gp, if_pos rfl, h1, hp]; exact (by decide : phv 1 2 < phv 1 1)
      · intro v hv
        show phv (stt st.seats v) ((st.pls.set u (nd st u, Mem.get st.ws 0, 2)).getD v (0, 0, 0)).2.2 = _
        rw [gp, if_neg hv]; rfl
    · right; left
      rw [e1]
      rcases c.sees u hu h1 hp with ⟨_, rfl, hq⟩ | ⟨z, _⟩
      · have hl : u < st.seats.length := by rw [f.sl]; exact hu
        have hl2 : u < (st.seats.set u (2, -1)).length := by simpa using hl
        refine ⟨rfl, hq, rfl, rfl, ?_, ?_, ?_⟩
        · rw [q2_got]
          refine ⟨by simpa using f.sl, f.pl, f.wl, e, (c.grant u hu h1 hq).congr (fun _ _ => rfl) (fun _ _ => rfl) (fun _ _ => rfl) (fun t _ => ?_) (fun _ _ _ => rfl) rfl⟩
          exact stt_set st.seats u (2, -1) hl t
        · intro d
          show phv (stt ((st.seats.set u (2, -1)).set u (3, d)) u) (sp st u) < phv (stt st.seats u) (sp st u)
          rw [stt_set _ u (3, d) hl2, if_pos rfl, h1, hp]; exact (by decide : phv 3 2 < phv 1 2)
        · intro v hv d
          show phv (stt ((st.seats.set u (2, -1)).set u (3, d)) v) (sp st v) = _
          rw [stt_set _ u (3, d) hl2, if_neg hv, stt_set _ u (2, -1) hl, if_neg hv]; rfl
      · exact absurd hF z
    · right; right
      rw [e1]
      rcases c.sees u hu h1 hp with ⟨z, _⟩ | ⟨_, z⟩
      · exact absurd z hF
      · exact ⟨rfl, rfl, f.ts _, fun _ => rfl, c.q2 u hu h1 hp, z, fun v _ hv => hw_ts n st ts v hv⟩
  unlS := fun {st q h} f u hu h3 now => by
    obtain ⟨e, c⟩ := f.ci
    have hnu := c.nd0 u hu
    have hpl : u < st.pls.length := by rw [f.pl]; exact hu
    have hl : u < st.seats.length := by rw [f.sl]; exact hu
    have hwl := f.wl
    have hs : state st.seats (u : Int) = 3 := by rw [state_nat]; exact h3
    have hf1 : (fin st.seats (u : Int) 3).2 = st.seats.set u (0, -1) := by
      rw [fin_eq _ _ _ (by rw [h3]; decide), h3]; rfl
    obtain ⟨ts, e1⟩ : ∃ ts, Clh.step n 0 st u u now = ((3, false, false, false), ⟨st.seats.set u (0, -1), st.pls.set u (ah st u, 0, 0), Mem.put st.ws (0 + 1 + nd st u) 0, ts⟩) := by
      refine ⟨Cache.after n st.ws.length st.ts u (0 + 1 + nd st u) true, ?_⟩
      unfold Clh.step midS
      rw [hs, if_neg (by omega), if_pos rfl]
      simp only [Int.toNat_natCast, wr_in hu, hf1]
      rfl
    left
    dsimp only [stp]
    rw [e1]
    have gp := fun v => pset st.pls u hpl (ah st u, 0, 0) v
    refine ⟨rfl, rfl, ?_, ?_, ?_⟩
    · obtain ⟨_, c2⟩ := c.leave u hu h3
      refine ⟨by simpa using f.sl, by simpa using f.pl, by rw [Mem.put_len]; exact f.wl, nd st u, c2.congr ?_ ?_ ?_ ?_ ?_ ?_⟩
      · intro t _
        show ((st.pls.set u (ah st u, 0, 0)).getD t (0, 0, 0)).1 = up (nd st) u (ah st u) t
        rw [gp]
        by_cases e : t = u
        · subst e; rw [if_pos rfl, up_eq]
        · rw [if_neg e, up_ne e]; rfl
      · intro t _
        show ((st.pls.set u (ah st u, 0, 0)).getD t (0, 0, 0)).2.1 = up (ah st) u 0 t
        rw [gp]
        by_cases e : t = u
        · subst e; rw [if_pos rfl, up_eq]
        · rw [if_neg e, up_ne e]; rfl
      · intro t _
        show ((st.pls.set u (ah st u, 0, 0)).getD t (0, 0, 0)).2.2 = up (sp st) u 0 t
        rw [gp]
        by_cases e : t = u
        · subst e; rw [if_pos rfl, up_eq]
        · rw [if_neg e, up_ne e]; rfl
      · intro t _; exact stt_set st.seats u (0, -1) hl t
      · intro x x0 x1
        rw [get_put _ _ _ _ (by omega) (by omega)]
        unfold upI
        by_cases ex : x = nd st u
        · subst ex; rw [if_pos rfl, if_pos rfl]
        · rw [if_neg (by omega), if_neg ex]
      · rw [get_put _ _ _ _ (by omega) (by omega), if_neg (by omega)]
    · show phv (stt (st.seats.set u (0, -1)) u) _ < phv (stt st.seats u) (sp st u)
      rw [stt_set _ u (0, -1) hl, if_pos rfl, h3]
      show 0 < phv 3 (sp st u)
      unfold phv
      (repeat' split) <;> omega
    · intro v hv
      show phv (stt (st.seats.set u (0, -1)) v) ((st.pls.set u (ah st u, 0, 0)).getD v (0, 0, 0)).2.2 = _
      rw [stt_set _ u (0, -1) hl, if_neg hv, gp, if_neg hv]; rfl
  prob := fun {st q h} f u hu h4 now => by
    have hl : u < st.seats.length := by rw [f.sl]; exact hu
    have hs : state st.seats (u : Int) = 4 := by rw [state_nat]; exact h4
    obtain ⟨ev, hev⟩ : ∃ ev : Int, (if rd n st.ws (u : Int) 0 = (st.pls.getD u (0, 0, 0)).1 then 4 else 5) = ev := ⟨_, rfl⟩
    have h45 : ev = 4 ∨ ev = 5 := by rw [← hev]; split; exact .inl rfl; exact .inr rfl
    have hf1 : (fin st.seats (u : Int) ev).2 = st.seats.set u (2, -1) := by
      rw [fin_eq _ _ _ (by rw [h4]; rcases h45 with rfl | rfl <;> decide), h4]
      rcases h45 with rfl | rfl <;> rfl
    obtain ⟨ts, e1⟩ : ∃ ts, Clh.step n 0 st u u now = ((ev, false, false, false), ⟨st.seats.set u (2, -1), st.pls, st.ws, ts⟩) := by
      refine ⟨Cache.after n st.ws.length st.ts u 0 false, ?_⟩
      unfold Clh.step midS
      rw [hs, if_neg (by omega), if_neg (by omega), if_pos rfl]
      simp only [Int.toNat_natCast, hev, hf1]
    dsimp only [stp]
    rw [e1]
    refine ⟨by rcases h45 with rfl | rfl; exact .inl rfl; exact .inr rfl, rfl, ?_⟩
    exact (f.seat u hu 2 (-1) (.inr ⟨.inr h4, .inl rfl⟩)).ts ts
  call := fun {st q h} f u hu h0 => by
    have hl : u < st.seats.length := by rw [f.sl]; exact hu
    refine ⟨?_, fun v hv => ?_⟩
    · show phv (stt (st.seats.set u (1, -1)) u) (sp st u) < 5
      unfold phv
      (repeat' split) <;> omega
    · show phv (stt (st.seats.set u (1, -1)) v) (sp st v) = _
      rw [stt_set _ u (1, -1) hl, if_neg hv]; rfl
theorem stt0 (n t : Nat) : stt (List.replicate n ((0 : Int), (-1 : Int))) t = 0 := by
  unfold stt
  rcases Nat.lt_or_ge t n with h | h
  · rw [getD_lt _ _ _ (by simpa using h)]; simp
  · simp [List.getD, h]
theorem start (n : Nat) (n8 : n ≤ 8) : I n (st0 n ([] ++ [0, 0] ++ List.replicate n 0)) [] none := by
  have g0 : ∀ x, Mem.get ([] ++ [0, 0] ++ List.replicate n 0) x = 0 := fun x => by
    unfold Mem.get
    split
    · rw [show ([] ++ [0, 0] ++ List.replicate n (0 : Int)) = List.replicate (n + 2) 0 by rw [List.replicate_succ, List.replicate_succ]; rfl, List.getD, List.getElem?_replicate]
      split <;> rfl
    · rfl
  have gn : ∀ t, t < n → nd (st0 n ([] ++ [0, 0] ++ List.replicate n 0)) t = (t : Int) + 1 := fun t ht => by
    show ((news n).getD t (0, 0, 0)).1 = _
    rw [news_get ht]
  have gp : ∀ t, t < n → sp (st0 n ([] ++ [0, 0] ++ List.replicate n 0)) t = 0 := fun t ht => by
    show ((news n).getD t (0, 0, 0)).2.2 = _
    rw [news_get ht]
  have gs : ∀ t, stt (st0 n ([] ++ [0, 0] ++ List.replicate n 0)).seats t = 0 := stt0 n
  refine ⟨by simp [st0], news_len n, by simp [st0], 0, ⟨n8, ?_, by omega, ?_, ?_, by simp, fun i hi => by simp at hi, ?_, g0 0, fun t h _ => gp t h, ?_, (fun t ht => by cases ht), ?_, fun t h => .inl (gp t h), g0 _, ?_⟩⟩
  · intro t h; rw [gn t h]; omega
  · intro t u h1 h2 h3; rw [gn t h1, gn u h2] at h3; omega
  · intro t h; rw [gn t h]; omega
  · intro t _ h; rw [gs] at h; omega
  · intro t _ h; rw [gs] at h; omega
  · intro t _; rw [gs]; omega
  · intro t h; rw [gs]; exact g0 _
end Go.Proofs.Ytgoaaijdlhhkkaa.ClhP
