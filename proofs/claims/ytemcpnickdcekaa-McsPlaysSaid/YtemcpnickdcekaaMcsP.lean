/- The lock of Mellor-Crummey and Scott keeps its queue. No program in sight but the steps' values. -/
import Derived.Test.YtemcpnickdcekaaMcsQ
import Derived.Test.YtemcpnickdcekaaQl
import Derived.Test.YtemcpnickdcekaaMcs3
namespace Go.Proofs.Ytemcpnickdcekaa.McsP
open Go Go.Proofs.Ytemcpnickdcekaa.Heap Go.Proofs.Ytemcpnickdcekaa.Seat Go.Proofs.Ytemcpnickdcekaa.Mach Go.Proofs.Ytemcpnickdcekaa.SeatP Go.Proofs.Ytemcpnickdcekaa.StepU Go.Proofs.Ytemcpnickdcekaa.Mcs Go.Proofs.Ytemcpnickdcekaa.McsQ Go.Proofs.Ytemcpnickdcekaa.Ql

def sp (st : St) (t : Nat) : Int := (st.pls.getD t (0, 0)).1
def ot (st : St) (t : Nat) : Int := (st.pls.getD t (0, 0)).2
def nx (st : St) (x : Int) : Int := Mem.get st.ws (nextA 0 x)
def lk (st : St) (x : Int) : Int := Mem.get st.ws (nextA 0 x + 1)
structure I (n : Nat) (st : St) (q : List Int) (h : Option Nat) : Prop where
  sl : st.seats.length = n
  pl : st.pls.length = n
  wl : st.ws.length = 2 * n + 1
  ci : CI n (nx st) (lk st) (Mem.get st.ws 0) (stt st.seats) (sp st) (ot st) q h
def phv (s p : Int) : Nat := if s = 0 then 0 else if s = 3 then (if p = 0 then 4 else if p = 1 then 3 else if p = 2 then 2 else 1) else if p = 0 then 9 else if p = 1 then 8 else if p = 2 then 7 else if p = 3 then 6 else 5
def ph (st : St) (t : Nat) : Nat := phv (stt st.seats t) (sp st t)
theorem rd_in {n : Nat} {u : Nat} (hu : u < n) (ws : List Int) (a : Int) : rd n ws u a = Mem.get ws a := by unfold rd; rw [if_pos (by simp [Mem.inB]; omega)]
theorem wr_in {n : Nat} {u : Nat} (hu : u < n) (ws : List Int) (a v : Int) : wrt n ws u a v = Mem.put ws a v := by unfold wrt; rw [if_pos (by simp [Mem.inB]; omega)]
theorem get_put (ws : List Int) (a b v : Int) (h0 : 0 ≤ a) (h1 : a < ws.length) : Mem.get (Mem.put ws a v) b = if b = a then v else Mem.get ws b := by
  have ha : Mem.inB a ws.length = true := by simp [Mem.inB]; omega
  rw [Mem.put_in (k := a.toNat) (by omega) ha]
  by_cases e : b = a
  · subst e
    rw [if_pos rfl, Mem.get_in (k := b.toNat) (by omega) (by rw [List.length_set]; exact ha)]
    simp [List.getD, List.getElem?_set_self (show b.toNat < ws.length by omega)]
  · rw [if_neg e]
    unfold Mem.get
    rw [List.length_set]
    split
    · rename_i hb
      have hb : 0 ≤ b ∧ b < ws.length := by simpa [Mem.inB] using hb
      rw [List.getD, List.getElem?_set_ne (by omega)]; rfl
    · rfl
theorem pset (l : List P2) (k : Nat) (hk : k < l.length) (x : P2) (u : Nat) : (l.set k x).getD u (0, 0) = if u = k then x else l.getD u (0, 0) := by
  by_cases e : u = k
  · subst e; simp [List.getD, List.getElem?_set_self hk]
  · rw [if_neg e, List.getD, List.getElem?_set_ne (fun z => e z.symm)]; rfl
abbrev stp (n : Nat) : St → Int → Int → Int → Did × St := fun st t a now => Mcs.step n 0 st t a now
theorem step_ts (k : Nat) (tl : Int) (st : St) (x : List Has.T) (t a now : Int) : (Mcs.step k tl { st with ts := x } t a now).1 = (Mcs.step k tl st t a now).1 ∧ (Mcs.step k tl { st with ts := x } t a now).2.seats = (Mcs.step k tl st t a now).2.seats ∧ (Mcs.step k tl { st with ts := x } t a now).2.pls = (Mcs.step k tl st t a now).2.pls := by
  have key : (midS k tl { st with ts := x } t a).1 = (midS k tl st t a).1 ∧ (midS k tl { st with ts := x } t a).2.seats = (midS k tl st t a).2.seats ∧ (midS k tl { st with ts := x } t a).2.pls = (midS k tl st t a).2.pls := by
    unfold midS lockS unlS
    dsimp only
    by_cases h1 : state st.seats t = 1
    · simp only [if_pos h1]
      by_cases h2 : (st.pls.getD t.toNat (0, 0)).1 = 0
      · simp only [if_pos h2]; (refine ⟨?_, ?_, ?_⟩ <;> first | rfl | trivial)
      · simp only [if_neg h2]
        by_cases h3 : (st.pls.getD t.toNat (0, 0)).1 = 1
        · simp only [if_pos h3]; (refine ⟨?_, ?_, ?_⟩ <;> first | rfl | trivial)
        · simp only [if_neg h3]
          by_cases h4 : (st.pls.getD t.toNat (0, 0)).1 = 2
          · simp only [if_pos h4]; (refine ⟨?_, ?_, ?_⟩ <;> first | rfl | trivial)
          · simp only [if_neg h4]
            by_cases h5 : (st.pls.getD t.toNat (0, 0)).1 = 3
            · simp only [if_pos h5]; (refine ⟨?_, ?_, ?_⟩ <;> first | rfl | trivial)
            · simp only [if_neg h5]; (refine ⟨?_, ?_, ?_⟩ <;> first | rfl | trivial)
    · simp only [if_neg h1]
      by_cases h2 : state st.seats t = 3
      · simp only [if_pos h2]
        by_cases h3 : (st.pls.getD t.toNat (0, 0)).1 = 0 ∨ (st.pls.getD t.toNat (0, 0)).1 = 2
        · simp only [if_pos h3]; (refine ⟨?_, ?_, ?_⟩ <;> first | rfl | trivial)
        · simp only [if_neg h3]
          by_cases h4 : (st.pls.getD t.toNat (0, 0)).1 = 1
          · simp only [if_pos h4]
            by_cases h5 : (Mem.inB a k && Mem.casB st.ws tl (t.toNat + 1)) = true
            · simp only [if_pos h5]; (refine ⟨?_, ?_, ?_⟩ <;> first | rfl | trivial)
            · simp only [if_neg h5]; (refine ⟨?_, ?_, ?_⟩ <;> first | rfl | trivial)
          · simp only [if_neg h4]; (refine ⟨?_, ?_, ?_⟩ <;> first | rfl | trivial)
      · simp only [if_neg h2]
        by_cases h3 : state st.seats t = 4
        · simp only [if_pos h3]; (refine ⟨?_, ?_, ?_⟩ <;> first | rfl | trivial)
        · simp only [if_neg h3]; (refine ⟨?_, ?_, ?_⟩ <;> first | rfl | trivial)
  obtain ⟨e1, e2, e3⟩ := key
  unfold Mcs.step
  dsimp only
  rw [e1, e2, e3]
  exact ⟨rfl, rfl, rfl⟩
theorem hw_ts (n : Nat) (st : St) (x : List Has.T) (v : Nat) (h : Hw St.seats setS (stp n) ph st v) : Hw St.seats setS (stp n) ph { st with ts := x } v := by
  obtain ⟨e1, e2, e3⟩ := step_ts n 0 st x v v 0
  have e : ph (go1 St.seats setS (stp n) { st with ts := x } v) v = ph (go1 St.seats setS (stp n) st v) v := by
    unfold go1
    dsimp only [stp]
    rw [e1]
    split
    · show phv (stt (turn (Mcs.step n 0 { st with ts := x } v v 0).2.seats v 3).2 v) (((Mcs.step n 0 { st with ts := x } v v 0).2.pls).getD v (0, 0)).1 = _
      rw [e2, e3]; rfl
    · show phv (stt (Mcs.step n 0 { st with ts := x } v v 0).2.seats v) (((Mcs.step n 0 { st with ts := x } v v 0).2.pls).getD v (0, 0)).1 = _
      rw [e2, e3]; rfl
  unfold Hw at h ⊢
  rw [e]; exact h
theorem I.ts {n : Nat} {st : St} {q : List Int} {h : Option Nat} (f : I n st q h) (x : List Has.T) : I n { st with ts := x } q h := ⟨f.sl, f.pl, f.wl, f.ci⟩
theorem I.seat {n : Nat} {st : St} {q : List Int} {h : Option Nat} (f : I n st q h) (k : Nat) (hk : k < n) (a d : Int) (hc : (stt st.seats k = 0 ∧ a = 1) ∨ ((stt st.seats k = 2 ∨ stt st.seats k = 4) ∧ (a = 2 ∨ a = 3 ∨ a = 4))) : I n (setS st (st.seats.set k (a, d))) q h := by
  have c := f.ci
  refine ⟨by simp [setS, f.sl], f.pl, f.wl, (c.seat k hk a hc).congr (fun _ _ _ => rfl) (fun _ _ _ => rfl) rfl (fun t _ => ?_) (fun _ _ => rfl) (fun _ _ => rfl) c.pr⟩
  exact stt_set st.seats k (a, d) (by rw [f.sl]; exact hk) t
/-- The state behind a step, out of its functions. -/
theorem I.of {n : Nat} {N K : Int → Int} {T : Int} {s p o : Nat → Int} {q : List Int} {h : Option Nat} (c : CI n N K T s p o q h) (st : St) (sl : st.seats.length = n) (pl : st.pls.length = n) (wl : st.ws.length = 2 * n + 1)
    (hN : ∀ x : Int, 1 ≤ x → x ≤ n → nx st x = N x) (hK : ∀ x : Int, 1 ≤ x → x ≤ n → lk st x = K x) (hT : Mem.get st.ws 0 = T) (hs : ∀ t, t < n → stt st.seats t = s t) (hp : ∀ t, t < n → sp st t = p t) (ho : ∀ t, t < n → ot st t = o t) : I n st q h :=
  ⟨sl, pl, wl, c.congr hN hK hT hs hp ho c.pr⟩
theorem q2_eq (q : List Int) (t : Int) : queue2 q t (0, false, false, false) = q := q2_none q t 0 (by omega)
theorem q2_enq (q : List Int) (t : Int) : queue2 q t (0, true, false, false) = q ++ [t] := rfl
theorem q2_got (q : List Int) (t : Int) : queue2 q t (1, false, false, false) = q.filter (· != t) := rfl
theorem q2_one (t : Int) : queue2 [] t (1, true, false, false) = [] := by unfold queue2 queue1; simp
theorem sp_set {st : St} {ws : List Int} {ts : List Has.T} {sl : List (Int × Int)} {u : Nat} (hu : u < st.pls.length) (x y : Int) (t : Nat) : sp ⟨sl, st.pls.set u (x, y), ws, ts⟩ t = up (sp st) u x t := by
  show ((st.pls.set u (x, y)).getD t (0, 0)).1 = _
  rw [pset _ _ hu]
  by_cases e : t = u
  · subst e; rw [if_pos rfl, up_eq]
  · rw [if_neg e, up_ne e]; rfl
theorem ot_set {st : St} {ws : List Int} {ts : List Has.T} {sl : List (Int × Int)} {u : Nat} (hu : u < st.pls.length) (x y : Int) (t : Nat) : ot ⟨sl, st.pls.set u (x, y), ws, ts⟩ t = up (ot st) u y t := by
  show ((st.pls.set u (x, y)).getD t (0, 0)).2 = _
  rw [pset _ _ hu]
  by_cases e : t = u
  · subst e; rw [if_pos rfl, up_eq]
  · rw [if_neg e, up_ne e]; rfl
theorem ot_same {st : St} {ws : List Int} {ts : List Has.T} {sl : List (Int × Int)} {u : Nat} (hu : u < st.pls.length) (x : Int) (t : Nat) : ot ⟨sl, st.pls.set u (x, ot st u), ws, ts⟩ t = ot st t := by
  rw [ot_set hu]
  by_cases e : t = u
  · subst e; rw [up_eq]
  · rw [up_ne e]
theorem stt_up {st : St} {ws : List Int} {ts : List Has.T} {pls : List P2} {u : Nat} (hu : u < st.seats.length) (a d : Int) (t : Nat) : stt (St.seats ⟨st.seats.set u (a, d), pls, ws, ts⟩) t = up (stt st.seats) u a t := stt_set st.seats u (a, d) hu t
theorem nx_put {st : St} {pls : List P2} {ts : List Has.T} {sl : List (Int × Int)} {n : Nat} (wl : st.ws.length = 2 * n + 1) (y v : Int) (h1 : 1 ≤ y) (h2 : y ≤ n) (x : Int) : nx ⟨sl, pls, Mem.put st.ws (nextA 0 y) v, ts⟩ x = upI (nx st) y v x := by
  unfold nx nextA
  show Mem.get (Mem.put st.ws _ v) _ = _
  rw [get_put _ _ _ _ (by omega) (by omega)]
  unfold upI
  by_cases e : x = y
  · subst e; rw [if_pos rfl, if_pos rfl]
  · rw [if_neg (by omega), if_neg e]
theorem lk_put {st : St} {pls : List P2} {ts : List Has.T} {sl : List (Int × Int)} {n : Nat} (wl : st.ws.length = 2 * n + 1) (y v : Int) (h1 : 1 ≤ y) (h2 : y ≤ n) (x : Int) : lk ⟨sl, pls, Mem.put st.ws (nextA 0 y + 1) v, ts⟩ x = upI (lk st) y v x := by
  unfold lk nextA
  show Mem.get (Mem.put st.ws _ v) _ = _
  rw [get_put _ _ _ _ (by omega) (by omega)]
  unfold upI
  by_cases e : x = y
  · subst e; rw [if_pos rfl, if_pos rfl]
  · rw [if_neg (by omega), if_neg e]
theorem nx_put2 {st : St} {pls : List P2} {ts : List Has.T} {sl : List (Int × Int)} {n : Nat} (wl : st.ws.length = 2 * n + 1) (y v : Int) (h1 : 1 ≤ y) (h2 : y ≤ n) (x : Int) : nx ⟨sl, pls, Mem.put st.ws (nextA 0 y + 1) v, ts⟩ x = nx st x := by
  unfold nx nextA
  show Mem.get (Mem.put st.ws _ v) _ = _
  rw [get_put _ _ _ _ (by omega) (by omega), if_neg (by omega)]
theorem lk_put2 {st : St} {pls : List P2} {ts : List Has.T} {sl : List (Int × Int)} {n : Nat} (wl : st.ws.length = 2 * n + 1) (y v : Int) (h1 : 1 ≤ y) (h2 : y ≤ n) (x : Int) : lk ⟨sl, pls, Mem.put st.ws (nextA 0 y) v, ts⟩ x = lk st x := by
  unfold lk nextA
  show Mem.get (Mem.put st.ws _ v) _ = _
  rw [get_put _ _ _ _ (by omega) (by omega), if_neg (by omega)]
theorem nx_put0 {st : St} {pls : List P2} {ts : List Has.T} {sl : List (Int × Int)} {n : Nat} (wl : st.ws.length = 2 * n + 1) (v : Int) (x : Int) (_h1 : 1 ≤ x) : nx ⟨sl, pls, Mem.put st.ws 0 v, ts⟩ x = nx st x := by
  unfold nx nextA
  show Mem.get (Mem.put st.ws _ v) _ = _
  rw [get_put _ _ _ _ (by omega) (by omega), if_neg (by omega)]
theorem lk_put0 {st : St} {pls : List P2} {ts : List Has.T} {sl : List (Int × Int)} {n : Nat} (wl : st.ws.length = 2 * n + 1) (v : Int) (x : Int) (h1 : 1 ≤ x) : lk ⟨sl, pls, Mem.put st.ws 0 v, ts⟩ x = lk st x := by
  unfold lk nextA
  show Mem.get (Mem.put st.ws _ v) _ = _
  rw [get_put _ _ _ _ (by omega) (by omega), if_neg (by omega)]
theorem t0_put {ws : List Int} {n : Nat} (wl : ws.length = 2 * n + 1) (y v : Int) (h1 : 1 ≤ y) (h2 : y ≤ 2 * n) : Mem.get (Mem.put ws y v) 0 = Mem.get ws 0 := by
  rw [get_put _ _ _ _ (by omega) (by omega), if_neg (by omega)]
theorem t0_put0 {ws : List Int} {n : Nat} (wl : ws.length = 2 * n + 1) (v : Int) : Mem.get (Mem.put ws 0 v) 0 = v := by
  rw [get_put _ _ _ _ (by omega) (by omega), if_pos rfl]
/-- A step that is no end leaves seats and place as they are. -/
theorem step_none (k : Nat) (st : St) (u : Nat) (now : Int) (e : Bool) (m : St) (h : midS k 0 st u u = ((0, e, false, false), m)) : Mcs.step k 0 st u u now = ((0, e, false, false), m) := by
  have h0 : ∀ l, (fin l (u : Int) 0).1 = false := fun l => by
    unfold fin
    rw [if_pos]
    unfold Seat.next
    (repeat' split) <;> simp_all
  unfold Mcs.step
  rw [h]
  dsimp only
  rw [h0, fin_none]
  rfl
theorem step_end (k : Nat) (st : St) (u : Nat) (now ev : Int) (e : Bool) (m : St) (h : midS k 0 st u u = ((ev, e, false, false), m)) (hn : 0 ≤ Seat.next (stt m.seats u) ev) :
    Mcs.step k 0 st u u now = ((ev, e, false, false), { m with seats := m.seats.set u (Seat.next (stt m.seats u) ev, -1), pls := m.pls.set u (0, 0) }) := by
  have h1 : (fin m.seats (u : Int) ev).1 = true := by
    unfold fin
    rw [state_nat, if_neg (by omega)]
  unfold Mcs.step
  rw [h]
  dsimp only
  rw [h1, fin_eq _ _ _ hn, if_pos rfl, Int.toNat_natCast]
theorem lock_mid {n : Nat} {st : St} {u : Nat} (h1 : stt st.seats u = 1) : midS n 0 st u u = lockS n 0 st u u := by
  unfold midS; rw [show state st.seats (u : Int) = 1 by rw [state_nat]; exact h1, if_pos rfl, Int.toNat_natCast]
theorem unl_mid {n : Nat} {st : St} {u : Nat} (h3 : stt st.seats u = 3) : midS n 0 st u u = (((unlS n 0 st u u).1, false, false, false), (unlS n 0 st u u).2) := by
  unfold midS; rw [show state st.seats (u : Int) = 3 by rw [state_nat]; exact h3, if_neg (by omega), if_pos rfl, Int.toNat_natCast]
theorem lockStep {n : Nat} {st : St} {q : List Int} {h : Option Nat} (f : I n st q h) (u : Nat) (hu : u < n) (h1 : stt st.seats u = 1) (now : Int) :
    (sp st u = 0 ∧ ∃ ts, Mcs.step n 0 st u u now = ((0, false, false, false), ⟨st.seats, st.pls.set u (1, ot st u), Mem.put st.ws (nextA 0 (u + 1)) 0, ts⟩)) ∨
    (sp st u = 1 ∧ Mem.get st.ws 0 ≠ 0 ∧ ∃ ts, Mcs.step n 0 st u u now = ((0, true, false, false), ⟨st.seats, st.pls.set u (2, Mem.get st.ws 0), Mem.put st.ws 0 (u + 1), ts⟩)) ∨
    (sp st u = 1 ∧ Mem.get st.ws 0 = 0 ∧ ∃ ts, Mcs.step n 0 st u u now = ((1, true, false, false), ⟨st.seats.set u (2, -1), st.pls.set u (0, 0), Mem.put st.ws 0 (u + 1), ts⟩)) ∨
    (sp st u = 2 ∧ ∃ ts, Mcs.step n 0 st u u now = ((0, false, false, false), ⟨st.seats, st.pls.set u (3, ot st u), Mem.put st.ws (nextA 0 (u + 1) + 1) 1, ts⟩)) ∨
    (sp st u = 3 ∧ ∃ ts, Mcs.step n 0 st u u now = ((0, false, false, false), ⟨st.seats, st.pls.set u (4, ot st u), Mem.put st.ws (nextA 0 (ot st u)) (u + 1), ts⟩)) ∨
    (sp st u = 4 ∧ lk st (u + 1) = 0 ∧ ∃ ts, Mcs.step n 0 st u u now = ((1, false, false, false), ⟨st.seats.set u (2, -1), st.pls.set u (0, 0), st.ws, ts⟩)) ∨
    (sp st u = 4 ∧ lk st (u + 1) ≠ 0 ∧ ∃ ts, Mcs.step n 0 st u u now = ((0, false, false, false), { st with ts := ts })) := by
  have c := f.ci
  have hm := lock_mid (n := n) h1
  have hp := c.p1 u hu h1
  have hn1 : Seat.next (stt st.seats u) 1 = 2 := by rw [h1]; rfl
  by_cases e0 : sp st u = 0
  · left
    refine ⟨e0, Cache.after n st.ws.length st.ts u (nextA 0 (u + 1)) true, step_none _ _ _ _ _ _ ?_⟩
    rw [hm]
    unfold lockS
    dsimp only
    rw [if_pos (show (st.pls.getD u (0, 0)).1 = 0 from e0), wr_in hu]
    rfl
  right
  by_cases e1 : sp st u = 1
  · by_cases hT : Mem.get st.ws 0 = 0
    · right; left
      refine ⟨e1, hT, Cache.after n st.ws.length st.ts u 0 true, ?_⟩
      have := step_end n st u now 1 true ⟨st.seats, st.pls.set u (2, Mem.get st.ws 0), Mem.put st.ws 0 (u + 1), Cache.after n st.ws.length st.ts u 0 true⟩ (by
        rw [hm]
        unfold lockS
        dsimp only
        rw [if_neg (show ¬ (st.pls.getD u (0, 0)).1 = 0 from e0), if_pos (show (st.pls.getD u (0, 0)).1 = 1 from e1), wr_in hu, rd_in hu, if_pos hT]) (by
        show 0 ≤ Seat.next (stt st.seats u) 1
        rw [hn1]; decide)
      rw [this]
      dsimp only
      rw [hn1, List.set_set]
    · left
      refine ⟨e1, hT, Cache.after n st.ws.length st.ts u 0 true, step_none _ _ _ _ _ _ ?_⟩
      rw [hm]
      unfold lockS
      dsimp only
      rw [if_neg (show ¬ (st.pls.getD u (0, 0)).1 = 0 from e0), if_pos (show (st.pls.getD u (0, 0)).1 = 1 from e1), wr_in hu, rd_in hu, if_neg hT]
  right; right
  by_cases e2 : sp st u = 2
  · left
    refine ⟨e2, Cache.after n st.ws.length st.ts u (nextA 0 (u + 1) + 1) true, step_none _ _ _ _ _ _ ?_⟩
    rw [hm]
    unfold lockS
    dsimp only
    rw [if_neg (show ¬ (st.pls.getD u (0, 0)).1 = 0 from e0), if_neg (show ¬ (st.pls.getD u (0, 0)).1 = 1 from e1), if_pos (show (st.pls.getD u (0, 0)).1 = 2 from e2), wr_in hu]
    rfl
  right
  by_cases e3 : sp st u = 3
  · left
    refine ⟨e3, Cache.after n st.ws.length st.ts u (nextA 0 (ot st u)) true, step_none _ _ _ _ _ _ ?_⟩
    rw [hm]
    unfold lockS
    dsimp only
    rw [if_neg (show ¬ (st.pls.getD u (0, 0)).1 = 0 from e0), if_neg (show ¬ (st.pls.getD u (0, 0)).1 = 1 from e1), if_neg (show ¬ (st.pls.getD u (0, 0)).1 = 2 from e2), if_pos (show (st.pls.getD u (0, 0)).1 = 3 from e3), wr_in hu]
    rfl
  right
  have e4 : sp st u = 4 := by omega
  by_cases hK : lk st (u + 1) = 0
  · left
    refine ⟨e4, hK, Cache.after n st.ws.length st.ts u (nextA 0 (u + 1) + 1) false, ?_⟩
    have := step_end n st u now 1 false { st with ts := Cache.after n st.ws.length st.ts u (nextA 0 (u + 1) + 1) false } (by
      rw [hm]
      unfold lockS
      dsimp only
      rw [if_neg (show ¬ (st.pls.getD u (0, 0)).1 = 0 from e0), if_neg (show ¬ (st.pls.getD u (0, 0)).1 = 1 from e1), if_neg (show ¬ (st.pls.getD u (0, 0)).1 = 2 from e2), if_neg (show ¬ (st.pls.getD u (0, 0)).1 = 3 from e3), rd_in hu, if_pos (show Mem.get st.ws (nextA 0 (u + 1) + 1) = 0 from hK)]) (by
      show 0 ≤ Seat.next (stt st.seats u) 1
      rw [hn1]; decide)
    rw [this]
    dsimp only
    rw [hn1]
  · right
    refine ⟨e4, hK, Cache.after n st.ws.length st.ts u (nextA 0 (u + 1) + 1) false, step_none _ _ _ _ _ _ ?_⟩
    rw [hm]
    unfold lockS
    dsimp only
    rw [if_neg (show ¬ (st.pls.getD u (0, 0)).1 = 0 from e0), if_neg (show ¬ (st.pls.getD u (0, 0)).1 = 1 from e1), if_neg (show ¬ (st.pls.getD u (0, 0)).1 = 2 from e2), if_neg (show ¬ (st.pls.getD u (0, 0)).1 = 3 from e3), rd_in hu, if_neg (show ¬ Mem.get st.ws (nextA 0 (u + 1) + 1) = 0 from hK)]
theorem unlStep {n : Nat} {st : St} {q : List Int} {h : Option Nat} (f : I n st q h) (u : Nat) (hu : u < n) (h3 : stt st.seats u = 3) (now : Int) :
    ((sp st u = 0 ∨ sp st u = 2) ∧ ∃ ts, Mcs.step n 0 st u u now = ((0, false, false, false), ⟨st.seats, st.pls.set u (if nx st (u + 1) = 0 then (if sp st u = 0 then 1 else 2) else 3, nx st (u + 1)), st.ws, ts⟩)) ∨
    (sp st u = 1 ∧ Mem.get st.ws 0 = u + 1 ∧ ∃ ts, Mcs.step n 0 st u u now = ((3, false, false, false), ⟨st.seats.set u (0, -1), st.pls.set u (0, 0), Mem.put st.ws 0 0, ts⟩)) ∨
    (sp st u = 1 ∧ Mem.get st.ws 0 ≠ u + 1 ∧ ∃ ts, Mcs.step n 0 st u u now = ((0, false, false, false), ⟨st.seats, st.pls.set u (2, ot st u), st.ws, ts⟩)) ∨
    (sp st u = 3 ∧ ∃ ts, Mcs.step n 0 st u u now = ((3, false, false, false), ⟨st.seats.set u (0, -1), st.pls.set u (0, 0), Mem.put st.ws (nextA 0 (ot st u) + 1) 0, ts⟩)) := by
  have c := f.ci
  have hm := unl_mid (n := n) h3
  have hp : sp st u = 0 ∨ sp st u = 1 ∨ sp st u = 2 ∨ sp st u = 3 := by rcases c.p3 u hu h3 with k | k | k | k <;> omega
  have hn1 : Seat.next (stt st.seats u) 3 = 0 := by rw [h3]; rfl
  have hwl := f.wl
  by_cases e0 : sp st u = 0 ∨ sp st u = 2
  · left
    refine ⟨e0, Cache.after n st.ws.length st.ts u (nextA 0 (u + 1)) false, step_none _ _ _ _ _ _ ?_⟩
    rw [hm]
    unfold unlS
    dsimp only
    rw [if_pos (show (st.pls.getD u (0, 0)).1 = 0 ∨ (st.pls.getD u (0, 0)).1 = 2 from e0), rd_in hu]
    rfl
  right
  by_cases e1 : sp st u = 1
  · have hcas : (Mem.inB (u : Int) n && Mem.casB st.ws 0 (u + 1)) = true ↔ Mem.get st.ws 0 = u + 1 := by
      have hi : Mem.inB (u : Int) n = true := by simp [Mem.inB]; omega
      rw [hi, Bool.true_and]
      have hi0 : Mem.inB 0 st.ws.length = true := by simp [Mem.inB]; omega
      unfold Mem.casB
      simp [hi0]
    by_cases hT : Mem.get st.ws 0 = u + 1
    · left
      refine ⟨e1, hT, Cache.after n st.ws.length st.ts u 0 true, ?_⟩
      have := step_end n st u now 3 false { st with ws := Mem.put st.ws 0 0, ts := Cache.after n st.ws.length st.ts u 0 true } (by
        rw [hm]
        unfold unlS
        dsimp only
        rw [if_neg (show ¬ ((st.pls.getD u (0, 0)).1 = 0 ∨ (st.pls.getD u (0, 0)).1 = 2) from e0), if_pos (show (st.pls.getD u (0, 0)).1 = 1 from e1), if_pos (hcas.2 hT)]) (by
        show 0 ≤ Seat.next (stt st.seats u) 3
        rw [hn1]; decide)
      rw [this]
      dsimp only
      rw [hn1]
    · right; left
      refine ⟨e1, hT, Cache.after n st.ws.length st.ts u 0 true, step_none _ _ _ _ _ _ ?_⟩
      rw [hm]
      unfold unlS
      dsimp only
      rw [if_neg (show ¬ ((st.pls.getD u (0, 0)).1 = 0 ∨ (st.pls.getD u (0, 0)).1 = 2) from e0), if_pos (show (st.pls.getD u (0, 0)).1 = 1 from e1), if_neg (fun z => hT (hcas.1 z))]
      rfl
  right; right
  have e3 : sp st u = 3 := by omega
  refine ⟨e3, Cache.after n st.ws.length st.ts u (nextA 0 (ot st u) + 1) true, ?_⟩
  have := step_end n st u now 3 false { st with ws := Mem.put st.ws (nextA 0 (ot st u) + 1) 0, ts := Cache.after n st.ws.length st.ts u (nextA 0 (ot st u) + 1) true } (by
    rw [hm]
    unfold unlS
    dsimp only
    rw [if_neg (show ¬ ((st.pls.getD u (0, 0)).1 = 0 ∨ (st.pls.getD u (0, 0)).1 = 2) from e0), if_neg (show ¬ (st.pls.getD u (0, 0)).1 = 1 from e1), wr_in hu]
    rfl) (by
    show 0 ≤ Seat.next (stt st.seats u) 3
    rw [hn1]; decide)
  rw [this]
  dsimp only
  rw [hn1]
theorem ph_set {st : St} {ws : List Int} {ts : List Has.T} {u : Nat} (hu : u < st.pls.length) (x y : Int) (t : Nat) : ph ⟨st.seats, st.pls.set u (x, y), ws, ts⟩ t = if t = u then phv (stt st.seats u) x else ph st t := by
  show phv (stt st.seats t) (sp _ t) = _
  rw [sp_set hu]
  by_cases e : t = u
  · subst e; rw [if_pos rfl, up_eq]
  · rw [if_neg e, up_ne e]; rfl
theorem ph_set2 {st : St} {ws : List Int} {ts : List Has.T} {u : Nat} (hu : u < st.pls.length) (hs : u < st.seats.length) (a d x y : Int) (t : Nat) : ph ⟨st.seats.set u (a, d), st.pls.set u (x, y), ws, ts⟩ t = if t = u then phv a x else ph st t := by
  show phv (stt (st.seats.set u (a, d)) t) (sp _ t) = _
  rw [sp_set hu, stt_set st.seats u (a, d) hs]
  by_cases e : t = u
  · subst e; rw [if_pos rfl, if_pos rfl, up_eq]
  · rw [if_neg e, if_neg e, up_ne e]; rfl
/-- A grant, in QL's words. -/
theorem grant_ph {st : St} {ws : List Int} {ts : List Has.T} {u : Nat} (hu : u < st.pls.length) (hs : u < st.seats.length) (_h1 : stt st.seats u = 1) (d : Int) (t : Nat) : ph (setS ⟨st.seats.set u (2, -1), st.pls.set u (0, 0), ws, ts⟩ ((st.seats.set u (2, -1)).set u (3, d))) t = if t = u then 4 else ph st t := by
  show ph ⟨(st.seats.set u (2, -1)).set u (3, d), st.pls.set u (0, 0), ws, ts⟩ t = _
  rw [List.set_set, ph_set2 hu hs]
  rfl
theorem hw_of {n : Nat} {st st' : St} {v : Nat} {d : Did} (e : Mcs.step n 0 st v v 0 = (d, st')) (h : d.1 ≠ 1) (hl : ph st' v < ph st v) : Hw St.seats setS (stp n) ph st v := by
  have e : stp n st v v 0 = (d, st') := e
  have e1 : (stp n st v v 0).1.1 ≠ 1 := by rw [e]; exact h
  unfold Hw go1
  rw [if_neg e1, e]
  exact hl
theorem ql (n : Nat) : QL n St.seats setS (stp n) 10 (I n) ph where
  get := fun _ _ => rfl
  eta := fun _ => rfl
  set2 := fun _ _ _ => rfl
  len := fun f => f.sl
  rg := fun f => f.ci.rg
  hh := fun f => f.ci.hh
  h1 := fun f => f.ci.h1
  qs := fun {st q h} f a ha => by
    cases q with
    | nil => simp at ha
    | cons x r =>
      obtain ⟨t, e1, ht, k, _⟩ := f.ci.q1 0 (by simp)
      have e1 : x = (t : Int) := e1
      simp at ha
      exact ⟨t, by omega, ht, k⟩
  seat := fun f k hk a d hc => f.seat k hk a d hc
  idle := fun st t now h0 => by
    dsimp only [stp]
    have hm : midS n 0 st t t = ((0, false, false, false), st) := by
      unfold midS
      rw [if_neg (by omega), if_neg (by omega), if_neg (by omega)]
    have hf : (fin st.seats t 0).1 = false := by
      unfold fin
      rw [if_pos]
      unfold Seat.next
      (repeat' split) <;> simp_all
    unfold Mcs.step
    rw [hm]
    dsimp only
    rw [hf, fin_none]
    rfl
  lockS := fun {st q h} f u hu h1 now => by
    have c := f.ci
    have hpl : u < st.pls.length := by rw [f.pl]; exact hu
    have hl : u < st.seats.length := by rw [f.sl]; exact hu
    have hwl := f.wl
    have hph : ph st u = phv 1 (sp st u) := by unfold ph; rw [h1]
    dsimp only [stp]
    rcases lockStep f u hu h1 now with ⟨hp, ts, e1⟩ | ⟨hp, hT, ts, e1⟩ | ⟨hp, hT, ts, e1⟩ | ⟨hp, ts, e1⟩ | ⟨hp, ts, e1⟩ | ⟨hp, hK, ts, e1⟩ | ⟨hp, hK, ts, e1⟩
    · left
      rw [e1, q2_eq]
      refine ⟨rfl, rfl, I.of (c.empty u hu h1 hp) _ f.sl (by simpa using f.pl) (by rw [Mem.put_len]; exact f.wl) ?_ ?_ ?_ (fun _ _ => rfl) (fun t _ => sp_set hpl _ _ t) (fun t _ => ot_same hpl _ t), ?_, fun v hv => by rw [ph_set hpl, if_neg hv]⟩
      · intro x _ _; exact nx_put hwl _ _ (by omega) (by omega) x
      · intro x _ _; exact lk_put2 hwl _ _ (by omega) (by omega) x
      · exact t0_put hwl _ _ (by unfold nextA; omega) (by unfold nextA; omega)
      · rw [ph_set hpl, if_pos rfl, hph, hp, h1]; exact (by decide : phv 1 1 < phv 1 0)
    · left
      rw [e1, q2_enq]
      refine ⟨rfl, rfl, I.of (c.enq u hu h1 hp hT) _ f.sl (by simpa using f.pl) (by rw [Mem.put_len]; exact f.wl) ?_ ?_ ?_ (fun _ _ => rfl) (fun t _ => sp_set hpl _ _ t) (fun t _ => ot_set hpl _ _ t), ?_, fun v hv => by rw [ph_set hpl, if_neg hv]⟩
      · intro x h _; exact nx_put0 hwl _ x h
      · intro x h _; exact lk_put0 hwl _ x h
      · exact t0_put0 hwl _
      · rw [ph_set hpl, if_pos rfl, hph, hp, h1]; exact (by decide : phv 1 2 < phv 1 1)
    · right; left
      rw [e1]
      obtain ⟨rfl, rfl, c2⟩ := c.first u hu h1 hp hT
      refine ⟨rfl, rfl, rfl, rfl, ?_, fun d => ?_, fun v hv d => ?_⟩
      · rw [q2_one]
        refine I.of c2 _ (by simpa using f.sl) (by simpa using f.pl) (by rw [Mem.put_len]; exact f.wl) ?_ ?_ ?_ (fun t _ => stt_up hl _ _ t) (fun t _ => sp_set hpl _ _ t) (fun t _ => ot_set hpl _ _ t)
        · intro x h _; exact nx_put0 hwl _ x h
        · intro x h _; exact lk_put0 hwl _ x h
        · exact t0_put0 hwl _
      · rw [grant_ph hpl hl h1, if_pos rfl, hph, hp]; exact (by decide : 4 < phv 1 1)
      · rw [grant_ph hpl hl h1, if_neg hv]
    · left
      rw [e1, q2_eq]
      refine ⟨rfl, rfl, I.of (c.raise u hu h1 hp) _ f.sl (by simpa using f.pl) (by rw [Mem.put_len]; exact f.wl) ?_ ?_ ?_ (fun _ _ => rfl) (fun t _ => sp_set hpl _ _ t) (fun t _ => ot_same hpl _ t), ?_, fun v hv => by rw [ph_set hpl, if_neg hv]⟩
      · intro x _ _; exact nx_put2 hwl _ _ (by omega) (by omega) x
      · intro x _ _; exact lk_put hwl _ _ (by omega) (by omega) x
      · exact t0_put hwl _ _ (by unfold nextA; omega) (by unfold nextA; omega)
      · rw [ph_set hpl, if_pos rfl, hph, hp, h1]; exact (by decide : phv 1 3 < phv 1 2)
    · left
      rw [e1, q2_eq]
      obtain ⟨⟨o1, o2⟩, c2⟩ := c.link u hu h1 hp
      refine ⟨rfl, rfl, I.of c2 _ f.sl (by simpa using f.pl) (by rw [Mem.put_len]; exact f.wl) ?_ ?_ ?_ (fun _ _ => rfl) (fun t _ => sp_set hpl _ _ t) (fun t _ => ot_same hpl _ t), ?_, fun v hv => by rw [ph_set hpl, if_neg hv]⟩
      · intro x _ _; exact nx_put hwl _ _ o1 o2 x
      · intro x _ _; exact lk_put2 hwl _ _ o1 o2 x
      · exact t0_put hwl _ _ (by unfold nextA; omega) (by unfold nextA; omega)
      · rw [ph_set hpl, if_pos rfl, hph, hp, h1]; exact (by decide : phv 1 4 < phv 1 3)
    · right; left
      rw [e1]
      rcases c.sees u hu h1 hp with ⟨_, rfl, hq⟩ | ⟨z, _⟩
      · refine ⟨rfl, hq, rfl, rfl, ?_, fun d => ?_, fun v hv d => ?_⟩
        · rw [q2_got]
          exact I.of (c.grant u hu h1 hq) _ (by simpa using f.sl) (by simpa using f.pl) f.wl (fun _ _ _ => rfl) (fun _ _ _ => rfl) rfl (fun t _ => stt_up hl _ _ t) (fun t _ => sp_set hpl _ _ t) (fun t _ => ot_set hpl _ _ t)
        · rw [grant_ph hpl hl h1, if_pos rfl, hph, hp]; exact (by decide : 4 < phv 1 4)
        · rw [grant_ph hpl hl h1, if_neg hv]
      · exact absurd hK z
    · right; right
      rw [e1]
      rcases c.sees u hu h1 hp with ⟨z, _⟩ | ⟨_, z⟩
      · exact absurd z hK
      · exact ⟨rfl, rfl, f.ts _, fun _ => rfl, c.q2 u hu h1 (by rw [hp]; decide), z, fun v _ hv => hw_ts n st ts v hv⟩
  unlS := fun {st q h} f u hu h3 now => by
    have c := f.ci
    have hpl : u < st.pls.length := by rw [f.pl]; exact hu
    have hl : u < st.seats.length := by rw [f.sl]; exact hu
    have hwl := f.wl
    have hph : ph st u = phv 3 (sp st u) := by unfold ph; rw [h3]
    dsimp only [stp]
    rcases unlStep f u hu h3 now with ⟨hp, ts, e1⟩ | ⟨hp, hT, ts, e1⟩ | ⟨hp, hT, ts, e1⟩ | ⟨hp, ts, e1⟩
    · rcases c.looks u hu (.inr (.inl h3)) with ⟨hz, hv⟩ | ⟨v, hv, hvn, pv, hz⟩
      · rw [if_pos hz] at e1
        by_cases hp0 : sp st u = 0
        · right; left
          rw [if_pos hp0, hz] at e1
          rw [e1]
          refine ⟨rfl, rfl, I.of (c.turn u hu h3 1 0 (.inr (.inl ⟨rfl, rfl⟩))) _ f.sl (by simpa using f.pl) f.wl (fun _ _ _ => rfl) (fun _ _ _ => rfl) rfl (fun _ _ => rfl) (fun t _ => sp_set hpl _ _ t) (fun t _ => ot_set hpl _ _ t), ?_, fun v hv => by rw [ph_set hpl, if_neg hv]⟩
          rw [ph_set hpl, if_pos rfl, hph, hp0, h3]; exact (by decide : phv 3 1 < phv 3 0)
        · right; right
          rw [if_neg hp0, hz] at e1
          have hp2 : sp st u = 2 := by omega
          have ho : ot st u = 0 ∧ q ≠ [] := by
            rcases c.p3 u hu h3 with k | k | k | k
            · omega
            · omega
            · exact k.2
            · omega
          have hsame : st.pls.set u (2, 0) = st.pls := by
            have e : st.pls[u]'hpl = (2, 0) := by
              have h1 := hp2; have h2 := ho.1
              unfold sp at h1; unfold ot at h2
              rw [getD_lt _ _ _ hpl] at h1 h2
              exact Prod.ext h1 h2
            rw [← e]; exact List.set_getElem_self hpl
          rw [hsame] at e1
          rw [e1]
          refine ⟨rfl, rfl, f.ts _, fun _ => rfl, fun v _ hv => hw_ts n st ts v hv, ?_⟩
          rcases hv with hv | ⟨v, hv, hvn, sv, pv⟩
          · exact absurd hv ho.2
          · refine ⟨v, hvn, sv, ?_⟩
            have hvpl : v < st.pls.length := by rw [f.pl]; exact hvn
            have hvph : ph st v = phv 1 (sp st v) := by unfold ph; rw [sv]
            rcases lockStep f v hvn sv 0 with ⟨y, _⟩ | ⟨y, _⟩ | ⟨y, _⟩ | ⟨y, ts', e2⟩ | ⟨y, ts', e2⟩ | ⟨y, _⟩ | ⟨y, _⟩
            · omega
            · omega
            · omega
            · refine hw_of e2 (by decide) ?_
              rw [hvph, ph_set hvpl, if_pos rfl, sv, y]; exact (by decide : phv 1 3 < phv 1 2)
            · refine hw_of e2 (by decide) ?_
              rw [hvph, ph_set hvpl, if_pos rfl, sv, y]; exact (by decide : phv 1 4 < phv 1 3)
            · omega
            · omega
      · right; left
        rw [if_neg (by omega)] at e1
        rw [e1]
        refine ⟨rfl, rfl, I.of (c.turn u hu h3 3 (nx st (u + 1)) (.inr (.inr (.inr ⟨rfl, v, hv, pv, hz⟩)))) _ f.sl (by simpa using f.pl) f.wl (fun _ _ _ => rfl) (fun _ _ _ => rfl) rfl (fun _ _ => rfl) (fun t _ => sp_set hpl _ _ t) (fun t _ => ot_set hpl _ _ t), ?_, fun v hv => by rw [ph_set hpl, if_neg hv]⟩
        rw [ph_set hpl, if_pos rfl, hph, h3]
        rcases hp with hp | hp
        · rw [hp]; exact (by decide : phv 3 3 < phv 3 0)
        · rw [hp]; exact (by decide : phv 3 3 < phv 3 2)
    · left
      rw [e1]
      obtain ⟨rfl, c2⟩ := c.leave u hu h3 hT
      refine ⟨rfl, rfl, I.of c2 _ (by simpa using f.sl) (by simpa using f.pl) (by rw [Mem.put_len]; exact f.wl) ?_ ?_ ?_ (fun t _ => stt_up hl _ _ t) (fun t _ => sp_set hpl _ _ t) (fun t _ => ot_set hpl _ _ t), ?_, fun v hv => by rw [ph_set2 hpl hl, if_neg hv]⟩
      · intro x h _; exact nx_put0 hwl _ x h
      · intro x h _; exact lk_put0 hwl _ x h
      · exact t0_put0 hwl _
      · rw [ph_set2 hpl hl, if_pos rfl, hph, hp]; exact (by decide : phv 0 0 < phv 3 1)
    · right; left
      rw [e1]
      have hq : q ≠ [] := fun z => hT ((c.tail_is u hu (.inr (.inl h3))).2 z)
      have ho : ot st u = 0 := by
        rcases c.p3 u hu h3 with k | k | k | k
        · omega
        · exact k.2
        · omega
        · omega
      refine ⟨rfl, rfl, I.of (c.turn u hu h3 2 (ot st u) (.inr (.inr (.inl ⟨rfl, ho, hq⟩)))) _ f.sl (by simpa using f.pl) f.wl (fun _ _ _ => rfl) (fun _ _ _ => rfl) rfl (fun _ _ => rfl) (fun t _ => sp_set hpl _ _ t) (fun t _ => ot_set hpl _ _ t), ?_, fun v hv => by rw [ph_set hpl, if_neg hv]⟩
      rw [ph_set hpl, if_pos rfl, hph, hp, h3]; exact (by decide : phv 3 2 < phv 3 1)
    · left
      rw [e1]
      obtain ⟨⟨o1, o2⟩, c2⟩ := c.hand u hu h3 hp
      refine ⟨rfl, rfl, I.of c2 _ (by simpa using f.sl) (by simpa using f.pl) (by rw [Mem.put_len]; exact f.wl) ?_ ?_ ?_ (fun t _ => stt_up hl _ _ t) (fun t _ => sp_set hpl _ _ t) (fun t _ => ot_set hpl _ _ t), ?_, fun v hv => by rw [ph_set2 hpl hl, if_neg hv]⟩
      · intro x _ _; exact nx_put2 hwl _ _ o1 o2 x
      · intro x _ _; exact lk_put hwl _ _ o1 o2 x
      · exact t0_put hwl _ _ (by unfold nextA; omega) (by unfold nextA; omega)
      · rw [ph_set2 hpl hl, if_pos rfl, hph, hp]; exact (by decide : phv 0 0 < phv 3 3)
  prob := fun {st q h} f u hu h4 now => by
    have c := f.ci
    have hpl : u < st.pls.length := by rw [f.pl]; exact hu
    have hl : u < st.seats.length := by rw [f.sl]; exact hu
    have hs : state st.seats (u : Int) = 4 := by rw [state_nat]; exact h4
    have hp0 := c.p0 u hu (.inr (.inr h4))
    obtain ⟨ev, hev⟩ : ∃ ev : Int, (if rd n st.ws (u : Int) (nextA 0 ((u : Int) + 1)) = 0 then 4 else 5) = ev := ⟨_, rfl⟩
    have h45 : ev = 4 ∨ ev = 5 := by rw [← hev]; split; exact .inl rfl; exact .inr rfl
    have hn : Seat.next (stt st.seats u) ev = 2 := by rw [h4]; rcases h45 with rfl | rfl <;> rfl
    have e1 := step_end n st u now ev false { st with ts := Cache.after n st.ws.length st.ts u (nextA 0 (u + 1)) false } (by
      unfold midS
      rw [hs, if_neg (by omega), if_neg (by omega), if_pos rfl, hev]) (by
      show 0 ≤ Seat.next (stt st.seats u) ev
      rw [hn]; decide)
    dsimp only at e1
    rw [hn] at e1
    dsimp only [stp]
    rw [e1]
    refine ⟨by rcases h45 with rfl | rfl; exact .inl rfl; exact .inr rfl, rfl, ?_⟩
    have f2 := f.seat u hu 2 (-1) (.inr ⟨.inr h4, .inl rfl⟩)
    have c2 := f2.ci
    have hnq : (u : Int) ∉ q := fun hm => by have := (c.mem u hm).2.1; omega
    refine ⟨by simpa using f.sl, by simpa using f.pl, f.wl, ?_⟩
    refine (CI.other c2 u hnq ?_ 0).congr (fun _ _ _ => rfl) (fun _ _ _ => rfl) rfl (fun _ _ => rfl) (fun t ht => ?_) (fun t _ => ot_set hpl _ _ t) c.pr
    · show stt (st.seats.set u (2, -1)) u ≠ 3
      rw [stt_set st.seats u (2, -1) hl, if_pos rfl]; decide
    · rw [sp_set hpl]
      by_cases e : t = u
      · subst e; rw [up_eq]; exact hp0.symm
      · rw [up_ne e]; rfl
  call := fun {st q h} f u hu h0 => by
    have hl : u < st.seats.length := by rw [f.sl]; exact hu
    refine ⟨?_, fun v hv => ?_⟩
    · show phv (stt (st.seats.set u (1, -1)) u) (sp st u) < 10
      unfold phv
      (repeat' split) <;> omega
    · show phv (stt (st.seats.set u (1, -1)) v) (sp st v) = _
      rw [stt_set _ u (1, -1) hl, if_neg hv]; rfl
theorem stt0 (n t : Nat) : stt (List.replicate n ((0 : Int), (-1 : Int))) t = 0 := by
  unfold stt
  rcases Nat.lt_or_ge t n with h | h
  · rw [getD_lt _ _ _ (by simpa using h)]; simp
  · simp [List.getD, h]
theorem start (n : Nat) (n8 : n ≤ 8) : I n (st0 n ([] ++ [0] ++ List.replicate (2 * n) 0)) [] none := by
  have g0 : ∀ x, Mem.get ([] ++ [0] ++ List.replicate (2 * n) 0) x = 0 := fun x => by
    unfold Mem.get
    split
    · rw [show ([] ++ [0] ++ List.replicate (2 * n) (0 : Int)) = List.replicate (2 * n + 1) 0 by rw [List.replicate_succ]; rfl, List.getD, List.getElem?_replicate]
      split <;> rfl
    · rfl
  have gp : ∀ t, sp (st0 n ([] ++ [0] ++ List.replicate (2 * n) 0)) t = 0 := fun t => by
    show ((List.replicate n ((0 : Int), (0 : Int))).getD t (0, 0)).1 = _
    rw [List.getD, List.getElem?_replicate]; split <;> rfl
  have gs : ∀ t, stt (st0 n ([] ++ [0] ++ List.replicate (2 * n) 0)).seats t = 0 := stt0 n
  refine ⟨by simp [st0], by simp [st0], by simp [st0], n8, by simp, fun i hi => by simp at hi, fun i hi => by simp at hi, ?_, g0 0, fun z => absurd rfl z, ?_, fun t _ _ => gp t, ?_, ?_, ?_, (fun t ht => by cases ht), ?_⟩
  · intro t _ h; rw [gs] at h; omega
  · intro t _ h; rw [gs] at h; omega
  · intro t _ h; rw [gs] at h; omega
  · intro t _ h; rw [gs] at h; omega
  · intro t _ h; rw [gs] at h; omega
  · intro t _; rw [gs]; omega
end Go.Proofs.Ytemcpnickdcekaa.McsP
