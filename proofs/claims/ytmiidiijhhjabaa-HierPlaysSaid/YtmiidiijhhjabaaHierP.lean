/- The queue lock of queues keeps its rows. No program in sight but the steps' values. -/
import Derived.Test.YtmiidiijhhjabaaHierQ
import Derived.Test.YtmiidiijhhjabaaHier3
namespace Go.Proofs.Ytmiidiijhhjabaa.HierP
open Go Go.Proofs.Ytmiidiijhhjabaa.Heap Go.Proofs.Ytmiidiijhhjabaa.Seat Go.Proofs.Ytmiidiijhhjabaa.Mach Go.Proofs.Ytmiidiijhhjabaa.SeatP Go.Proofs.Ytmiidiijhhjabaa.StepU Go.Proofs.Ytmiidiijhhjabaa.Hier Go.Proofs.Ytmiidiijhhjabaa.HierQ Go.Proofs.Ytmiidiijhhjabaa.Has

abbrev fc (l : List P) : Nat → Int := fun t => (l.getD t p0).c
abbrev fn (l : List P) : Nat → Int := fun t => (l.getD t p0).n
abbrev fa (l : List P) : Nat → Int := fun t => (l.getD t p0).a
abbrev fl (l : List P) : Nat → Int := fun t => (l.getD t p0).l
abbrev fw (l : List P) : Nat → Int := fun t => (l.getD t p0).w
abbrev fs (l : List P) : Nat → Int := fun t => (l.getD t p0).s
abbrev fF (ws : List Int) : Int → Int := fun y => Mem.get ws (nodeA 0 y)
abbrev fK (ws : List Int) : Int → Int := fun c => Mem.get ws (ownA 0 c)
/-- What the invariant has beside the state. -/
structure G where
  lo : Nat → Int
  r : Nat → Int
  hu : Int → Int
  eu : Int → Int
  H : Int
  E : Int
  fr : Int
structure I (n : Nat) (hs : List Int) (st : St) (g : G) : Prop where
  sl : st.seats.length = n
  pl : st.pls.length = n
  wl : st.ws.length = n + 10
  hc : ∀ t, t < n → fc st.pls t = hs.getD t 0
  hi : HI n (fc st.pls) (fn st.pls) (fa st.pls) (fl st.pls) (fw st.pls) (fs st.pls) (stt st.seats) g.lo g.r (fF st.ws) (fK st.ws) g.hu g.eu (Mem.get st.ws 0) g.H g.E g.fr
theorem rd_in {n : Nat} {u : Nat} (hu : u < n) (ws : List Int) (a : Int) : rd n ws u a = Mem.get ws a := by unfold rd; rw [if_pos (by simp [Mem.inB]; omega)]
theorem wr_in {n : Nat} {u : Nat} (hu : u < n) (ws : List Int) (a v : Int) : wrt n ws u a v = Mem.put ws a v := by unfold wrt; rw [if_pos (by simp [Mem.inB]; omega)]
theorem get_put (ws : List Int) (a b v : Int) (h0 : 0 ≤ a) (h1 : a < ws.length) : Mem.get (Mem.put ws a v) b = if b = a then v else Mem.get ws b := by
  have ha : Mem.inB a ws.length = true := by simp [Mem.inB]; omega
  rw [Mem.put_in (k := a.toNat) (by omega) ha]
  by_cases e : b = a
  · subst e
    rw [if_pos rfl, Mem.get_in (k := b.toNat) (by omega) (by rw [List.length_set]; exact ha)]
    simp [List.getD, List.getElem?_set_self (show b.toNat < ws.length by omega)]
  · rw [if_neg e]
    unfold Mem.get
    rw [List.length_set]
    split
    · rename_i hb
      have hb : 0 ≤ b ∧ b < ws.length := by simpa [Mem.inB] using hb
      rw [List.getD, List.getElem?_set_ne (by omega)]; rfl
    · rfl
theorem pr_set (f : P → Int) (l : List P) (k : Nat) (hk : k < l.length) (y : P) : (fun t => f ((l.set k y).getD t p0)) = up (fun t => f (l.getD t p0)) k (f y) := by
  funext t
  rw [pl_set l k hk]
  unfold up
  split <;> rfl
theorem up_self (f : Nat → Int) (k : Nat) (v : Int) (h : f k = v) : up f k v = f := by
  funext t; unfold up; split
  · rename_i e; rw [e, h]
  · rfl
theorem stt_up (l : List (Int × Int)) (k : Nat) (hk : k < l.length) (a d : Int) : stt (l.set k (a, d)) = up (stt l) k a := by
  funext t; rw [stt_set l k (a, d) hk]; rfl
section
variable {ws : List Int} {n : Nat} (hw : ws.length = n + 10)
include hw
theorem F_node (y v : Int) (h1 : 1 ≤ y) (h2 : y ≤ n + 1) : fF (Mem.put ws (nodeA 0 y) v) = upI (fF ws) y v := by
  funext x
  show Mem.get (Mem.put ws (nodeA 0 y) v) (nodeA 0 x) = _
  rw [get_put _ _ _ _ (by unfold nodeA; omega) (by unfold nodeA; omega)]
  unfold upI nodeA
  by_cases e : x = y
  · rw [if_pos (by omega), if_pos e]
  · rw [if_neg (by omega), if_neg e]; rfl
theorem K_node (y v c : Int) (h1 : 1 ≤ y) (h2 : y ≤ n + 1) (c1 : c < 8) : fK (Mem.put ws (nodeA 0 y) v) c = fK ws c := by
  show Mem.get (Mem.put ws (nodeA 0 y) v) (ownA 0 c) = _
  rw [get_put _ _ _ _ (by unfold nodeA; omega) (by unfold nodeA; omega), if_neg (by unfold nodeA ownA; omega)]
theorem T_node (y v : Int) (h1 : 1 ≤ y) (h2 : y ≤ n + 1) : Mem.get (Mem.put ws (nodeA 0 y) v) 0 = Mem.get ws 0 := by
  rw [get_put _ _ _ _ (by unfold nodeA; omega) (by unfold nodeA; omega), if_neg (by unfold nodeA; omega)]
theorem K_own (d v : Int) (d0 : 0 ≤ d) (d1 : d < 8) : fK (Mem.put ws (ownA 0 d) v) = upI (fK ws) d v := by
  funext c
  show Mem.get (Mem.put ws (ownA 0 d) v) (ownA 0 c) = _
  rw [get_put _ _ _ _ (by unfold ownA; omega) (by unfold ownA; omega)]
  unfold upI ownA
  by_cases e : c = d
  · rw [if_pos (by omega), if_pos e]
  · rw [if_neg (by omega), if_neg e]; rfl
theorem F_own (d v y : Int) (d0 : 0 ≤ d) (d1 : d < 8) (h1 : 1 ≤ y) : fF (Mem.put ws (ownA 0 d) v) y = fF ws y := by
  show Mem.get (Mem.put ws (ownA 0 d) v) (nodeA 0 y) = _
  rw [get_put _ _ _ _ (by unfold ownA; omega) (by unfold ownA; omega), if_neg (by unfold nodeA ownA; omega)]
theorem T_own (d v : Int) (d0 : 0 ≤ d) (d1 : d < 8) : Mem.get (Mem.put ws (ownA 0 d) v) 0 = Mem.get ws 0 := by
  rw [get_put _ _ _ _ (by unfold ownA; omega) (by unfold ownA; omega), if_neg (by unfold ownA; omega)]
theorem F_tail (v y : Int) (h1 : 1 ≤ y) : fF (Mem.put ws 0 v) y = fF ws y := by
  show Mem.get (Mem.put ws 0 v) (nodeA 0 y) = _
  rw [get_put _ _ _ _ (by omega) (by omega), if_neg (by unfold nodeA; omega)]
theorem K_tail (v c : Int) (c0 : 0 ≤ c) : fK (Mem.put ws 0 v) c = fK ws c := by
  show Mem.get (Mem.put ws 0 v) (ownA 0 c) = _
  rw [get_put _ _ _ _ (by omega) (by omega), if_neg (by unfold ownA; omega)]
theorem T_tail (v : Int) : Mem.get (Mem.put ws 0 v) 0 = v := by
  rw [get_put _ _ _ _ (by omega) (by omega), if_pos rfl]
end
theorem cas_in {n u : Nat} (hu : u < n) {ws : List Int} (hw : ws.length = n + 10) (y o : Int) (h1 : 1 ≤ y) (h2 : y ≤ n + 1) (h : fF ws y = o) : (Mem.inB (u : Int) n && Mem.casB ws (nodeA 0 y) o) = true := by
  have a : Mem.inB (u : Int) n = true := by simp [Mem.inB]; omega
  have b : Mem.inB (nodeA 0 y) ws.length = true := by simp [Mem.inB]; unfold nodeA; omega
  have c : Mem.get ws (nodeA 0 y) = o := h
  unfold Mem.casB
  rw [a, b, c]; simp
/-- The places behind a set. -/
theorem fset (l : List P) (k : Nat) (hk : k < l.length) (y : P) (hc : y.c = (l.getD k p0).c) : fc (l.set k y) = fc l ∧ fn (l.set k y) = up (fn l) k y.n ∧ fa (l.set k y) = up (fa l) k y.a ∧ fl (l.set k y) = up (fl l) k y.l ∧ fw (l.set k y) = up (fw l) k y.w ∧ fs (l.set k y) = up (fs l) k y.s :=
  ⟨(pr_set P.c l k hk y).trans (up_self _ _ _ hc.symm), pr_set P.n l k hk y, pr_set P.a l k hk y, pr_set P.l l k hk y, pr_set P.w l k hk y, pr_set P.s l k hk y⟩
theorem I.ts {n : Nat} {hs : List Int} {st : St} {g : G} (f : I n hs st g) (y : List T) : I n hs { st with ts := y } g := ⟨f.sl, f.pl, f.wl, f.hc, f.hi⟩
theorem step_lock {n u : Nat} {st : St} (h1 : stt st.seats u = 1) (now : Int) : Hier.step n 0 st u u now = ((lockS n 0 st u u).1, { (lockS n 0 st u u).2 with seats := (fin st.seats u (lockS n 0 st u u).1.1).2 }) := by
  have hs : state st.seats (u : Int) = 1 := by rw [state_nat]; exact h1
  unfold Hier.step midS
  rw [if_pos hs, Int.toNat_natCast]
  dsimp only
  rw [(lockS_len st u (u : Int)).1]
theorem step_unl {n u : Nat} {st : St} (h1 : stt st.seats u = 3) (now : Int) : Hier.step n 0 st u u now = (((unlS n 0 st u u).1, false, false, false), { (unlS n 0 st u u).2 with seats := (fin st.seats u (unlS n 0 st u u).1).2 }) := by
  have hs : state st.seats (u : Int) = 3 := by rw [state_nat]; exact h1
  unfold Hier.step midS
  rw [if_neg (by rw [hs]; decide), if_pos hs, Int.toNat_natCast]
  dsimp only
  rw [(unlS_len st u (u : Int)).1]
theorem step_idle {n : Nat} {st : St} {t : Int} (h1 : state st.seats t ≠ 1) (h3 : state st.seats t ≠ 3) (a now : Int) : Hier.step n 0 st t a now = ((0, false, false, false), st) := by
  unfold Hier.step midS
  rw [if_neg h1, if_neg h3]
  simp only [fin_none]
/-- What a step of a context does: its Did, what turns in the ghost, and whether it came on. -/
inductive Wy where
  | stay | raise | queue | watch | grantF | last | splice | look | mark | grantL | un0 | release
def wayDid : Wy → Did
  | .queue => (0, true, false, false)
  | .splice => (0, false, true, false)
  | .grantF => (1, false, false, false)
  | .grantL => (1, false, false, true)
  | .release => (3, false, false, false)
  | _ => (0, false, false, false)
/-- Behind a way: seats' states, steps, where all stand. -/
structure Went (n : Nat) (st : St) (g : G) (u : Nat) (st' : St) (g' : G) (y : Wy) : Prop where
  cl : fc st'.pls = fc st.pls
  s : stt st'.seats = match y with | .grantF => up (stt st.seats) u 2 | .grantL => up (stt st.seats) u 2 | .release => up (stt st.seats) u 0 | _ => stt st.seats
  sp : fs st'.pls = match y with | .stay => fs st.pls | .raise => up (fs st.pls) u 1 | .queue => up (fs st.pls) u (if fK st.ws (fc st.pls u) = 0 then 3 else 2) | .watch => up (fs st.pls) u 3 | .grantF => up (fs st.pls) u 0 | .last => up (fs st.pls) u 4 | .splice => up (fs st.pls) u 5 | .look => up (fs st.pls) u 6 | .mark => up (fs st.pls) u 7 | .grantL => up (fs st.pls) u 0 | .un0 => up (fs st.pls) u 1 | .release => up (fs st.pls) u 0
  gh : match y with
    | .queue => g'.lo = up g.lo u 1 ∧ g'.r = up g.r u (g.eu (fc st.pls u))
    | .splice => g.lo u = 1 ∧ g.r u = g.hu (fc st.pls u) ∧ ∃ x, g.r u ≤ x ∧ g'.lo = loS (fc st.pls) g.lo g.r (fc st.pls u) x ∧ g'.r = rS (fc st.pls) g.lo g.r (fc st.pls u) x g.E (g.hu (fc st.pls u))
    | .release => g'.lo = up g.lo u 0 ∧ g'.r = g.r
    | _ => g' = g
  on : match y with
    | .stay => (stt st.seats u = 0 ∨ stt st.seats u = 2 ∨ stt st.seats u = 1 ∧ (fs st.pls u = 2 ∨ fs st.pls u = 7) ∧ (g.lo u = 2 → g.r u ≠ g.H))
    | .grantF => stt st.seats u = 1 ∧ g.lo u = 2 ∧ g.r u = g.H ∧ fs st.pls u = 2
    | .grantL => stt st.seats u = 1 ∧ g.lo u = 2 ∧ g.r u = g.H ∧ fs st.pls u = 7
    | .un0 => stt st.seats u = 3 ∧ fs st.pls u = 0
    | .release => stt st.seats u = 3 ∧ fs st.pls u = 1
    | .raise => stt st.seats u = 1 ∧ fs st.pls u = 0
    | .queue => stt st.seats u = 1 ∧ fs st.pls u = 1
    | .watch => stt st.seats u = 1 ∧ fs st.pls u = 2
    | .last => stt st.seats u = 1 ∧ fs st.pls u = 3
    | .splice => stt st.seats u = 1 ∧ fs st.pls u = 4
    | .look => stt st.seats u = 1 ∧ fs st.pls u = 5
    | .mark => stt st.seats u = 1 ∧ fs st.pls u = 6
/-- Each step goes one of these ways. -/
theorem stepW {n : Nat} {hs : List Int} {st : St} {g : G} (f : I n hs st g) (u : Nat) (hu : u < n) (now : Int) : ∃ st' g' y, Hier.step n 0 st u u now = (wayDid y, st') ∧ I n hs st' g' ∧ Went n st g u st' g' y := by
  have hpl : u < st.pls.length := by rw [f.pl]; exact hu
  have hsl : u < st.seats.length := by rw [f.sl]; exact hu
  have hi := f.hi
  have rg := hi.rg u hu
  have hcl := hi.clr u hu
  have hnd := hi.ndr u hu
  obtain ⟨x, hx⟩ : ∃ x, st.pls.getD u p0 = x := ⟨_, rfl⟩
  have xc : fc st.pls u = x.c := by rw [← hx]
  have xn : fn st.pls u = x.n := by rw [← hx]
  have xa : fa st.pls u = x.a := by rw [← hx]
  have xl : fl st.pls u = x.l := by rw [← hx]
  have xw : fw st.pls u = x.w := by rw [← hx]
  have xs : fs st.pls u = x.s := by rw [← hx]
  have none : ∀ {st' : St} {d : Did}, d.1 = 0 → lockS n 0 st u u = (d, st') → stt st.seats u = 1 → st'.seats = st.seats → Hier.step n 0 st u u now = (d, st') := fun {st' d} hd e h1 hs' => by
    rw [step_lock h1, e]
    dsimp only
    rw [hd, fin_none, ← hs']
  have got : ∀ {st' : St} {d : Did}, d.1 = 1 → lockS n 0 st u u = (d, st') → stt st.seats u = 1 → Hier.step n 0 st u u now = (d, { st' with seats := st.seats.set u (2, -1) }) := fun {st' d} hd e h1 => by
    rw [step_lock h1, e]
    dsimp only
    rw [hd, fin_eq _ _ _ (by rw [h1]; decide), h1]; rfl
  rcases (show stt st.seats u = 0 ∨ stt st.seats u = 2 ∨ stt st.seats u = 1 ∨ stt st.seats u = 3 by omega) with h0 | h0 | h0 | h0
  · refine ⟨st, g, .stay, step_idle (by rw [state_nat]; omega) (by rw [state_nat]; omega) _ _, f, rfl, rfl, rfl, rfl, .inl h0⟩
  · refine ⟨st, g, .stay, step_idle (by rw [state_nat]; omega) (by rw [state_nat]; omega) _ _, f, rfl, rfl, rfl, rfl, .inr (.inl h0)⟩
  · have k1 := hi.s1 u hu h0
    rw [xs] at k1
    rcases (show x.s = 0 ∨ x.s = 1 ∨ x.s = 2 ∨ x.s = 3 ∨ x.s = 4 ∨ x.s = 5 ∨ x.s = 6 ∨ x.s = 7 by omega) with e | e | e | e | e | e | e | e
    · -- raise
      have E : lockS n 0 st u u = ((0, false, false, false), { st with pls := st.pls.set u { x with s := 1 }, ws := Mem.put st.ws (nodeA 0 x.n) (x.c * 4 + 2), ts := Cache.after n st.ws.length st.ts u (nodeA 0 x.n) true }) := by
        unfold lockS; rw [hx]; dsimp only; rw [if_pos e, wr_in hu]
      obtain ⟨p1, p2, p3, p4, p5, p6⟩ := fset st.pls u hpl { x with s := 1 } (by rw [hx])
      rw [up_self _ _ _ xn] at p2
      rw [up_self _ _ _ xa] at p3
      rw [up_self _ _ _ xl] at p4
      rw [up_self _ _ _ xw] at p5
      have h' := hi.raise u hu h0 (by rw [xs]; exact e)
      rw [xn, xc] at h'
      rw [xn] at hnd
      refine ⟨_, g, .raise, none rfl E h0 rfl, ⟨f.sl, by simpa using f.pl, by rw [Mem.put_len]; exact f.wl, fun t ht => by show fc (st.pls.set u { x with s := 1 }) t = _; rw [p1]; exact f.hc t ht, ?_⟩, p1, rfl, p6, rfl, h0, by rw [xs]; exact e⟩
      show HI n (fc (st.pls.set u { x with s := 1 })) (fn (st.pls.set u { x with s := 1 })) (fa (st.pls.set u { x with s := 1 })) (fl (st.pls.set u { x with s := 1 })) (fw (st.pls.set u { x with s := 1 })) (fs (st.pls.set u { x with s := 1 })) (stt st.seats) g.lo g.r (fF (Mem.put st.ws (nodeA 0 x.n) (x.c * 4 + 2))) (fK (Mem.put st.ws (nodeA 0 x.n) (x.c * 4 + 2))) g.hu g.eu (Mem.get (Mem.put st.ws (nodeA 0 x.n) (x.c * 4 + 2)) 0) g.H g.E g.fr
      rw [p1, p2, p3, p4, p5, p6, F_node f.wl _ _ (by omega) (by omega), T_node f.wl _ _ (by omega) (by omega)]
      exact h'.congr (fun _ _ _ => rfl) (fun c _ c1 => K_node f.wl _ _ c (by omega) (by omega) c1)
    · -- queue
      have E : lockS n 0 st u u = ((0, true, false, false), { st with pls := st.pls.set u { x with a := Mem.get st.ws (ownA 0 x.c), s := if Mem.get st.ws (ownA 0 x.c) = 0 then 3 else 2 }, ws := Mem.put st.ws (ownA 0 x.c) x.n, ts := Cache.after n st.ws.length st.ts u (ownA 0 x.c) true }) := by
        unfold lockS; rw [hx]; dsimp only; rw [if_neg (by omega), if_pos e, wr_in hu, rd_in hu]
      obtain ⟨p1, p2, p3, p4, p5, p6⟩ := fset st.pls u hpl { x with a := Mem.get st.ws (ownA 0 x.c), s := if Mem.get st.ws (ownA 0 x.c) = 0 then 3 else 2 } (by rw [hx])
      rw [up_self _ _ _ xn] at p2
      rw [up_self _ _ _ xl] at p4
      rw [up_self _ _ _ xw] at p5
      have h' := hi.queue u hu h0 (by rw [xs]; exact e)
      rw [xn, xc] at h'
      rw [xc] at hcl
      refine ⟨_, ⟨up g.lo u 1, up g.r u (g.eu x.c), g.hu, upI g.eu x.c (g.eu x.c + 1), g.H, g.E, g.fr⟩, .queue, none rfl E h0 rfl, ⟨f.sl, by simpa using f.pl, by rw [Mem.put_len]; exact f.wl, fun t ht => by show fc (st.pls.set u { x with a := Mem.get st.ws (ownA 0 x.c), s := if Mem.get st.ws (ownA 0 x.c) = 0 then 3 else 2 }) t = _; rw [p1]; exact f.hc t ht, ?_⟩, p1, rfl, by rw [xc]; exact p6, ⟨rfl, by rw [xc]⟩, h0, by rw [xs]; exact e⟩
      show HI n (fc (st.pls.set u { x with a := Mem.get st.ws (ownA 0 x.c), s := if Mem.get st.ws (ownA 0 x.c) = 0 then 3 else 2 })) (fn (st.pls.set u { x with a := Mem.get st.ws (ownA 0 x.c), s := if Mem.get st.ws (ownA 0 x.c) = 0 then 3 else 2 })) (fa (st.pls.set u { x with a := Mem.get st.ws (ownA 0 x.c), s := if Mem.get st.ws (ownA 0 x.c) = 0 then 3 else 2 })) (fl (st.pls.set u { x with a := Mem.get st.ws (ownA 0 x.c), s := if Mem.get st.ws (ownA 0 x.c) = 0 then 3 else 2 })) (fw (st.pls.set u { x with a := Mem.get st.ws (ownA 0 x.c), s := if Mem.get st.ws (ownA 0 x.c) = 0 then 3 else 2 })) (fs (st.pls.set u { x with a := Mem.get st.ws (ownA 0 x.c), s := if Mem.get st.ws (ownA 0 x.c) = 0 then 3 else 2 })) (stt st.seats) _ _ (fF (Mem.put st.ws (ownA 0 x.c) x.n)) (fK (Mem.put st.ws (ownA 0 x.c) x.n)) _ _ (Mem.get (Mem.put st.ws (ownA 0 x.c) x.n) 0) _ _ _
      rw [p1, p2, p3, p4, p5, p6, K_own f.wl _ _ (by omega) (by omega), T_own f.wl _ _ (by omega) (by omega)]
      exact h'.congr (fun y y0 _ => F_own f.wl _ _ y (by omega) (by omega) y0) (fun _ _ _ => rfl)
    · -- watch
      by_cases hv : Mem.get st.ws (nodeA 0 x.a) / 4 ≠ x.c ∨ Mem.get st.ws (nodeA 0 x.a) % 2 = 1
      · have E : lockS n 0 st u u = ((0, false, false, false), { st with pls := st.pls.set u { x with s := 3 }, ts := Cache.after n st.ws.length st.ts u (nodeA 0 x.a) false }) := by
          unfold lockS; rw [hx]; dsimp only; rw [if_neg (by omega), if_neg (by omega), if_pos e, rd_in hu, if_pos hv]
        obtain ⟨p1, p2, p3, p4, p5, p6⟩ := fset st.pls u hpl { x with s := 3 } (by rw [hx])
        rw [up_self _ _ _ xn] at p2
        rw [up_self _ _ _ xa] at p3
        rw [up_self _ _ _ xl] at p4
        rw [up_self _ _ _ xw] at p5
        have h' := hi.watch3 u hu h0 (by rw [xs]; exact e) (by rw [xa, xc]; exact hv)
        refine ⟨_, g, .watch, none rfl E h0 rfl, ⟨f.sl, by simpa using f.pl, f.wl, fun t ht => by show fc (st.pls.set u { x with s := 3 }) t = _; rw [p1]; exact f.hc t ht, ?_⟩, p1, rfl, p6, rfl, h0, by rw [xs]; exact e⟩
        show HI n (fc (st.pls.set u { x with s := 3 })) (fn (st.pls.set u { x with s := 3 })) (fa (st.pls.set u { x with s := 3 })) (fl (st.pls.set u { x with s := 3 })) (fw (st.pls.set u { x with s := 3 })) (fs (st.pls.set u { x with s := 3 })) (stt st.seats) _ _ (fF st.ws) (fK st.ws) _ _ (Mem.get st.ws 0) _ _ _
        rw [p1, p2, p3, p4, p5, p6]
        exact h'
      · have hF : Mem.get st.ws (nodeA 0 x.a) / 4 = x.c := by omega
        have hS : Mem.get st.ws (nodeA 0 x.a) % 2 = 0 := by omega
        by_cases hW : Mem.get st.ws (nodeA 0 x.a) / 2 % 2 = 0
        · have E : lockS n 0 st u u = ((1, false, false, false), { st with pls := st.pls.set u { x with s := 0 }, ts := Cache.after n st.ws.length st.ts u (nodeA 0 x.a) false }) := by
            unfold lockS; rw [hx]; dsimp only; rw [if_neg (by omega), if_neg (by omega), if_pos e, rd_in hu, if_neg hv, if_pos hW]
          obtain ⟨p1, p2, p3, p4, p5, p6⟩ := fset st.pls u hpl { x with s := 0 } (by rw [hx])
          rw [up_self _ _ _ xn] at p2
          rw [up_self _ _ _ xa] at p3
          rw [up_self _ _ _ xl] at p4
          rw [up_self _ _ _ xw] at p5
          have hat := hi.grantF_at u hu h0 (by rw [xs]; exact e) (by rw [xa, xc]; exact hF) (by rw [xa]; exact hS) (by rw [xa]; exact hW)
          have h' := hi.grantF u hu h0 (by rw [xs]; exact e) (by rw [xa, xc]; exact hF) (by rw [xa]; exact hS) (by rw [xa]; exact hW)
          refine ⟨_, g, .grantF, got rfl E h0, ⟨by simpa using f.sl, by simpa using f.pl, f.wl, fun t ht => by show fc (st.pls.set u { x with s := 0 }) t = _; rw [p1]; exact f.hc t ht, ?_⟩, p1, stt_up _ _ hsl _ _, p6, rfl, h0, hat.1, hat.2, by rw [xs]; exact e⟩
          show HI n (fc (st.pls.set u { x with s := 0 })) (fn (st.pls.set u { x with s := 0 })) (fa (st.pls.set u { x with s := 0 })) (fl (st.pls.set u { x with s := 0 })) (fw (st.pls.set u { x with s := 0 })) (fs (st.pls.set u { x with s := 0 })) (stt (st.seats.set u (2, -1))) _ _ (fF st.ws) (fK st.ws) _ _ (Mem.get st.ws 0) _ _ _
          rw [p1, p2, p3, p4, p5, p6, stt_up _ _ hsl]
          exact h'
        · have E : lockS n 0 st u u = ((0, false, false, false), { st with ts := Cache.after n st.ws.length st.ts u (nodeA 0 x.a) false }) := by
            unfold lockS; rw [hx]; dsimp only; rw [if_neg (by omega), if_neg (by omega), if_pos e, rd_in hu, if_neg hv, if_neg hW]
          refine ⟨_, g, .stay, none rfl E h0 rfl, f.ts _, rfl, rfl, rfl, rfl, .inr (.inr ⟨h0, .inl (by rw [xs]; exact e), fun hl hr => hW ?_⟩)⟩
          have := hi.ch u hu hl hr
          rw [xa] at this
          rw [this]; exact hi.ff
    · -- last
      have E : lockS n 0 st u u = ((0, false, false, false), { st with pls := st.pls.set u { x with l := Mem.get st.ws (ownA 0 x.c), s := 4 }, ts := Cache.after n st.ws.length st.ts u (ownA 0 x.c) false }) := by
        unfold lockS; rw [hx]; dsimp only; rw [if_neg (by omega), if_neg (by omega), if_neg (by omega), if_pos e, rd_in hu]
      obtain ⟨p1, p2, p3, p4, p5, p6⟩ := fset st.pls u hpl { x with l := Mem.get st.ws (ownA 0 x.c), s := 4 } (by rw [hx])
      rw [up_self _ _ _ xn] at p2
      rw [up_self _ _ _ xa] at p3
      rw [up_self _ _ _ xw] at p5
      have h' := hi.last u hu h0 (by rw [xs]; exact e)
      rw [xc] at h'
      refine ⟨_, g, .last, none rfl E h0 rfl, ⟨f.sl, by simpa using f.pl, f.wl, fun t ht => by show fc (st.pls.set u { x with l := Mem.get st.ws (ownA 0 x.c), s := 4 }) t = _; rw [p1]; exact f.hc t ht, ?_⟩, p1, rfl, p6, rfl, h0, by rw [xs]; exact e⟩
      show HI n (fc (st.pls.set u { x with l := Mem.get st.ws (ownA 0 x.c), s := 4 })) (fn (st.pls.set u { x with l := Mem.get st.ws (ownA 0 x.c), s := 4 })) (fa (st.pls.set u { x with l := Mem.get st.ws (ownA 0 x.c), s := 4 })) (fl (st.pls.set u { x with l := Mem.get st.ws (ownA 0 x.c), s := 4 })) (fw (st.pls.set u { x with l := Mem.get st.ws (ownA 0 x.c), s := 4 })) (fs (st.pls.set u { x with l := Mem.get st.ws (ownA 0 x.c), s := 4 })) (stt st.seats) _ _ (fF st.ws) (fK st.ws) _ _ (Mem.get st.ws 0) _ _ _
      rw [p1, p2, p3, p4, p5, p6]
      exact h'
    · -- splice
      obtain ⟨m, m1, m2, m3, m4⟩ := hi.l4 u hu h0 (by rw [xs]; exact e)
      have hlo : g.lo u = 1 := by omega
      have hrh := hi.hd u hu hlo (by rw [xs]; omega)
      have E : lockS n 0 st u u = ((0, false, true, false), { st with pls := st.pls.set u { x with a := Mem.get st.ws 0, s := 5 }, ws := Mem.put st.ws 0 x.l, ts := Cache.after n st.ws.length st.ts u 0 true }) := by
        unfold lockS; rw [hx]; dsimp only; rw [if_neg (by omega), if_neg (by omega), if_neg (by omega), if_neg (by omega), if_pos e, wr_in hu, rd_in hu]
      obtain ⟨p1, p2, p3, p4, p5, p6⟩ := fset st.pls u hpl { x with a := Mem.get st.ws 0, s := 5 } (by rw [hx])
      rw [up_self _ _ _ xn] at p2
      rw [up_self _ _ _ xl] at p4
      rw [up_self _ _ _ xw] at p5
      have h' := hi.splice u hu h0 (by rw [xs]; exact e) m m1 m2 m3 m4
      rw [xl, xc] at h'
      refine ⟨_, ⟨loS (fc st.pls) g.lo g.r x.c (g.r m), rS (fc st.pls) g.lo g.r x.c (g.r m) g.E (g.hu x.c), upI g.hu x.c (g.r m + 1), g.eu, g.H, g.E + (g.r m - g.hu x.c) + 1, g.fr⟩, .splice, none rfl E h0 rfl, ⟨f.sl, by simpa using f.pl, by rw [Mem.put_len]; exact f.wl, fun t ht => by show fc (st.pls.set u { x with a := Mem.get st.ws 0, s := 5 }) t = _; rw [p1]; exact f.hc t ht, ?_⟩, p1, rfl, p6, ⟨hlo, hrh, g.r m, by have := hi.rU m m1 m2; rw [m3] at this; omega, by rw [xc], by rw [xc]⟩, h0, by rw [xs]; exact e⟩
      show HI n (fc (st.pls.set u { x with a := Mem.get st.ws 0, s := 5 })) (fn (st.pls.set u { x with a := Mem.get st.ws 0, s := 5 })) (fa (st.pls.set u { x with a := Mem.get st.ws 0, s := 5 })) (fl (st.pls.set u { x with a := Mem.get st.ws 0, s := 5 })) (fw (st.pls.set u { x with a := Mem.get st.ws 0, s := 5 })) (fs (st.pls.set u { x with a := Mem.get st.ws 0, s := 5 })) (stt st.seats) _ _ (fF (Mem.put st.ws 0 x.l)) (fK (Mem.put st.ws 0 x.l)) _ _ (Mem.get (Mem.put st.ws 0 x.l) 0) _ _ _
      rw [p1, p2, p3, p4, p5, p6, T_tail f.wl]
      exact h'.congr (fun y y0 _ => F_tail f.wl _ y y0) (fun c c0 _ => K_tail f.wl _ c c0)
    · -- look
      have E : lockS n 0 st u u = ((0, false, false, false), { st with pls := st.pls.set u { x with w := Mem.get st.ws (nodeA 0 x.l), s := 6 }, ts := Cache.after n st.ws.length st.ts u (nodeA 0 x.l) false }) := by
        unfold lockS; rw [hx]; dsimp only; rw [if_neg (by omega), if_neg (by omega), if_neg (by omega), if_neg (by omega), if_neg (by omega), if_pos e, rd_in hu]
      obtain ⟨p1, p2, p3, p4, p5, p6⟩ := fset st.pls u hpl { x with w := Mem.get st.ws (nodeA 0 x.l), s := 6 } (by rw [hx])
      rw [up_self _ _ _ xn] at p2
      rw [up_self _ _ _ xa] at p3
      rw [up_self _ _ _ xl] at p4
      have h' := hi.look u hu h0 (by rw [xs]; exact e)
      rw [xl] at h'
      refine ⟨_, g, .look, none rfl E h0 rfl, ⟨f.sl, by simpa using f.pl, f.wl, fun t ht => by show fc (st.pls.set u { x with w := Mem.get st.ws (nodeA 0 x.l), s := 6 }) t = _; rw [p1]; exact f.hc t ht, ?_⟩, p1, rfl, p6, rfl, h0, by rw [xs]; exact e⟩
      show HI n (fc (st.pls.set u { x with w := Mem.get st.ws (nodeA 0 x.l), s := 6 })) (fn (st.pls.set u { x with w := Mem.get st.ws (nodeA 0 x.l), s := 6 })) (fa (st.pls.set u { x with w := Mem.get st.ws (nodeA 0 x.l), s := 6 })) (fl (st.pls.set u { x with w := Mem.get st.ws (nodeA 0 x.l), s := 6 })) (fw (st.pls.set u { x with w := Mem.get st.ws (nodeA 0 x.l), s := 6 })) (fs (st.pls.set u { x with w := Mem.get st.ws (nodeA 0 x.l), s := 6 })) (stt st.seats) _ _ (fF st.ws) (fK st.ws) _ _ (Mem.get st.ws 0) _ _ _
      rw [p1, p2, p3, p4, p5, p6]
      exact h'
    · -- mark
      have hld : Ld (stt st.seats) (fs st.pls) u := ⟨h0, .inr (by rw [xs]; exact e)⟩
      obtain ⟨m, m1, _, _, _, m5, _⟩ := hi.l5 u hu hld
      have hml := hi.ndr m m1
      rw [← m5, xl] at hml
      have h6 := hi.l6 u hu h0 (by rw [xs]; exact e)
      rw [xw, xl] at h6
      have hcas : (Mem.inB (u : Int) n && Mem.casB st.ws (nodeA 0 x.l) x.w) = true := cas_in hu f.wl x.l x.w (by omega) (by omega) h6.symm
      have E : lockS n 0 st u u = ((0, false, false, false), { st with pls := st.pls.set u { x with s := 7 }, ws := Mem.put st.ws (nodeA 0 x.l) (x.w + 1 - x.w % 2), ts := Cache.after n st.ws.length st.ts u (nodeA 0 x.l) true }) := by
        unfold lockS; rw [hx]; dsimp only; rw [if_neg (by omega), if_neg (by omega), if_neg (by omega), if_neg (by omega), if_neg (by omega), if_neg (by omega), if_pos e, if_pos hcas]
      obtain ⟨p1, p2, p3, p4, p5, p6⟩ := fset st.pls u hpl { x with s := 7 } (by rw [hx])
      rw [up_self _ _ _ xn] at p2
      rw [up_self _ _ _ xa] at p3
      rw [up_self _ _ _ xl] at p4
      rw [up_self _ _ _ xw] at p5
      have h' := hi.mark u hu h0 (by rw [xs]; exact e)
      rw [xl, xw] at h'
      refine ⟨_, g, .mark, none rfl E h0 rfl, ⟨f.sl, by simpa using f.pl, by rw [Mem.put_len]; exact f.wl, fun t ht => by show fc (st.pls.set u { x with s := 7 }) t = _; rw [p1]; exact f.hc t ht, ?_⟩, p1, rfl, p6, rfl, h0, by rw [xs]; exact e⟩
      show HI n (fc (st.pls.set u { x with s := 7 })) (fn (st.pls.set u { x with s := 7 })) (fa (st.pls.set u { x with s := 7 })) (fl (st.pls.set u { x with s := 7 })) (fw (st.pls.set u { x with s := 7 })) (fs (st.pls.set u { x with s := 7 })) (stt st.seats) _ _ (fF (Mem.put st.ws (nodeA 0 x.l) (x.w + 1 - x.w % 2))) (fK (Mem.put st.ws (nodeA 0 x.l) (x.w + 1 - x.w % 2))) _ _ (Mem.get (Mem.put st.ws (nodeA 0 x.l) (x.w + 1 - x.w % 2)) 0) _ _ _
      rw [p1, p2, p3, p4, p5, p6, F_node f.wl _ _ (by omega) (by omega), T_node f.wl _ _ (by omega) (by omega)]
      exact h'.congr (fun _ _ _ => rfl) (fun c _ c1 => K_node f.wl _ _ c (by omega) (by omega) c1)
    · -- wait
      by_cases hW : Mem.get st.ws (nodeA 0 x.a) / 2 % 2 = 0
      · have E : lockS n 0 st u u = ((1, false, false, true), { st with pls := st.pls.set u { x with s := 0 }, ts := Cache.after n st.ws.length st.ts u (nodeA 0 x.a) false }) := by
          unfold lockS; rw [hx]; dsimp only; rw [if_neg (by omega), if_neg (by omega), if_neg (by omega), if_neg (by omega), if_neg (by omega), if_neg (by omega), if_neg (by omega), rd_in hu, if_pos hW]
        obtain ⟨p1, p2, p3, p4, p5, p6⟩ := fset st.pls u hpl { x with s := 0 } (by rw [hx])
        rw [up_self _ _ _ xn] at p2
        rw [up_self _ _ _ xa] at p3
        rw [up_self _ _ _ xl] at p4
        rw [up_self _ _ _ xw] at p5
        have hat := hi.grantL_at u hu h0 (by rw [xs]; exact e) (by rw [xa]; exact hW)
        have h' := hi.grantL u hu h0 (by rw [xs]; exact e) (by rw [xa]; exact hW)
        refine ⟨_, g, .grantL, got rfl E h0, ⟨by simpa using f.sl, by simpa using f.pl, f.wl, fun t ht => by show fc (st.pls.set u { x with s := 0 }) t = _; rw [p1]; exact f.hc t ht, ?_⟩, p1, stt_up _ _ hsl _ _, p6, rfl, h0, hat.1, hat.2, by rw [xs]; exact e⟩
        show HI n (fc (st.pls.set u { x with s := 0 })) (fn (st.pls.set u { x with s := 0 })) (fa (st.pls.set u { x with s := 0 })) (fl (st.pls.set u { x with s := 0 })) (fw (st.pls.set u { x with s := 0 })) (fs (st.pls.set u { x with s := 0 })) (stt (st.seats.set u (2, -1))) _ _ (fF st.ws) (fK st.ws) _ _ (Mem.get st.ws 0) _ _ _
        rw [p1, p2, p3, p4, p5, p6, stt_up _ _ hsl]
        exact h'
      · have E : lockS n 0 st u u = ((0, false, false, false), { st with ts := Cache.after n st.ws.length st.ts u (nodeA 0 x.a) false }) := by
          unfold lockS; rw [hx]; dsimp only; rw [if_neg (by omega), if_neg (by omega), if_neg (by omega), if_neg (by omega), if_neg (by omega), if_neg (by omega), if_neg (by omega), rd_in hu, if_neg hW]
        refine ⟨_, g, .stay, none rfl E h0 rfl, f.ts _, rfl, rfl, rfl, rfl, .inr (.inr ⟨h0, .inr (by rw [xs]; exact e), fun hl hr => hW ?_⟩)⟩
        have := hi.ch u hu hl hr
        rw [xa] at this
        rw [this]; exact hi.ff
  · have k3 := (hi.s3 u hu h0).2.2
    rw [xs] at k3
    have unone : ∀ {st' : St} {d : Int}, d = 0 → unlS n 0 st u u = (d, st') → stt st.seats u = 3 → Hier.step n 0 st u u now = ((d, false, false, false), { st' with seats := st.seats }) := fun {st' d} hd e h1 => by
      rw [step_unl h1, e]
      dsimp only
      rw [hd, fin_none]
    have ugot : ∀ {st' : St} {d : Int}, d = 3 → unlS n 0 st u u = (d, st') → stt st.seats u = 3 → Hier.step n 0 st u u now = ((d, false, false, false), { st' with seats := st.seats.set u (0, -1) }) := fun {st' d} hd e h1 => by
      rw [step_unl h1, e]
      dsimp only
      rw [hd, fin_eq _ _ _ (by rw [h1]; decide), h1]; rfl
    rcases (show x.s = 0 ∨ x.s = 1 by omega) with e | e
    · have E : unlS n 0 st u u = (0, { st with pls := st.pls.set u { x with w := Mem.get st.ws (nodeA 0 x.n), s := 1 }, ts := Cache.after n st.ws.length st.ts u (nodeA 0 x.n) false }) := by
        unfold unlS; rw [hx]; dsimp only; rw [if_pos e, rd_in hu]
      obtain ⟨p1, p2, p3, p4, p5, p6⟩ := fset st.pls u hpl { x with w := Mem.get st.ws (nodeA 0 x.n), s := 1 } (by rw [hx])
      rw [up_self _ _ _ xn] at p2
      rw [up_self _ _ _ xa] at p3
      rw [up_self _ _ _ xl] at p4
      have h' := hi.un0 u hu h0
      rw [xn] at h'
      refine ⟨_, g, .un0, unone rfl E h0, ⟨f.sl, by simpa using f.pl, f.wl, fun t ht => by show fc (st.pls.set u { x with w := Mem.get st.ws (nodeA 0 x.n), s := 1 }) t = _; rw [p1]; exact f.hc t ht, ?_⟩, p1, rfl, p6, rfl, h0, by rw [xs]; exact e⟩
      show HI n (fc (st.pls.set u { x with w := Mem.get st.ws (nodeA 0 x.n), s := 1 })) (fn (st.pls.set u { x with w := Mem.get st.ws (nodeA 0 x.n), s := 1 })) (fa (st.pls.set u { x with w := Mem.get st.ws (nodeA 0 x.n), s := 1 })) (fl (st.pls.set u { x with w := Mem.get st.ws (nodeA 0 x.n), s := 1 })) (fw (st.pls.set u { x with w := Mem.get st.ws (nodeA 0 x.n), s := 1 })) (fs (st.pls.set u { x with w := Mem.get st.ws (nodeA 0 x.n), s := 1 })) (stt st.seats) _ _ (fF st.ws) (fK st.ws) _ _ (Mem.get st.ws 0) _ _ _
      rw [p1, p2, p3, p4, p5, p6]
      exact h'
    · have h6 : x.w = fF st.ws x.n := by rcases k3 with e' | ⟨_, e'⟩; omega; rw [xw, xn] at e'; exact e'
      rw [xn] at hnd
      have hcas : (Mem.inB (u : Int) n && Mem.casB st.ws (nodeA 0 x.n) x.w) = true := cas_in hu f.wl x.n x.w (by omega) (by omega) h6.symm
      have E : unlS n 0 st u u = (3, { st with pls := st.pls.set u { x with n := x.a, s := 0 }, ws := Mem.put st.ws (nodeA 0 x.n) (x.w - 2 * (x.w / 2 % 2)), ts := Cache.after n st.ws.length st.ts u (nodeA 0 x.n) true }) := by
        unfold unlS; rw [hx]; dsimp only; rw [if_neg (by omega), if_pos hcas]
      obtain ⟨p1, p2, p3, p4, p5, p6⟩ := fset st.pls u hpl { x with n := x.a, s := 0 } (by rw [hx])
      rw [up_self _ _ _ xa] at p3
      rw [up_self _ _ _ xl] at p4
      rw [up_self _ _ _ xw] at p5
      have h' := hi.release u hu h0 (by rw [xs]; exact e)
      rw [xn, xw, xa] at h'
      refine ⟨_, ⟨up g.lo u 0, g.r, g.hu, g.eu, g.H + 1, g.E, x.n⟩, .release, ugot rfl E h0, ⟨by simpa using f.sl, by simpa using f.pl, by rw [Mem.put_len]; exact f.wl, fun t ht => by show fc (st.pls.set u { x with n := x.a, s := 0 }) t = _; rw [p1]; exact f.hc t ht, ?_⟩, p1, stt_up _ _ hsl _ _, p6, ⟨rfl, rfl⟩, h0, by rw [xs]; exact e⟩
      show HI n (fc (st.pls.set u { x with n := x.a, s := 0 })) (fn (st.pls.set u { x with n := x.a, s := 0 })) (fa (st.pls.set u { x with n := x.a, s := 0 })) (fl (st.pls.set u { x with n := x.a, s := 0 })) (fw (st.pls.set u { x with n := x.a, s := 0 })) (fs (st.pls.set u { x with n := x.a, s := 0 })) (stt (st.seats.set u (0, -1))) _ _ (fF (Mem.put st.ws (nodeA 0 x.n) (x.w - 2 * (x.w / 2 % 2)))) (fK (Mem.put st.ws (nodeA 0 x.n) (x.w - 2 * (x.w / 2 % 2)))) _ _ (Mem.get (Mem.put st.ws (nodeA 0 x.n) (x.w - 2 * (x.w / 2 % 2))) 0) _ _ _
      rw [p1, p2, p3, p4, p5, p6, F_node f.wl _ _ (by omega) (by omega), T_node f.wl _ _ (by omega) (by omega), stt_up _ _ hsl]
      exact h'.congr (fun _ _ _ => rfl) (fun c _ c1 => K_node f.wl _ _ c (by omega) (by omega) c1)
end Go.Proofs.Ytmiidiijhhjabaa.HierP
