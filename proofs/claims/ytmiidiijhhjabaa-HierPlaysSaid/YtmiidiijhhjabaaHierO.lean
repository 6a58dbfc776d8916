/- The queue lock of queues: who leads, and each cluster's queue, in order. No program in sight. -/
import Derived.Test.YtmiidiijhhjabaaHierP
namespace Go.Proofs.Ytmiidiijhhjabaa.HierO
open Go Go.Proofs.Ytmiidiijhhjabaa.Heap Go.Proofs.Ytmiidiijhhjabaa.Seat Go.Proofs.Ytmiidiijhhjabaa.Mach Go.Proofs.Ytmiidiijhhjabaa.SeatP Go.Proofs.Ytmiidiijhhjabaa.Hier Go.Proofs.Ytmiidiijhhjabaa.HierQ Go.Proofs.Ytmiidiijhhjabaa.HierP

/-- Who arrived and leads not yet, in that order. -/
structure LI (n : Nat) (st : St) (g : G) (row : List Nat) : Prop where
  nd : row.Nodup
  pw : row.Pairwise (fun a b => g.r a < g.r b)
  mem : ∀ t : Nat, t ∈ row ↔ t < n ∧ stt st.seats t = 1 ∧ g.lo t = 2 ∧ 5 ≤ fs st.pls t
def rowOf (y : Wy) (u : Nat) (row : List Nat) : List Nat := match y with | .splice => row ++ [u] | .grantL => row.tail | _ => row
theorem LI.congr {n : Nat} {st st' : St} {g g' : G} {row : List Nat} (h : LI n st g row) (hm : ∀ t, t < n → (stt st'.seats t = 1 ∧ g'.lo t = 2 ∧ 5 ≤ fs st'.pls t ↔ stt st.seats t = 1 ∧ g.lo t = 2 ∧ 5 ≤ fs st.pls t)) (hr : ∀ t, t < n → g.lo t = 2 → g'.r t = g.r t) : LI n st' g' row := by
  refine ⟨h.nd, h.pw.imp_of_mem fun {a b} ha hb e => ?_, fun t => ?_⟩
  · obtain ⟨a1, _, a2, _⟩ := (h.mem a).1 ha
    obtain ⟨b1, _, b2, _⟩ := (h.mem b).1 hb
    rw [hr a a1 a2, hr b b1 b2]; exact e
  · rw [h.mem t]
    exact and_congr_right fun ht => (hm t ht).symm
theorem LI.head {n : Nat} {st : St} {hs : List Int} {g : G} {row : List Nat} (h : LI n st g row) (f : I n hs st g) {u : Nat} (hu : u < n) (h1 : stt st.seats u = 1) (h2 : g.lo u = 2) (h3 : 5 ≤ fs st.pls u) (hr : g.r u = g.H) : ∃ r, row = u :: r := by
  have hm := (h.mem u).2 ⟨hu, h1, h2, h3⟩
  cases row with
  | nil => cases hm
  | cons x r =>
    rcases List.mem_cons.1 hm with e | e
    · exact ⟨r, by rw [e]⟩
    · have hx := List.rel_of_pairwise_cons h.pw e
      obtain ⟨a1, _, a2, _⟩ := (h.mem x).1 (List.mem_cons_self ..)
      have := f.hi.rO x a1 a2
      omega
theorem LI.step {n : Nat} {hs : List Int} {st st' : St} {g g' : G} {u : Nat} {y : Wy} {row : List Nat} (h : LI n st g row) (f : I n hs st g) (hu : u < n) (w : Went n st g u st' g' y) : (y = .grantL → ∃ r, row = u :: r) ∧ LI n st' g' (rowOf y u row) := by
  have ws := w.s; have wp := w.sp; have wg := w.gh; have wo := w.on
  have hk : ∀ t, t < n → stt st.seats t = 1 → g.lo t = 2 → fs st.pls t = 2 ∨ 5 ≤ fs st.pls t := fun t ht a b => (f.hi.s1 t ht a).2.2.2.2 b
  cases y with
  | stay =>
    dsimp only at ws wp wg wo
    exact ⟨(fun e => by cases e), h.congr (fun t _ => by rw [ws, wp, wg]) (fun t _ _ => by rw [wg])⟩
  | raise =>
    dsimp only at ws wp wg wo
    exact ⟨(fun e => by cases e), h.congr (fun t ht => by have := f.hi.s1 u hu wo.1; rw [ws, wp, wg]; simp only [up]; split <;> grind) (fun t _ _ => by rw [wg])⟩
  | queue =>
    dsimp only at ws wp wg wo
    have k := f.hi.s1 u hu wo.1
    refine ⟨(fun e => by cases e), h.congr (fun t ht => ?_) (fun t _ e => ?_)⟩
    · rw [ws, wp, wg.1]
      by_cases e : t = u
      · subst e; rw [up_eq, up_eq]; grind
      · rw [up_ne _ _ e, up_ne _ _ e]
    · rw [wg.2, up_ne _ _ (fun e2 => by subst e2; grind)]
  | watch =>
    dsimp only at ws wp wg wo
    exact ⟨(fun e => by cases e), h.congr (fun t ht => by have := f.hi.s1 u hu wo.1; have := f.hi.rg u hu; rw [ws, wp, wg]; simp only [up]; split <;> grind) (fun t _ _ => by rw [wg])⟩
  | grantF =>
    dsimp only at ws wp wg wo
    exact ⟨(fun e => by cases e), h.congr (fun t ht => by rw [ws, wp, wg]; simp only [up]; split <;> grind) (fun t _ _ => by rw [wg])⟩
  | last =>
    dsimp only at ws wp wg wo
    exact ⟨(fun e => by cases e), h.congr (fun t ht => by have := f.hi.s1 u hu wo.1; rw [ws, wp, wg]; simp only [up]; split <;> grind) (fun t _ _ => by rw [wg])⟩
  | splice =>
    dsimp only at ws wp wg wo
    obtain ⟨hl, hh, x, hx, e1, e2⟩ := wg
    have gu : Go (fc st.pls) g.lo g.r (fc st.pls u) x u := ⟨hl, rfl, hx⟩
    have hnm : u ∉ row := fun e => by have := (h.mem u).1 e; omega
    refine ⟨(fun e => by cases e), List.nodup_append.2 ⟨h.nd, by simp, fun a ha b hb => by simp at hb; subst hb; exact fun e => hnm (e ▸ ha)⟩, List.pairwise_append.2 ⟨h.pw.imp_of_mem fun {a b} ha hb e => ?_, by simp, fun a ha b hb => ?_⟩, fun t => ?_⟩
    · obtain ⟨_, _, a2, _⟩ := (h.mem a).1 ha
      obtain ⟨_, _, b2, _⟩ := (h.mem b).1 hb
      rw [e2, rS_no (go_no2 a2), rS_no (go_no2 b2)]; exact e
    · simp at hb; subst hb
      obtain ⟨a1, _, a2, _⟩ := (h.mem a).1 ha
      have := f.hi.rO a a1 a2
      rw [e2, rS_no (go_no2 a2), rS_go gu, hh]; omega
    · show t ∈ row ++ [u] ↔ _
      rw [List.mem_append, List.mem_singleton, h.mem t, ws, wp, e1, loS2]
      by_cases e : t = u
      · subst e; rw [up_eq]; exact ⟨fun _ => ⟨hu, wo.1, .inl gu, by omega⟩, fun _ => .inr rfl⟩
      · rw [up_ne _ _ e]
        constructor
        · rintro (⟨a, b, c, d⟩ | a)
          · exact ⟨a, b, .inr c, d⟩
          · exact absurd a e
        · rintro ⟨a, b, c | c, d⟩
          · exfalso
            have := f.hi.s1 t a b
            have := this.2.2.2.1 c.1
            omega
          · exact .inl ⟨a, b, c, d⟩
  | look =>
    dsimp only at ws wp wg wo
    exact ⟨(fun e => by cases e), h.congr (fun t ht => by rw [ws, wp, wg]; simp only [up]; split <;> grind) (fun t _ _ => by rw [wg])⟩
  | mark =>
    dsimp only at ws wp wg wo
    exact ⟨(fun e => by cases e), h.congr (fun t ht => by rw [ws, wp, wg]; simp only [up]; split <;> grind) (fun t _ _ => by rw [wg])⟩
  | grantL =>
    dsimp only at ws wp wg wo
    obtain ⟨o1, o2, o3, o4⟩ := wo
    obtain ⟨r, hr⟩ := h.head f hu o1 o2 (by omega) o3
    subst hr
    have hnm := (List.nodup_cons.1 h.nd).1
    refine ⟨fun _ => ⟨r, rfl⟩, (List.nodup_cons.1 h.nd).2, ?_, fun t => ?_⟩
    · show r.Pairwise _
      rw [wg]; exact (List.pairwise_cons.1 h.pw).2
    · show t ∈ r ↔ _
      have hm := h.mem t
      rw [List.mem_cons] at hm
      rw [ws, wp, wg]
      by_cases e : t = u
      · subst e; rw [up_eq]
        exact ⟨fun a => absurd a hnm, fun a => by omega⟩
      · rw [up_ne _ _ e, up_ne _ _ e, ← hm]
        exact ⟨fun a => .inr a, fun a => a.resolve_left e⟩
  | un0 =>
    dsimp only at ws wp wg wo
    exact ⟨(fun e => by cases e), h.congr (fun t ht => by rw [ws, wp, wg]; simp only [up]; split <;> grind) (fun t _ _ => by rw [wg])⟩
  | release =>
    dsimp only at ws wp wg wo
    refine ⟨(fun e => by cases e), h.congr (fun t ht => ?_) (fun t _ _ => by rw [wg.2])⟩
    rw [ws, wp, wg.1]
    by_cases e : t = u
    · subst e; rw [up_eq, up_eq, up_eq]; omega
    · rw [up_ne _ _ e, up_ne _ _ e, up_ne _ _ e]
/-- Ahead in a cluster's queue. -/
def Bf (lo r : Nat → Int) (a b : Nat) : Prop := (lo a = 2 ∧ lo b = 1) ∨ (lo a = lo b ∧ r a < r b)
/-- Of each cluster who queued and has not been granted the lock, in that order. -/
structure OI (n : Nat) (st : St) (g : G) (Q : Int → List Nat) : Prop where
  nd : ∀ c, (Q c).Nodup
  pw : ∀ c, (Q c).Pairwise (Bf g.lo g.r)
  mem : ∀ c, ∀ t : Nat, t ∈ Q c ↔ t < n ∧ stt st.seats t = 1 ∧ g.lo t ≠ 0 ∧ fc st.pls t = c
def upQ (Q : Int → List Nat) (c : Int) (l : List Nat) : Int → List Nat := fun d => if d = c then l else Q d
def quOf (y : Wy) (u : Nat) (c : Int) (Q : Int → List Nat) : Int → List Nat := match y with | .queue => upQ Q c (Q c ++ [u]) | .grantF => upQ Q c (Q c).tail | .grantL => upQ Q c (Q c).tail | _ => Q
theorem OI.congr {n : Nat} {st st' : St} {g g' : G} {Q : Int → List Nat} (h : OI n st g Q) (hc : fc st'.pls = fc st.pls) (hm : ∀ t, t < n → (stt st'.seats t = 1 ∧ g'.lo t ≠ 0 ↔ stt st.seats t = 1 ∧ g.lo t ≠ 0)) (hr : ∀ a b, a < n → b < n → stt st.seats a = 1 → stt st.seats b = 1 → g.lo a ≠ 0 → g.lo b ≠ 0 → fc st.pls a = fc st.pls b → Bf g.lo g.r a b → Bf g'.lo g'.r a b) : OI n st' g' Q := by
  refine ⟨h.nd, fun c => (h.pw c).imp_of_mem fun {a b} ha hb e => ?_, fun c t => ?_⟩
  · obtain ⟨a1, a2, a3, a4⟩ := (h.mem c a).1 ha
    obtain ⟨b1, b2, b3, b4⟩ := (h.mem c b).1 hb
    exact hr a b a1 b1 a2 b2 a3 b3 (a4.trans b4.symm) e
  · rw [h.mem c t, hc]
    constructor
    · rintro ⟨a, b, c, d⟩
      obtain ⟨e1, e2⟩ := (hm t a).2 ⟨b, c⟩
      exact ⟨a, e1, e2, d⟩
    · rintro ⟨a, b, c, d⟩
      obtain ⟨e1, e2⟩ := (hm t a).1 ⟨b, c⟩
      exact ⟨a, e1, e2, d⟩
theorem OI.head {n : Nat} {st : St} {hs : List Int} {g : G} {Q : Int → List Nat} (h : OI n st g Q) (f : I n hs st g) {u : Nat} (hu : u < n) (h1 : stt st.seats u = 1) (h2 : g.lo u = 2) (hr : g.r u = g.H) : ∃ r, Q (fc st.pls u) = u :: r := by
  have hm := (h.mem (fc st.pls u) u).2 ⟨hu, h1, by omega, rfl⟩
  have pw := h.pw (fc st.pls u)
  have mm := h.mem (fc st.pls u)
  revert hm pw mm
  generalize Q (fc st.pls u) = q
  intro hm pw mm
  cases q with
  | nil => cases hm
  | cons x r =>
    rcases List.mem_cons.1 hm with e | e
    · exact ⟨r, by rw [e]⟩
    · have hx := List.rel_of_pairwise_cons pw e
      obtain ⟨a1, _, a2, _⟩ := (mm x).1 (List.mem_cons_self ..)
      rcases hx with hx | hx
      · omega
      · have := f.hi.rO x a1 (by omega)
        omega
theorem OI.pop {n : Nat} {st st' : St} {hs : List Int} {g : G} {Q : Int → List Nat} {u : Nat} (h : OI n st g Q) (f : I n hs st g) (hu : u < n) (h1 : stt st.seats u = 1) (h2 : g.lo u = 2) (hr : g.r u = g.H) (hc : fc st'.pls = fc st.pls) (hs' : stt st'.seats = up (stt st.seats) u 2) : OI n st' g (upQ Q (fc st.pls u) (Q (fc st.pls u)).tail) := by
  obtain ⟨r, e⟩ := h.head f hu h1 h2 hr
  have nd0 := h.nd (fc st.pls u)
  have pw0 := h.pw (fc st.pls u)
  rw [e] at nd0 pw0
  have hnm := (List.nodup_cons.1 nd0).1
  refine ⟨fun c => ?_, fun c => ?_, fun c t => ?_⟩
  · unfold upQ
    split
    · rw [e]; exact (List.nodup_cons.1 nd0).2
    · exact h.nd c
  · unfold upQ
    split
    · rw [e]; exact (List.pairwise_cons.1 pw0).2
    · exact h.pw c
  · rw [hc, hs']
    have hm := h.mem c t
    unfold upQ
    split
    · rename_i ec
      subst ec
      rw [e, List.mem_cons] at hm
      rw [e]
      show t ∈ r ↔ _
      by_cases et : t = u
      · subst et; rw [up_eq]
        exact ⟨fun a => absurd a hnm, fun a => by omega⟩
      · rw [up_ne _ _ et, ← hm]
        exact ⟨fun a => .inr a, fun a => a.resolve_left et⟩
    · rename_i ec
      rw [hm]
      by_cases et : t = u
      · subst et
        exact ⟨fun a => absurd a.2.2.2.symm ec, fun a => absurd a.2.2.2.symm ec⟩
      · rw [up_ne _ _ et]
theorem OI.step {n : Nat} {hs : List Int} {st st' : St} {g g' : G} {u : Nat} {y : Wy} {Q : Int → List Nat} (h : OI n st g Q) (f : I n hs st g) (hu : u < n) (w : Went n st g u st' g' y) : ((y = .grantF ∨ y = .grantL) → ∃ r, Q (fc st.pls u) = u :: r) ∧ OI n st' g' (quOf y u (fc st.pls u) Q) := by
  have ws := w.s; have wg := w.gh; have wo := w.on; have wc := w.cl
  have same : ∀ {st' : St} {g' : G}, fc st'.pls = fc st.pls → stt st'.seats = stt st.seats → g' = g → OI n st' g' Q := fun {st' g'} a b c => h.congr a (fun t _ => by rw [b, c]) (fun _ _ _ _ _ _ _ _ _ e => by rw [c]; exact e)
  cases y with
  | stay =>
    dsimp only at ws wg wo
    exact ⟨(fun e => by simp at e), same wc ws wg⟩
  | raise =>
    dsimp only at ws wg wo
    exact ⟨(fun e => by simp at e), same wc ws wg⟩
  | queue =>
    dsimp only at ws wg wo
    have k := f.hi.s1 u hu wo.1
    have hlo : g.lo u = 0 := by grind
    have hcl := f.hi.clr u hu
    refine ⟨(fun e => by simp at e), fun c => ?_, fun c => ?_, fun c t => ?_⟩
    · show (upQ Q _ _ c).Nodup
      unfold upQ
      split
      · refine List.nodup_append.2 ⟨h.nd _, by simp, fun a ha b hb => ?_⟩
        simp at hb; subst hb
        exact fun e => by subst e; have := (h.mem _ _).1 ha; omega
      · exact h.nd c
    · have pc : ∀ d, (Q d).Pairwise (Bf g'.lo g'.r) := fun d => (h.pw d).imp_of_mem fun {a b} ha hb e => by
        have ha' := (h.mem d a).1 ha
        have hb' := (h.mem d b).1 hb
        have na : a ≠ u := fun e => by subst e; omega
        have nb : b ≠ u := fun e => by subst e; omega
        unfold Bf
        rw [wg.1, wg.2, up_ne _ _ na, up_ne _ _ nb, up_ne _ _ na, up_ne _ _ nb]; exact e
      show (upQ Q _ _ c).Pairwise _
      unfold upQ
      split
      · refine List.pairwise_append.2 ⟨pc _, by simp, fun a ha b hb => ?_⟩
        simp at hb; subst hb
        obtain ⟨a1, a2, a3, a4⟩ := (h.mem _ a).1 ha
        have na : a ≠ b := fun e => by subst e; omega
        have := f.hi.rg a a1
        unfold Bf
        rw [wg.1, wg.2, up_ne _ _ na, up_ne _ _ na, up_eq, up_eq]
        rcases (show g.lo a = 1 ∨ g.lo a = 2 by omega) with e | e
        · have := f.hi.rU a a1 e
          rw [a4] at this
          exact .inr ⟨e, this.2⟩
        · exact .inl ⟨e, rfl⟩
      · exact pc c
    · show t ∈ upQ Q _ _ c ↔ _
      rw [wc, ws, wg.1]
      have hm := h.mem c t
      unfold upQ
      split
      · rename_i ec
        subst ec
        rw [List.mem_append, List.mem_singleton, hm]
        by_cases et : t = u
        · subst et; rw [up_eq]; exact ⟨fun _ => ⟨hu, wo.1, by omega, rfl⟩, fun _ => .inr rfl⟩
        · rw [up_ne _ _ et]; exact ⟨fun a => a.resolve_right et, fun a => .inl a⟩
      · rename_i ec
        rw [hm]
        by_cases et : t = u
        · subst et; exact ⟨fun a => absurd a.2.2.2.symm ec, fun a => absurd a.2.2.2.symm ec⟩
        · rw [up_ne _ _ et]
  | watch =>
    dsimp only at ws wg wo
    exact ⟨(fun e => by simp at e), same wc ws wg⟩
  | grantF =>
    dsimp only at ws wg wo
    obtain ⟨o1, o2, o3, o4⟩ := wo
    have wg : g' = g := wg
    subst wg
    exact ⟨fun _ => h.head f hu o1 o2 o3, h.pop f hu o1 o2 o3 wc ws⟩
  | last =>
    dsimp only at ws wg wo
    exact ⟨(fun e => by simp at e), same wc ws wg⟩
  | splice =>
    dsimp only at ws wg wo
    obtain ⟨hl, hh, x, hx, e1, e2⟩ := wg
    refine ⟨(fun e => by simp at e), h.congr wc (fun t ht => ?_) (fun a b ha hb _ _ la lb hab e => ?_)⟩
    · rw [ws, e1]
      unfold loS
      split
      · rename_i gg; have := gg.1; omega
      · exact Iff.rfl
    · have ra := f.hi.rg a ha
      have rb := f.hi.rg b hb
      unfold Bf
      rw [e1, e2]
      by_cases ga : Go (fc st.pls) g.lo g.r (fc st.pls u) x a <;> by_cases gb : Go (fc st.pls) g.lo g.r (fc st.pls u) x b
      · rw [rS_go ga, rS_go gb]; unfold loS; rw [if_pos ga, if_pos gb]
        have := ga.1; have := gb.1
        rcases e with e | e
        · omega
        · exact .inr ⟨rfl, by omega⟩
      · unfold loS; rw [if_pos ga, if_neg gb]
        have := ga.1
        rcases e with e | e
        · omega
        · exact .inl ⟨rfl, by omega⟩
      · unfold loS; rw [if_neg ga, if_pos gb, rS_no ga, rS_go gb]
        have g1 := gb.1
        rcases e with e | e
        · have := f.hi.rO a ha e.1
          have := f.hi.rU b hb g1
          rw [gb.2.1] at this
          exact .inr ⟨e.1, by omega⟩
        · exfalso; exact ga ⟨by omega, hab.trans gb.2.1, by have := gb.2.2; omega⟩
      · unfold loS; rw [if_neg ga, if_neg gb, rS_no ga, rS_no gb]; exact e
  | look =>
    dsimp only at ws wg wo
    exact ⟨(fun e => by simp at e), same wc ws wg⟩
  | mark =>
    dsimp only at ws wg wo
    exact ⟨(fun e => by simp at e), same wc ws wg⟩
  | grantL =>
    dsimp only at ws wg wo
    obtain ⟨o1, o2, o3, o4⟩ := wo
    have wg : g' = g := wg
    subst wg
    exact ⟨fun _ => h.head f hu o1 o2 o3, h.pop f hu o1 o2 o3 wc ws⟩
  | un0 =>
    dsimp only at ws wg wo
    exact ⟨(fun e => by simp at e), same wc ws wg⟩
  | release =>
    dsimp only at ws wg wo
    refine ⟨(fun e => by simp at e), h.congr wc (fun t _ => ?_) (fun a b _ _ ha hb _ _ _ e => ?_)⟩
    · rw [ws, wg.1]
      by_cases et : t = u
      · subst et; rw [up_eq, up_eq]; omega
      · rw [up_ne _ _ et, up_ne _ _ et]
    · unfold Bf
      rw [wg.1, wg.2, up_ne _ _ (fun e => by subst e; omega), up_ne _ _ (fun e => by subst e; omega)]; exact e
theorem seat_call {n : Nat} {hs : List Int} {st : St} {g : G} (f : I n hs st g) (k : Nat) (hk : k < st.seats.length) (h0 : stt st.seats k = 0) (d : Int) : I n hs (setS st (st.seats.set k (1, d))) g :=
  ⟨by simpa [setS] using f.sl, f.pl, f.wl, f.hc, by
    show HI n _ _ _ _ _ _ (stt (st.seats.set k (1, d))) _ _ _ _ _ _ _ _ _ _
    rw [stt_up _ _ hk]
    exact f.hi.call k (by rw [← f.sl]; exact hk) h0⟩
theorem seat_unl {n : Nat} {hs : List Int} {st : St} {g : G} (f : I n hs st g) (k : Nat) (hk : k < st.seats.length) (h0 : stt st.seats k = 2) (d : Int) : I n hs (setS st (st.seats.set k (3, d))) g :=
  ⟨by simpa [setS] using f.sl, f.pl, f.wl, f.hc, by
    show HI n _ _ _ _ _ _ (stt (st.seats.set k (3, d))) _ _ _ _ _ _ _ _ _ _
    rw [stt_up _ _ hk]
    exact f.hi.unl k (by rw [← f.sl]; exact hk) h0⟩
theorem seat_same {st : St} (x : List (Int × Int)) (h : x = st.seats) : setS st x = st := by subst h; rfl
/-- What is kept by calls, for who leads. -/
def JL (n : Nat) (hs : List Int) (st : St) (row : List Nat) : Prop := ∃ g, I n hs st g ∧ LI n st g row
theorem JL.lock {n : Nat} {hs : List Int} {st : St} {row : List Nat} (h : JL n hs st row) (t d : Int) : JL n hs (setS st (lock st.seats false t d).2) row := by
  obtain ⟨g, f, hl⟩ := h
  rcases lock_cases st.seats false t d with e | ⟨k, _, hk, h0, e, _⟩
  · rw [seat_same _ e]; exact ⟨g, f, hl⟩
  · rw [e]
    refine ⟨g, seat_call f k hk h0 d, hl.congr (fun t ht => ?_) (fun _ _ _ => rfl)⟩
    show stt (st.seats.set k (1, d)) t = 1 ∧ _ ∧ _ ↔ _
    rw [stt_up _ _ hk]
    by_cases e : t = k
    · subst e; rw [up_eq]; have := f.hi.s0 t ht h0; omega
    · rw [up_ne _ _ e]; rfl
theorem JL.unlock {n : Nat} {hs : List Int} {st : St} {row : List Nat} (h : JL n hs st row) (t : Int) : JL n hs (setS st (turn st.seats t 3).2) row := by
  obtain ⟨g, f, hl⟩ := h
  rcases turn_cases st.seats t 3 with e | ⟨k, _, hk, h0, d, e⟩
  · rw [seat_same _ e]; exact ⟨g, f, hl⟩
  · rw [e]
    refine ⟨g, seat_unl f k hk h0 d, hl.congr (fun t _ => ?_) (fun _ _ _ => rfl)⟩
    show stt (st.seats.set k (3, d)) t = 1 ∧ _ ∧ _ ↔ _
    rw [stt_up _ _ hk]
    by_cases e : t = k
    · subst e; rw [up_eq]; omega
    · rw [up_ne _ _ e]; rfl
theorem step_over {n : Nat} {st : St} (t : Int) (h : inB t st.seats.length = false) (a now : Int) : Hier.step n 0 st t a now = ((0, false, false, false), st) := by
  have : state st.seats t = 0 := by unfold state; rw [h]; rfl
  exact step_idle (by omega) (by omega) a now
theorem JL.step {n : Nat} {hs : List Int} {st : St} {row : List Nat} (h : JL n hs st row) (t now : Int) : ∃ d st' row', Hier.step n 0 st t t now = (d, st') ∧ JL n hs st' row' ∧
    ((d = (0, false, true, false) ∧ row' = row ++ [t.toNat] ∧ t = (t.toNat : Int)) ∨ (d = (1, false, false, true) ∧ row = t.toNat :: row' ∧ t = (t.toNat : Int)) ∨ (d.2.2.1 = false ∧ d.2.2.2 = false ∧ row' = row)) := by
  obtain ⟨g, f, hl⟩ := h
  cases hin : inB t st.seats.length with
  | false => exact ⟨_, st, row, step_over t hin _ _, ⟨g, f, hl⟩, .inr (.inr ⟨rfl, rfl, rfl⟩)⟩
  | true =>
    obtain ⟨u, rfl, hu⟩ := inB_nat hin
    rw [f.sl] at hu
    obtain ⟨st', g', y, e, f', w⟩ := stepW f u hu now
    obtain ⟨k1, k2⟩ := hl.step f hu w
    refine ⟨_, st', _, e, ⟨g', f', k2⟩, ?_⟩
    rw [Int.toNat_natCast]
    cases y with
    | splice => exact .inl ⟨rfl, rfl, rfl⟩
    | grantL =>
      obtain ⟨r, hr⟩ := k1 rfl
      exact .inr (.inl ⟨rfl, by rw [hr]; rfl, rfl⟩)
    | _ => exact .inr (.inr ⟨rfl, rfl, rfl⟩)
/-- What is kept by calls, for the clusters' queues. -/
def JO (n : Nat) (hs : List Int) (st : St) (Q : Int → List Nat) : Prop := ∃ g, I n hs st g ∧ OI n st g Q
theorem JO.lock {n : Nat} {hs : List Int} {st : St} {Q : Int → List Nat} (h : JO n hs st Q) (t d : Int) : JO n hs (setS st (lock st.seats false t d).2) Q := by
  obtain ⟨g, f, hl⟩ := h
  rcases lock_cases st.seats false t d with e | ⟨k, _, hk, h0, e, _⟩
  · rw [seat_same _ e]; exact ⟨g, f, hl⟩
  · rw [e]
    refine ⟨g, seat_call f k hk h0 d, hl.congr rfl (fun t ht => ?_) (fun _ _ _ _ _ _ _ _ _ e => e)⟩
    show stt (st.seats.set k (1, d)) t = 1 ∧ _ ↔ _
    rw [stt_up _ _ hk]
    by_cases e : t = k
    · subst e; rw [up_eq]; have := f.hi.s0 t ht h0; omega
    · rw [up_ne _ _ e]
theorem JO.unlock {n : Nat} {hs : List Int} {st : St} {Q : Int → List Nat} (h : JO n hs st Q) (t : Int) : JO n hs (setS st (turn st.seats t 3).2) Q := by
  obtain ⟨g, f, hl⟩ := h
  rcases turn_cases st.seats t 3 with e | ⟨k, _, hk, h0, d, e⟩
  · rw [seat_same _ e]; exact ⟨g, f, hl⟩
  · rw [e]
    refine ⟨g, seat_unl f k hk h0 d, hl.congr rfl (fun t _ => ?_) (fun _ _ _ _ _ _ _ _ _ e => e)⟩
    show stt (st.seats.set k (3, d)) t = 1 ∧ _ ↔ _
    rw [stt_up _ _ hk]
    by_cases e : t = k
    · subst e; rw [up_eq]; omega
    · rw [up_ne _ _ e]
theorem JO.step {n : Nat} {hs : List Int} {st : St} {Q : Int → List Nat} (h : JO n hs st Q) (u : Nat) (hu : u < n) (now : Int) : ∃ d st' Q', Hier.step n 0 st u u now = (d, st') ∧ JO n hs st' Q' ∧
    ((d = (0, true, false, false) ∧ Q' = upQ Q (hs.getD u 0) (Q (hs.getD u 0) ++ [u])) ∨ (d.1 = 1 ∧ d.2.1 = false ∧ ∃ r, Q (hs.getD u 0) = u :: r ∧ Q' = upQ Q (hs.getD u 0) r) ∨ (d.1 ≠ 1 ∧ d.2.1 = false ∧ Q' = Q)) := by
  obtain ⟨g, f, hl⟩ := h
  obtain ⟨st', g', y, e, f', w⟩ := stepW f u hu now
  obtain ⟨k1, k2⟩ := hl.step f hu w
  rw [f.hc u hu] at k1 k2
  refine ⟨_, st', _, e, ⟨g', f', k2⟩, ?_⟩
  cases y with
  | queue => exact .inl ⟨rfl, rfl⟩
  | grantF =>
    obtain ⟨r, hr⟩ := k1 (.inl rfl)
    exact .inr (.inl ⟨rfl, rfl, r, hr, by show upQ Q _ (Q _).tail = _; rw [hr]; rfl⟩)
  | grantL =>
    obtain ⟨r, hr⟩ := k1 (.inr rfl)
    exact .inr (.inl ⟨rfl, rfl, r, hr, by show upQ Q _ (Q _).tail = _; rw [hr]; rfl⟩)
  | _ => exact .inr (.inr ⟨by decide, rfl, rfl⟩)
/-- At the beginning. -/
def g0 (n : Nat) : G := ⟨fun _ => 0, fun _ => 0, fun _ => 0, fun _ => 0, 0, 0, (n : Int) + 1⟩
theorem stt0 (n t : Nat) : stt (List.replicate n ((0 : Int), (-1 : Int))) t = 0 := by
  unfold stt
  rcases Nat.lt_or_ge t n with h | h
  · rw [getD_lt _ _ _ (by simpa using h)]; simp
  · simp [List.getD, h]
theorem start (hs : List Int) (n8 : hs.length ≤ 8) (hok : Mem.homesOk hs = true) : I hs.length hs (st0 hs ([] ++ [(hs.length : Int) + 1] ++ List.replicate 8 0 ++ List.replicate hs.length 0 ++ [4294967292])) (g0 hs.length) := by
  have gp : ∀ t, t < hs.length → (news hs hs.length).getD t p0 = ⟨hs.getD t 0, (t : Int) + 1, 0, 0, 0, 0⟩ := fun t ht => news_get ht
  obtain ⟨ws, hws⟩ : ∃ ws, ([] ++ [(hs.length : Int) + 1] ++ List.replicate 8 0 ++ List.replicate hs.length 0 ++ [4294967292] : List Int) = ws := ⟨_, rfl⟩
  have hwl : ws.length = hs.length + 10 := by rw [← hws]; simp
  have hget : ∀ k : Nat, k < hs.length + 10 → Mem.get ws k = ws.getD k 0 := fun k hk => Mem.get_in (k := k) rfl (by simp [Mem.inB]; omega)
  have hlast : ws.getD (hs.length + 9) 0 = 4294967292 := by
    rw [← hws, List.getD, List.getElem?_append_right (by simp)]
    have e : hs.length + 9 - ([] ++ [(hs.length : Int) + 1] ++ List.replicate 8 (0 : Int) ++ List.replicate hs.length (0 : Int) : List Int).length = 0 := by simp
    rw [e]; rfl
  have hmid : ∀ c : Nat, 1 ≤ c → c < 9 → ws.getD c 0 = 0 := fun c c0 c1 => by
    rw [← hws]
    rcases (show c = 1 ∨ c = 2 ∨ c = 3 ∨ c = 4 ∨ c = 5 ∨ c = 6 ∨ c = 7 ∨ c = 8 by omega) with rfl | rfl | rfl | rfl | rfl | rfl | rfl | rfl <;> rfl
  rw [hws]
  have hcl : ∀ t, t < hs.length → 0 ≤ hs.getD t 0 ∧ hs.getD t 0 < 8 := fun t ht => by
    unfold Mem.homesOk at hok
    rw [List.all_eq_true] at hok
    have hm := hok (hs.getD t 0) (by rw [getD_lt _ _ _ ht]; exact List.getElem_mem _)
    simpa only [Bool.and_eq_true, decide_eq_true_eq] using hm
  refine ⟨by simp [st0], by simp [st0, news_len], hwl, fun t ht => by show ((news hs hs.length).getD t p0).c = _; rw [gp t ht], ?_⟩
  refine HI.start hs.length n8 _ (fun t ht => by show 0 ≤ ((news hs hs.length).getD t p0).c ∧ ((news hs hs.length).getD t p0).c < 8; rw [gp t ht]; exact hcl t ht) _ _ _ _ _ _ _ _ _ (fun t ht => by show ((news hs hs.length).getD t p0).n = _; rw [gp t ht]) (fun t ht => by show ((news hs hs.length).getD t p0).s = _; rw [gp t ht]) (fun t _ => stt0 _ _) ?_ (fun c c0 c1 => ?_) ?_
  · show Mem.get ws (nodeA 0 ((hs.length : Int) + 1)) / 2 % 2 = 0
    rw [show nodeA 0 ((hs.length : Int) + 1) = ((hs.length + 9 : Nat) : Int) by unfold nodeA; omega, hget _ (by omega), hlast]; decide
  · show Mem.get ws (ownA 0 c) = 0
    obtain ⟨k, hk⟩ : ∃ k : Nat, ownA 0 c = k := ⟨(ownA 0 c).toNat, by unfold ownA; omega⟩
    have : 1 ≤ k ∧ k < 9 := by unfold ownA at hk; omega
    rw [hk, hget k (by omega), hmid k this.1 this.2]
  · show Mem.get ws 0 = _
    have := hget 0 (by omega)
    rw [show ((0 : Nat) : Int) = 0 from rfl] at this
    rw [this, ← hws]; rfl
theorem startL (hs : List Int) (n8 : hs.length ≤ 8) (hok : Mem.homesOk hs = true) : JL hs.length hs (st0 hs ([] ++ [(hs.length : Int) + 1] ++ List.replicate 8 0 ++ List.replicate hs.length 0 ++ [4294967292])) [] :=
  ⟨_, start hs n8 hok, ⟨List.nodup_nil, List.Pairwise.nil, fun t => ⟨(fun h => by cases h), fun h => by have := stt0 hs.length t; have h2 : stt (List.replicate hs.length ((0 : Int), (-1 : Int))) t = 1 := h.2.1; omega⟩⟩⟩
theorem startO (hs : List Int) (n8 : hs.length ≤ 8) (hok : Mem.homesOk hs = true) : JO hs.length hs (st0 hs ([] ++ [(hs.length : Int) + 1] ++ List.replicate 8 0 ++ List.replicate hs.length 0 ++ [4294967292])) (fun _ => []) :=
  ⟨_, start hs n8 hok, ⟨fun _ => List.nodup_nil, fun _ => List.Pairwise.nil, fun c t => ⟨(fun h => by cases h), fun h => by have := stt0 hs.length t; have h2 : stt (List.replicate hs.length ((0 : Int), (-1 : Int))) t = 1 := h.2.1; omega⟩⟩⟩
end Go.Proofs.Ytmiidiijhhjabaa.HierO
