/- The lock of whom time may run out: who waits, in order; what the laws' Ordered needs. No program in sight. -/
import Derived.Test.YtlkpfdboagjaoaaAbortP
import Derived.Test.YtlkpfdboagjaoaaOrd
namespace Go.Proofs.Ytlkpfdboagjaoaa.AbortO
open Go Go.Proofs.Ytlkpfdboagjaoaa.Heap Go.Proofs.Ytlkpfdboagjaoaa.Seat Go.Proofs.Ytlkpfdboagjaoaa.Mach Go.Proofs.Ytlkpfdboagjaoaa.SeatP Go.Proofs.Ytlkpfdboagjaoaa.StepU Go.Proofs.Ytlkpfdboagjaoaa.Abort Go.Proofs.Ytlkpfdboagjaoaa.AbortQ Go.Proofs.Ytlkpfdboagjaoaa.AbortP Go.Proofs.Ytlkpfdboagjaoaa.Has

theorem seat_call {n c : Nat} {st : St} {g : G} (f : I n c st g) (k : Nat) (hk : k < st.seats.length) (h0 : stt st.seats k = 0) (d : Int) : I n c (setS st (st.seats.set k (1, d))) g := by
  have hkn : k < n := by rw [← f.sl]; exact hk
  have e : stt (setS st (st.seats.set k (1, d))).seats = up (stt st.seats) k 1 := stt_up st.seats k hk 1 d
  have hl : (setS st (st.seats.set k (1, d))).seats.length = n := by
    show (st.seats.set k (1, d)).length = n
    rw [List.length_set]; exact f.sl
  refine I.of f _ g (f.aq.call k hkn h0) hl f.pl rfl e rfl rfl rfl rfl rfl rfl rfl (fun t ht => ?_)
  rw [e]
  by_cases q : t = k
  · subst q
    rw [up_eq]
    have a : fR st.pls t = 0 := (f.rr t ht).1 h0
    have b := f.c1
    exact ⟨fun z => by omega, fun z => by omega, fun _ _ => (show 0 ≤ fR st.pls t ∧ fR st.pls t < c by omega)⟩
  · rw [up_ne _ _ q]; exact f.rr t ht
theorem seat_unl {n c : Nat} {st : St} {g : G} (f : I n c st g) (k : Nat) (hk : k < st.seats.length) (h0 : stt st.seats k = 2) (d : Int) : I n c (setS st (st.seats.set k (3, d))) g := by
  have hkn : k < n := by rw [← f.sl]; exact hk
  have e : stt (setS st (st.seats.set k (3, d))).seats = up (stt st.seats) k 3 := stt_up st.seats k hk 3 d
  have hl : (setS st (st.seats.set k (3, d))).seats.length = n := by
    show (st.seats.set k (3, d)).length = n
    rw [List.length_set]; exact f.sl
  refine I.of f _ g (f.aq.unl k hkn h0) hl f.pl rfl e rfl rfl rfl rfl rfl rfl rfl (fun t ht => ?_)
  rw [e]
  by_cases q : t = k
  · subst q
    rw [up_eq]
    exact ⟨fun z => by omega, fun z => by omega, fun z => by omega⟩
  · rw [up_ne _ _ q]; exact f.rr t ht
theorem seat_same (st : St) {x : List (Int × Int)} (e : x = st.seats) : setS st x = st := by subst e; rfl
/-- Who waits, in the order of the ranks. -/
structure OI (n : Nat) (st : St) (g : G) (q : List Int) : Prop where
  pw : q.Pairwise (fun a b => g.r a.toNat < g.r b.toNat)
  mem : ∀ a : Int, a ∈ q ↔ ∃ t : Nat, a = t ∧ t < n ∧ stt st.seats t = 1 ∧ 5 ≤ fS st.pls t
theorem OI.congr {n : Nat} {st st' : St} {g g' : G} {q : List Int} (h : OI n st g q) (hm : ∀ t, t < n → (stt st'.seats t = 1 ∧ 5 ≤ fS st'.pls t ↔ stt st.seats t = 1 ∧ 5 ≤ fS st.pls t)) (hr : ∀ t, t < n → stt st.seats t = 1 → 5 ≤ fS st.pls t → g'.r t = g.r t) : OI n st' g' q := by
  refine ⟨h.pw.imp_of_mem fun {a b} ha hb e => ?_, fun a => ?_⟩
  · obtain ⟨t, rfl, t1, t2, t3⟩ := (h.mem a).1 ha
    obtain ⟨v, rfl, v1, v2, v3⟩ := (h.mem b).1 hb
    rw [Int.toNat_natCast, Int.toNat_natCast] at e ⊢
    rw [hr t t1 t2 t3, hr v v1 v2 v3]; exact e
  · rw [h.mem a]
    constructor
    · rintro ⟨t, e, ht, b⟩; exact ⟨t, e, ht, (hm t ht).2 b⟩
    · rintro ⟨t, e, ht, b⟩; exact ⟨t, e, ht, (hm t ht).1 b⟩
theorem OI.drop {n : Nat} {st st' : St} {g g' : G} {q : List Int} (h : OI n st g q) (u : Nat) (hu : ¬ (stt st'.seats u = 1 ∧ 5 ≤ fS st'.pls u)) (ho : ∀ t, t ≠ u → (stt st'.seats t = stt st.seats t ∧ fS st'.pls t = fS st.pls t)) (hr : g'.r = g.r) : OI n st' g' (q.filter (· != (u : Int))) := by
  refine ⟨by rw [hr]; exact h.pw.filter _, fun a => ?_⟩
  rw [List.mem_filter, h.mem a]
  constructor
  · rintro ⟨⟨t, rfl, t1, t2, t3⟩, e⟩
    have ne : t ≠ u := fun z => by subst z; simp at e
    obtain ⟨o1, o2⟩ := ho t ne
    exact ⟨t, rfl, t1, by rw [o1]; exact t2, by rw [o2]; exact t3⟩
  · rintro ⟨t, rfl, t1, t2, t3⟩
    have ne : t ≠ u := fun z => by subst z; exact hu ⟨t2, t3⟩
    obtain ⟨o1, o2⟩ := ho t ne
    rw [o1] at t2
    rw [o2] at t3
    exact ⟨⟨t, rfl, t1, t2, t3⟩, by simpa using fun z : (t : Int) = u => ne (by omega)⟩
theorem OI.head {n c : Nat} {st : St} {g : G} {q : List Int} (h : OI n st g q) (f : I n c st g) {u : Nat} (hu : u < n) (h1 : stt st.seats u = 1) (h2 : 5 ≤ fS st.pls u) (hr : g.r u = g.H) : q.head? = some (u : Int) := by
  have hm := (h.mem u).2 ⟨u, rfl, hu, h1, h2⟩
  have pw := h.pw
  have mm := h.mem
  cases q with
  | nil => cases hm
  | cons x r =>
    rcases List.mem_cons.1 hm with e | e
    · rw [e]; rfl
    · have hx := List.rel_of_pairwise_cons pw e
      obtain ⟨t, rfl, ht, a1, a2⟩ := (mm x).1 (List.mem_cons_self ..)
      have := (f.aq.wt t ht a1 a2).1
      rw [Int.toNat_natCast, Int.toNat_natCast] at hx
      omega
theorem OI.nil {n c : Nat} {st : St} {g : G} {q : List Int} (h : OI n st g q) (f : I n c st g) (hE : g.H = g.E) : q = [] := by
  cases q with
  | nil => rfl
  | cons x r =>
    obtain ⟨t, rfl, ht, a1, a2⟩ := (h.mem x).1 (List.mem_cons_self ..)
    have := f.aq.wt t ht a1 a2
    omega
theorem q2_none (q : List Int) (t : Int) (ev : Int) (h : ev ≠ 1 ∧ ev ≠ 2) : queue2 q t (ev, false, false, false) = q := by
  unfold queue2 queue1
  (repeat' split) <;> simp_all
theorem OI.step {n c : Nat} {st st' : St} {g g' : G} {u : Nat} {now : Int} {y : Wy} {q : List Int} (h : OI n st g q) (f : I n c st g) (hu : u < n) (w : Went c st g u now st' g' y) : ((wayDid y).1 = 1 → (queue1 q u (wayDid y)).head? = some (u : Int)) ∧ OI n st' g' (queue2 q u (wayDid y)) := by
  have ws := w.s; have wp := w.sp; have wr := w.rk; have wo := w.on
  have no : ∀ ev : Int, ev ≠ 1 ∧ ev ≠ 2 → OI n st' g' q → (((ev, false, false, false) : Did).1 = 1 → (queue1 q u (ev, false, false, false)).head? = some (u : Int)) ∧ OI n st' g' (queue2 q u (ev, false, false, false)) := fun ev he ho => by
    rw [q2_none _ _ _ he]; exact ⟨fun z => absurd z he.1, ho⟩
  cases y with
  | refused =>
    dsimp only [wayS, wayP, wayOn] at ws wp wr wo
    refine no 6 (by decide) (h.congr (fun t _ => ?_) (fun t _ _ _ => by rw [wr]))
    rw [ws, wp]
    by_cases e : t = u
    · subst e; rw [up_eq, up_eq]; omega
    · rw [up_ne _ _ e, up_ne _ _ e]
  | done =>
    dsimp only [wayS, wayP, wayOn] at ws wp wr wo
    refine no 3 (by decide) (h.congr (fun t _ => ?_) (fun t _ _ _ => by rw [wr]))
    rw [ws, wp]
    by_cases e : t = u
    · subst e; rw [up_eq, up_eq]; omega
    · rw [up_ne _ _ e, up_ne _ _ e]
  | queue0 =>
    dsimp only [wayS, wayP, wayOn] at ws wp wr wo
    obtain rfl := h.nil f wo.2.2.1
    refine ⟨fun _ => rfl, ?_⟩
    have e : queue2 [] (u : Int) (wayDid .queue0) = ([] : List Int).filter (· != (u : Int)) := by
      unfold queue2 queue1 wayDid
      rw [if_pos (.inl rfl), if_pos rfl]; simp
    rw [e]
    refine h.drop u (by rw [ws, up_eq]; omega) (fun t ht => ⟨by rw [ws, up_ne _ _ ht], by rw [wp, up_ne _ _ ht]⟩) wr
  | queue1 =>
    dsimp only [wayS, wayP, wayOn] at ws wp wr wo
    obtain ⟨o1, o2, _⟩ := wo
    have e : queue2 q (u : Int) (wayDid .queue1) = q ++ [(u : Int)] := by
      unfold queue2 queue1 wayDid
      rw [if_neg (by decide), if_pos rfl]
    rw [e]
    have hne : ∀ t : Nat, (t : Int) ∈ q → t ≠ u := fun t ht z => by
      subst z
      obtain ⟨v, e, _, _, b⟩ := (h.mem _).1 ht
      obtain rfl : t = v := by omega
      omega
    refine ⟨fun z => absurd z (by decide), List.pairwise_append.2 ⟨h.pw.imp_of_mem fun {a b} ha hb e => ?_, by simp, fun a ha b hb => ?_⟩, fun a => ?_⟩
    · obtain ⟨t, rfl, -⟩ := (h.mem a).1 ha
      obtain ⟨v, rfl, -⟩ := (h.mem b).1 hb
      rw [wr]
      rw [Int.toNat_natCast, Int.toNat_natCast] at e ⊢
      rw [up_ne _ _ (hne t ha), up_ne _ _ (hne v hb)]; exact e
    · obtain ⟨t, rfl, t1, t2, t3⟩ := (h.mem a).1 ha
      rw [List.mem_singleton] at hb
      subst hb
      rw [wr, Int.toNat_natCast, Int.toNat_natCast, up_ne _ _ (hne t ha), up_eq]
      exact (f.aq.wt t t1 t2 t3).2.1
    · rw [List.mem_append, List.mem_singleton, h.mem a]
      constructor
      · rintro (⟨t, rfl, t1, t2, t3⟩ | rfl)
        · have ne := hne t ((h.mem _).2 ⟨t, rfl, t1, t2, t3⟩)
          exact ⟨t, rfl, t1, by rw [ws]; exact t2, by rw [wp, up_ne _ _ ne]; exact t3⟩
        · exact ⟨u, rfl, hu, by rw [ws]; exact o1, by rw [wp, up_eq]; omega⟩
      · rintro ⟨t, rfl, t1, t2, t3⟩
        by_cases e : t = u
        · subst e; exact .inr rfl
        · rw [ws] at t2
          rw [wp, up_ne _ _ e] at t3
          exact .inl ⟨t, rfl, t1, t2, t3⟩
  | granted =>
    dsimp only [wayS, wayP, wayOn] at ws wp wr wo
    obtain ⟨o1, o2, o3⟩ := wo
    have k5 : 5 ≤ fS st.pls u := by omega
    have hr : g.r u = g.H := by
      rcases f.aq.wf u hu o1 k5 with z | z
      · exact absurd z o3
      · exact z.2.1
    have e : queue2 q (u : Int) (wayDid .granted) = q.filter (· != (u : Int)) := by
      unfold queue2 queue1 wayDid
      rw [if_pos (.inl rfl), if_neg (by decide)]
    rw [e]
    refine ⟨fun _ => ?_, h.drop u (by rw [ws, up_eq]; omega) (fun t ht => ⟨by rw [ws, up_ne _ _ ht], by rw [wp, up_ne _ _ ht]⟩) wr⟩
    unfold queue1 wayDid
    rw [if_neg (by decide)]
    exact h.head f hu o1 k5 hr
  | gone =>
    dsimp only [wayS, wayP, wayOn] at ws wp wr wo
    have e : queue2 q (u : Int) (wayDid .gone) = q.filter (· != (u : Int)) := by
      unfold queue2 queue1 wayDid
      rw [if_pos (.inr rfl), if_neg (by decide)]
    rw [e]
    exact ⟨fun z => absurd z (by decide), h.drop u (by rw [ws, up_eq]; omega) (fun t ht => ⟨by rw [ws, up_ne _ _ ht], by rw [wp, up_ne _ _ ht]⟩) wr⟩
  | idle =>
    dsimp only [wayS, wayP, wayOn] at ws wp wr wo
    exact no 0 (by decide) (h.congr (fun t _ => by rw [ws, wp]) (fun t _ _ _ => by rw [wr]))
  | wait =>
    dsimp only [wayS, wayP, wayOn] at ws wp wr wo
    exact no 0 (by decide) (h.congr (fun t _ => by rw [ws, wp]) (fun t _ _ _ => by rw [wr]))
  | _ =>
    dsimp only [wayS, wayP, wayOn] at ws wp wr wo
    refine no 0 (by decide) (h.congr (fun t _ => ?_) (fun t _ _ _ => by rw [wr]))
    rw [ws, wp]
    by_cases e : t = u
    · subst e; rw [up_eq]; omega
    · rw [up_ne _ _ e]
/-- At the beginning. -/
def g0 : G := ⟨fun _ => 0, fun _ => 0, 0, 0⟩
theorem stt0 (n t : Nat) : stt (List.replicate n ((0 : Int), (-1 : Int))) t = 0 := by
  unfold stt
  rw [List.getD, List.getElem?_replicate]
  split <;> rfl
theorem pls0 (n t : Nat) : (List.replicate n p0).getD t p0 = p0 := by
  rw [List.getD, List.getElem?_replicate]
  split <;> rfl
theorem ws0 (k : Nat) (a : Int) : Mem.get ([] ++ [0] ++ List.replicate k 0) a = 0 := by
  unfold Mem.get
  split
  · show ((0 : Int) :: List.replicate k 0).getD _ 0 = 0
    rw [← List.replicate_succ, List.getD, List.getElem?_replicate]
    split <;> rfl
  · rfl
theorem start (n c : Nat) (n8 : n ≤ 8) (c1 : 1 ≤ c) : I n c (st0 n ([] ++ [0] ++ List.replicate (n * (3 * c)) 0)) g0 := by
  have hs : stt (List.replicate n ((0 : Int), (-1 : Int))) = fun _ => 0 := funext (stt0 n)
  have hp : ∀ f : P → Int, f p0 = 0 → (fun t => f ((List.replicate n p0).getD t p0)) = fun _ => 0 := fun f e => funext fun t => by rw [pls0, e]
  have hw : ∀ o : Int, (fun x : Int => if 1 ≤ x then Mem.get ([] ++ [0] ++ List.replicate (n * (3 * c)) 0) (stA 0 x + o) else 0) = fun _ => 0 := fun o => funext fun x => by
    split
    · exact ws0 _ _
    · rfl
  have hF : gF ([] ++ [0] ++ List.replicate (n * (3 * c)) 0) = fun _ => 0 := funext fun x => by
    unfold gF; split
    · exact ws0 _ _
    · rfl
  refine ⟨by simp [st0], by simp [st0], by simp [st0]; omega, c1, ?_, fun t _ => ?_⟩
  · show AQ n ((n * c : Nat) : Int) (stt (List.replicate n (0, -1))) (fS (List.replicate n p0)) (fN (List.replicate n p0)) (fO (List.replicate n p0)) (fun _ => 0) (gF ([] ++ [0] ++ List.replicate (n * (3 * c)) 0)) (gN ([] ++ [0] ++ List.replicate (n * (3 * c)) 0)) (gU ([] ++ [0] ++ List.replicate (n * (3 * c)) 0)) (fun _ => 0) (own c) (Mem.get ([] ++ [0] ++ List.replicate (n * (3 * c)) 0) 0) 0 0
    rw [hs, hF, show gN ([] ++ [0] ++ List.replicate (n * (3 * c)) 0) = fun _ => 0 from hw 1, show gU ([] ++ [0] ++ List.replicate (n * (3 * c)) 0) = fun _ => 0 from hw 2, show fS (List.replicate n p0) = fun _ => 0 from hp P.s rfl, show fN (List.replicate n p0) = fun _ => 0 from hp P.n rfl, show fO (List.replicate n p0) = fun _ => 0 from hp P.o rfl, ws0]
    constructor <;> (intros; first | omega | grind [Kd])
  · have e : stt (st0 n ([] ++ [0] ++ List.replicate (n * (3 * c)) 0)).seats t = 0 := stt0 n t
    have e2 : fR (st0 n ([] ++ [0] ++ List.replicate (n * (3 * c)) 0)).pls t = 0 := by show ((List.replicate n p0).getD t p0).r = 0; rw [pls0]; rfl
    rw [e, e2]
    exact ⟨fun _ => rfl, fun _ => rfl, fun z => by omega⟩
/-- What is kept. -/
def Inv (n c : Nat) (st : St) (q : List Int) : Prop := ∃ g, I n c st g ∧ OI n st g q
theorem inv0 (n c : Nat) (n8 : n ≤ 8) (c1 : 1 ≤ c) : Inv n c (st0 n ([] ++ [0] ++ List.replicate (n * (3 * c)) 0)) [] :=
  ⟨g0, start n c n8 c1, List.Pairwise.nil, fun a => ⟨(fun h => by cases h), fun ⟨t, _, _, h, _⟩ => by
    have e : stt (st0 n ([] ++ [0] ++ List.replicate (n * (3 * c)) 0)).seats t = 0 := stt0 n t
    omega⟩⟩
theorem keeps (n c : Nat) : Keeps true false n St.seats setS (fun st t a now => Abort.step n 0 c st t a now) (Inv n c) where
  lock := fun st q t d ⟨g, f, o⟩ => by
    rcases lock_cases st.seats true t d with e | ⟨k, _, hk, h0, e, _⟩
    · rw [seat_same _ e]; exact ⟨g, f, o⟩
    · rw [e]
      refine ⟨g, seat_call f k hk h0 d, o.congr (fun t ht => ?_) (fun _ _ _ _ => rfl)⟩
      have e1 : stt (setS st (st.seats.set k (1, d))).seats = up (stt st.seats) k 1 := stt_up st.seats k hk 1 d
      have e2 : fS (setS st (st.seats.set k (1, d))).pls = fS st.pls := rfl
      rw [e1, e2]
      by_cases z : t = k
      · subst z; rw [up_eq]; have a : fS st.pls t = 0 := f.aq.s0 t ht (.inl h0); omega
      · rw [up_ne _ _ z]
  unlock := fun st q t ⟨g, f, o⟩ => by
    rcases turn_cases st.seats t 3 with e | ⟨k, _, hk, h0, d, e⟩
    · rw [seat_same _ e]; exact ⟨g, f, o⟩
    · rw [e]
      refine ⟨g, seat_unl f k hk h0 d, o.congr (fun t _ => ?_) (fun _ _ _ _ => rfl)⟩
      have e1 : stt (setS st (st.seats.set k (3, d))).seats = up (stt st.seats) k 3 := stt_up st.seats k hk 3 d
      have e2 : fS (setS st (st.seats.set k (3, d))).pls = fS st.pls := rfl
      rw [e1, e2]
      by_cases z : t = k
      · subst z; rw [up_eq]; omega
      · rw [up_ne _ _ z]
  probe := fun st q t h => h
  step := fun st q t now ⟨g, f, o⟩ => by
    by_cases hin : ∃ k : Nat, t = k ∧ k < st.seats.length
    · obtain ⟨u, rfl, hu⟩ := hin
      have hun : u < n := by rw [← f.sl]; exact hu
      obtain ⟨st', g', y, e, f', w⟩ := stepW f u hun now
      rw [e]
      obtain ⟨k1, k2⟩ := o.step f hun w
      exact ⟨k1, g', f', k2⟩
    · have hz := state_out st.seats t hin
      rw [step_idle (by omega) (by omega) t now]
      exact ⟨fun z => absurd z (show (0 : Int) ≠ 1 by decide), g, f, by rw [q2_none _ _ _ (by decide)]; exact o⟩
  one := fun st q ⟨g, f, _⟩ => by
    by_cases h : ∃ t, t < n ∧ stt st.seats t = 2
    · obtain ⟨t, ht, h2⟩ := h
      exact holders_one st.seats n f.sl (some t) fun v hv hv2 => by rw [f.aq.kk t v ht hv (.inl h2) (.inl hv2)]
    · exact holders_one st.seats n f.sl none fun v hv hv2 => absurd ⟨v, hv, hv2⟩ h
end Go.Proofs.Ytlkpfdboagjaoaa.AbortO
