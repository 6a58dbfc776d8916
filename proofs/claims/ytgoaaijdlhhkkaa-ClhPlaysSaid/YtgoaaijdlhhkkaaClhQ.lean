/- The lock of Craig, Landin and Hagersten by value, as functions: nodes, who is ahead, steps, flags, the queue. -/
import Derived.Test.YtgoaaijdlhhkkaaSeatP
namespace Go.Proofs.Ytgoaaijdlhhkkaa.ClhQ
open Go Go.Proofs.Ytgoaaijdlhhkkaa.Heap Go.Proofs.Ytgoaaijdlhhkkaa.SeatP

def fl (s p : Int) : Int := if s = 0 then 0 else if s = 1 ∧ p = 0 then 0 else 1
def c0 (f : Nat → Int) (e : Int) : Option Nat → Int
  | none => e
  | some v => f v
/-- The node that stands ahead of place i. -/
def nat (f : Nat → Int) (q : List Int) (e : Int) (h : Option Nat) (i : Nat) : Int := if i = 0 then c0 f e h else f (q.getD (i - 1) 0).toNat
def up (f : Nat → Int) (t : Nat) (v : Int) : Nat → Int := fun u => if u = t then v else f u
def upI (F : Int → Int) (t v : Int) : Int → Int := fun u => if u = t then v else F u
structure CI (n : Nat) (f a p s : Nat → Int) (F : Int → Int) (tail : Int) (q : List Int) (e : Int) (h : Option Nat) : Prop where
  n8 : n ≤ 8
  nd0 : ∀ t, t < n → 0 ≤ f t ∧ f t ≤ n
  e0 : 0 ≤ e ∧ e ≤ n
  inj : ∀ t u, t < n → u < n → f t = f u → t = u
  ne : ∀ t, t < n → f t ≠ e
  nodup : q.Nodup
  q1 : ∀ i, i < q.length → ∃ t : Nat, q.getD i 0 = t ∧ t < n ∧ s t = 1 ∧ p t = 2 ∧ a t = nat f q e h i
  q2 : ∀ t : Nat, t < n → s t = 1 → p t = 2 → (t : Int) ∈ q
  tl : tail = nat f q e h q.length
  idle : ∀ t, t < n → s t = 0 → p t = 0
  hh : ∀ t, t < n → (s t = 2 ∨ s t = 3 ∨ s t = 4) → h = some t
  h1 : ∀ t, h = some t → t < n ∧ (s t = 2 ∨ s t = 3 ∨ s t = 4) ∧ a t = e
  rg : ∀ t, t < n → 0 ≤ s t ∧ s t ≤ 4
  p3 : ∀ t, t < n → p t = 0 ∨ p t = 1 ∨ p t = 2
  Fe : F e = 0
  Fn : ∀ t, t < n → F (f t) = fl (s t) (p t)
variable {n : Nat} {f a p s : Nat → Int} {F : Int → Int} {tail : Int} {q : List Int} {e : Int} {h : Option Nat}
theorem nat_congr {f' : Nat → Int} (hf : ∀ t, t < n → f' t = f t) (hq : ∀ i, i < q.length → ∃ t : Nat, q.getD i 0 = t ∧ t < n) (hh : ∀ t, h = some t → t < n) (i : Nat) (hi : i ≤ q.length) : nat f' q e h i = nat f q e h i := by
  unfold nat
  split
  · cases h with
    | none => rfl
    | some v => exact hf v (hh v rfl)
  · obtain ⟨t, e1, ht⟩ := hq (i - 1) (by omega)
    rw [e1, Int.toNat_natCast]
    exact hf t ht
theorem CI.qq (c : CI n f a p s F tail q e h) : ∀ i, i < q.length → ∃ t : Nat, q.getD i 0 = t ∧ t < n := fun i hi => by
  obtain ⟨t, e1, ht, _⟩ := c.q1 i hi
  exact ⟨t, e1, ht⟩
theorem CI.congr (c : CI n f a p s F tail q e h) {f' a' p' s' : Nat → Int} {F' : Int → Int} {tail' : Int} (hf : ∀ t, t < n → f' t = f t) (ha : ∀ t, t < n → a' t = a t) (hp : ∀ t, t < n → p' t = p t) (hs : ∀ t, t < n → s' t = s t)
    (hF : ∀ x : Int, 0 ≤ x → x ≤ n → F' x = F x) (ht : tail' = tail) : CI n f' a' p' s' F' tail' q e h := by
  have hn : ∀ i, i ≤ q.length → nat f' q e h i = nat f q e h i := nat_congr hf c.qq (fun t e => (c.h1 t e).1)
  refine ⟨c.n8, fun t h => by rw [hf t h]; exact c.nd0 t h, c.e0, fun t u h1 h2 h3 => c.inj t u h1 h2 (by rw [← hf t h1, ← hf u h2]; exact h3), fun t h => by rw [hf t h]; exact c.ne t h, c.nodup, ?_, ?_, ?_, ?_, ?_, ?_, ?_, ?_, ?_, ?_⟩
  · intro i hi
    obtain ⟨t, e1, h1, h2, h3, h4⟩ := c.q1 i hi
    exact ⟨t, e1, h1, by rw [hs t h1]; exact h2, by rw [hp t h1]; exact h3, by rw [ha t h1, hn i (by omega)]; exact h4⟩
  · intro t h1 h2 h3
    rw [hs t h1] at h2; rw [hp t h1] at h3
    exact c.q2 t h1 h2 h3
  · rw [ht, hn _ (Nat.le_refl _)]; exact c.tl
  · intro t h1 h2
    rw [hs t h1] at h2; rw [hp t h1]; exact c.idle t h1 h2
  · intro t h1 h2
    rw [hs t h1] at h2; exact c.hh t h1 h2
  · intro t h1
    obtain ⟨k1, k2, k3⟩ := c.h1 t h1
    exact ⟨k1, by rw [hs t k1]; exact k2, by rw [ha t k1]; exact k3⟩
  · intro t h1; rw [hs t h1]; exact c.rg t h1
  · intro t h1; rw [hp t h1]; exact c.p3 t h1
  · rw [hF e c.e0.1 c.e0.2]; exact c.Fe
  · intro t h1
    have := c.nd0 t h1
    rw [hf t h1, hF _ this.1 this.2, hs t h1, hp t h1]; exact c.Fn t h1
theorem up_ne {f : Nat → Int} {t u : Nat} {v : Int} (h : u ≠ t) : up f t v u = f u := if_neg h
theorem up_eq {f : Nat → Int} {t : Nat} {v : Int} : up f t v t = v := if_pos rfl
/-- What calls make of the seats. -/
theorem CI.seat (c : CI n f a p s F tail q e h) (k : Nat) (hk : k < n) (v : Int) (hc : (s k = 0 ∧ v = 1) ∨ ((s k = 2 ∨ s k = 4) ∧ (v = 2 ∨ v = 3 ∨ v = 4))) : CI n f a p (up s k v) F tail q e h := by
  refine ⟨c.n8, c.nd0, c.e0, c.inj, c.ne, c.nodup, ?_, ?_, c.tl, ?_, ?_, ?_, ?_, c.p3, c.Fe, ?_⟩
  · intro i hi
    obtain ⟨t, e1, h1, h2, h3⟩ := c.q1 i hi
    exact ⟨t, e1, h1, by rw [up_ne (by rintro rfl; omega)]; exact h2, h3⟩
  · intro t h1 h2 h3
    by_cases e1 : t = k
    · subst e1
      rw [up_eq] at h2
      have := c.idle t h1
      omega
    · rw [up_ne e1] at h2; exact c.q2 t h1 h2 h3
  · intro t h1 h2
    by_cases e1 : t = k
    · subst e1; rw [up_eq] at h2; omega
    · rw [up_ne e1] at h2; exact c.idle t h1 h2
  · intro t h1 h2
    by_cases e1 : t = k
    · subst e1; rw [up_eq] at h2; exact c.hh t h1 (by omega)
    · rw [up_ne e1] at h2; exact c.hh t h1 h2
  · intro t h1
    obtain ⟨k1, k2, k3⟩ := c.h1 t h1
    refine ⟨k1, ?_, k3⟩
    by_cases e1 : t = k
    · subst e1; rw [up_eq]; omega
    · rw [up_ne e1]; exact k2
  · intro t h1
    by_cases e1 : t = k
    · subst e1; rw [up_eq]; omega
    · rw [up_ne e1]; exact c.rg t h1
  · intro t h1
    rw [c.Fn t h1]
    by_cases e1 : t = k
    · subst e1
      rw [up_eq]
      have := c.idle t h1
      unfold fl
      (repeat' split) <;> omega
    · rw [up_ne e1]
/-- The flag is raised. -/
theorem CI.raise (c : CI n f a p s F tail q e h) (t : Nat) (ht : t < n) (h1 : s t = 1) (hp : p t = 0) : CI n f a (up p t 1) s (upI F (f t) 1) tail q e h := by
  refine ⟨c.n8, c.nd0, c.e0, c.inj, c.ne, c.nodup, ?_, ?_, c.tl, ?_, c.hh, c.h1, c.rg, ?_, ?_, ?_⟩
  · intro i hi
    obtain ⟨u, e1, k1, k2, k3, k4⟩ := c.q1 i hi
    exact ⟨u, e1, k1, k2, by rw [up_ne (by rintro rfl; omega)]; exact k3, k4⟩
  · intro u k1 k2 k3
    by_cases e1 : u = t
    · subst e1; rw [up_eq] at k3; omega
    · rw [up_ne e1] at k3; exact c.q2 u k1 k2 k3
  · intro u k1 k2
    rw [up_ne (by rintro rfl; omega)]; exact c.idle u k1 k2
  · intro u k1
    by_cases e1 : u = t
    · subst e1; rw [up_eq]; omega
    · rw [up_ne e1]; exact c.p3 u k1
  · show (if e = f t then (1 : Int) else F e) = 0
    rw [if_neg (fun z => c.ne t ht z.symm)]; exact c.Fe
  · intro u k1
    show (if f u = f t then (1 : Int) else F (f u)) = _
    by_cases e1 : u = t
    · subst e1
      rw [if_pos rfl, up_eq]
      unfold fl
      (repeat' split) <;> omega
    · rw [if_neg (fun z => e1 (c.inj u t k1 ht z)), up_ne e1]; exact c.Fn u k1
/-- It stands behind the last. -/
theorem CI.queue (c : CI n f a p s F tail q e h) (t : Nat) (ht : t < n) (h1 : s t = 1) (hp : p t = 1) : CI n f (up a t tail) (up p t 2) s F (f t) (q ++ [(t : Int)]) e h := by
  have hnot : (t : Int) ∉ q := fun hm => by
    obtain ⟨i, hi, e1⟩ := List.mem_iff_getElem.1 hm
    obtain ⟨u, e2, _, _, h4, _⟩ := c.q1 i hi
    rw [getD_lt _ _ _ hi, e1] at e2
    have : u = t := by omega
    subst this
    omega
  have hn : ∀ i, i ≤ q.length → nat f (q ++ [(t : Int)]) e h i = nat f q e h i := fun i hi => by
    unfold nat
    split
    · rfl
    · rw [List.getD, List.getElem?_append_left (by omega)]; rfl
  refine ⟨c.n8, c.nd0, c.e0, c.inj, c.ne, ?_, ?_, ?_, ?_, ?_, c.hh, ?_, c.rg, ?_, c.Fe, ?_⟩
  · rw [List.nodup_append]
    exact ⟨c.nodup, by simp, fun a ha b hb e => by simp at hb; subst hb; subst e; exact hnot ha⟩
  · intro i hi
    by_cases hiq : i < q.length
    · obtain ⟨u, e1, k1, k2, k3, k4⟩ := c.q1 i hiq
      have hne : u ≠ t := by rintro rfl; omega
      exact ⟨u, by rw [List.getD, List.getElem?_append_left hiq]; exact e1, k1, k2, by rw [up_ne hne]; exact k3, by rw [up_ne hne, hn i (by omega)]; exact k4⟩
    · have hi2 : i = q.length := by simp at hi; omega
      subst hi2
      exact ⟨t, by simp [List.getD], ht, h1, up_eq, by rw [up_eq, hn _ (Nat.le_refl _)]; exact c.tl⟩
  · intro u k1 k2 k3
    by_cases e1 : u = t
    · subst e1; simp
    · rw [up_ne e1] at k3; exact List.mem_append_left _ (c.q2 u k1 k2 k3)
  · unfold nat
    rw [if_neg (by simp), show (q ++ [(t : Int)]).getD ((q ++ [(t : Int)]).length - 1) 0 = (t : Int) by simp [List.getD], Int.toNat_natCast]
  · intro u k1 k2
    rw [up_ne (by rintro rfl; omega)]; exact c.idle u k1 k2
  · intro u k1
    obtain ⟨k2, k3, k4⟩ := c.h1 u k1
    exact ⟨k2, k3, by rw [up_ne (by rintro rfl; omega)]; exact k4⟩
  · intro u k1
    by_cases e1 : u = t
    · subst e1; rw [up_eq]; omega
    · rw [up_ne e1]; exact c.p3 u k1
  · intro u k1
    rw [c.Fn u k1]
    by_cases e1 : u = t
    · subst e1
      rw [up_eq]
      unfold fl
      (repeat' split) <;> omega
    · rw [up_ne e1]
/-- Who waits sees the flag of the one ahead: 0 for the first, if nobody holds the lock. -/
theorem CI.sees (c : CI n f a p s F tail q e h) (t : Nat) (ht : t < n) (h1 : s t = 1) (hp : p t = 2) : (F (a t) = 0 ∧ h = none ∧ q.head? = some (t : Int)) ∨ (F (a t) ≠ 0 ∧ ¬ (h = none ∧ q.head? = some (t : Int))) := by
  obtain ⟨i, hi, e1⟩ := List.mem_iff_getElem.1 (c.q2 t ht h1 hp)
  obtain ⟨u, e2, _, _, _, h4⟩ := c.q1 i hi
  rw [getD_lt _ _ _ hi, e1] at e2
  have : u = t := by omega
  subst this
  rw [h4]
  unfold nat
  by_cases hi0 : i = 0
  · subst hi0
    rw [if_pos rfl]
    cases h with
    | none =>
      left
      refine ⟨c.Fe, rfl, ?_⟩
      cases q with
      | nil => simp at hi
      | cons x r => simp at e1; rw [e1]; rfl
    | some v =>
      right
      obtain ⟨k1, k2, _⟩ := c.h1 v rfl
      refine ⟨?_, fun z => by cases z.1⟩
      show F (f v) ≠ 0
      rw [c.Fn v k1]
      unfold fl
      (repeat' split) <;> omega
  · rw [if_neg hi0]
    right
    obtain ⟨v, e3, k1, k2, k3, _⟩ := c.q1 (i - 1) (by omega)
    rw [e3, Int.toNat_natCast, c.Fn v k1]
    refine ⟨by unfold fl; (repeat' split) <;> omega, fun z => ?_⟩
    have hnd := c.nodup
    cases q with
    | nil => simp at hi
    | cons x r =>
      have : x = (u : Int) := by have := z.2; simpa using this
      obtain ⟨j, rfl⟩ : ∃ j, i = j + 1 := ⟨i - 1, by omega⟩
      have e4 : r[j]'(by simpa using hi) = (u : Int) := e1
      have := List.getElem_mem (l := r) (n := j) (by simpa using hi)
      rw [e4] at this
      exact (List.nodup_cons.1 hnd).1 (by simp_all)
/-- The first one is granted the lock. -/
theorem CI.grant (c : CI n f a p s F tail q e none) (t : Nat) (ht : t < n) (h1 : s t = 1) (hq : q.head? = some (t : Int)) : CI n f a p (up s t 2) F tail (q.filter (· != (t : Int))) e (some t) := by
  obtain ⟨r, rfl⟩ : ∃ r, q = (t : Int) :: r := by
    cases q with
    | nil => simp at hq
    | cons x r => simp at hq; exact ⟨r, by rw [hq]⟩
  have hnd := List.nodup_cons.1 c.nodup
  have hfil : ((t : Int) :: r).filter (· != (t : Int)) = r := by
    rw [List.filter_cons, if_neg (by simp), List.filter_eq_self]
    intro y hy
    simp
    rintro rfl
    exact hnd.1 hy
  have hn : ∀ i, nat f r e (some t) i = nat f ((t : Int) :: r) e none (i + 1) := fun i => by
    unfold nat
    by_cases hi : i = 0
    · subst hi; rfl
    · rw [if_neg hi, if_neg (Nat.succ_ne_zero i)]
      obtain ⟨j, rfl⟩ : ∃ j, i = j + 1 := ⟨i - 1, by omega⟩
      rfl
  have h0 := c.q1 0 (by simp)
  obtain ⟨u, e2, _, _, ep, ea⟩ := h0
  have hut : u = t := by
    have : (t : Int) = u := e2
    omega
  subst hut
  have ea : a u = e := ea
  rw [hfil]
  refine ⟨c.n8, c.nd0, c.e0, c.inj, c.ne, hnd.2, ?_, ?_, ?_, ?_, ?_, ?_, ?_, c.p3, c.Fe, ?_⟩
  · intro j hj
    obtain ⟨v, e3', k1, k2, k3, k4⟩ := c.q1 (j + 1) (by simpa using hj)
    have e3 : r.getD j 0 = v := e3'
    have hvt : v ≠ u := fun e => by
      subst e
      have hmem : r.getD j 0 ∈ r := by rw [getD_lt _ _ _ hj]; exact List.getElem_mem hj
      rw [e3] at hmem
      exact hnd.1 hmem
    exact ⟨v, e3, k1, by rw [up_ne hvt]; exact k2, k3, by rw [hn]; exact k4⟩
  · intro v k1 k2 k3
    by_cases e3 : v = u
    · subst e3; rw [up_eq] at k2; omega
    · rw [up_ne e3] at k2
      rcases List.mem_cons.1 (c.q2 v k1 k2 k3) with k4 | k4
      · omega
      · exact k4
  · rw [hn]; exact c.tl
  · intro v k1 k2
    by_cases e3 : v = u
    · subst e3; rw [up_eq] at k2; omega
    · rw [up_ne e3] at k2; exact c.idle v k1 k2
  · intro v k1 k2
    by_cases e3 : v = u
    · rw [e3]
    · rw [up_ne e3] at k2
      have := c.hh v k1 k2; cases this
  · intro v k1
    simp at k1
    subst k1
    exact ⟨ht, by rw [up_eq]; exact .inl rfl, ea⟩
  · intro v k1
    by_cases e3 : v = u
    · subst e3; rw [up_eq]; omega
    · rw [up_ne e3]; exact c.rg v k1
  · intro v k1
    rw [c.Fn v k1]
    by_cases e3 : v = u
    · subst e3
      rw [up_eq]
      unfold fl
      (repeat' split) <;> omega
    · rw [up_ne e3]
/-- The lock is left, and the node with it. -/
theorem CI.leave (c : CI n f a p s F tail q e h) (t : Nat) (ht : t < n) (h3 : s t = 3) : a t = e ∧ CI n (up f t (a t)) (up a t 0) (up p t 0) (up s t 0) (upI F (f t) 0) tail q (f t) none := by
  have hh := c.hh t ht (.inr (.inl h3))
  subst hh
  have ea := (c.h1 t rfl).2.2
  refine ⟨ea, ?_⟩
  rw [ea]
  have hne : ∀ i (u : Nat), i < q.length → q.getD i 0 = (u : Int) → u ≠ t := fun i u hi e1 e2 => by
    obtain ⟨v, e3, _, k, _⟩ := c.q1 i hi
    have : v = u := by omega
    subst this e2
    omega
  have hn : ∀ i, i ≤ q.length → nat (up f t e) q (f t) none i = nat f q e (some t) i := fun i hi => by
    unfold nat
    by_cases hi0 : i = 0
    · rw [if_pos hi0, if_pos hi0]; rfl
    · rw [if_neg hi0, if_neg hi0]
      obtain ⟨u, e1, _⟩ := c.q1 (i - 1) (by omega)
      rw [e1, Int.toNat_natCast]
      exact up_ne (hne _ u (by omega) e1)
  have hup : ∀ u, u < n → u ≠ t → up f t e u = f u := fun u _ h => up_ne h
  refine ⟨c.n8, ?_, c.nd0 t ht, ?_, ?_, c.nodup, ?_, ?_, ?_, ?_, ?_, (fun t ht => by cases ht), ?_, ?_, if_pos rfl, ?_⟩
  · intro u k1
    by_cases e1 : u = t
    · subst e1; rw [up_eq]; exact c.e0
    · rw [up_ne e1]; exact c.nd0 u k1
  · intro u v k1 k2 k3
    by_cases e1 : u = t
    · by_cases e2 : v = t
      · omega
      · subst e1
        rw [up_eq, up_ne e2] at k3
        exact absurd k3.symm (c.ne v k2)
    · by_cases e2 : v = t
      · subst e2
        rw [up_eq, up_ne e1] at k3
        exact absurd k3 (c.ne u k1)
      · rw [up_ne e1, up_ne e2] at k3; exact c.inj u v k1 k2 k3
  · intro u k1
    by_cases e1 : u = t
    · subst e1; rw [up_eq]; exact fun z => c.ne u k1 z.symm
    · rw [up_ne e1]; exact fun z => e1 (c.inj u t k1 ht z)
  · intro i hi
    obtain ⟨u, e1, k1, k2, k3, k4⟩ := c.q1 i hi
    have hu := hne i u hi e1
    exact ⟨u, e1, k1, by rw [up_ne hu]; exact k2, by rw [up_ne hu]; exact k3, by rw [up_ne hu, hn i (by omega)]; exact k4⟩
  · intro u k1 k2 k3
    by_cases e1 : u = t
    · subst e1; rw [up_eq] at k2; omega
    · rw [up_ne e1] at k2 k3; exact c.q2 u k1 k2 k3
  · rw [hn _ (Nat.le_refl _)]; exact c.tl
  · intro u k1 k2
    by_cases e1 : u = t
    · subst e1; rw [up_eq]
    · rw [up_ne e1] at k2 ⊢; exact c.idle u k1 k2
  · intro u k1 k2
    by_cases e1 : u = t
    · subst e1; rw [up_eq] at k2; omega
    · rw [up_ne e1] at k2
      have := c.hh u k1 k2
      simp at this; omega
  · intro u k1
    by_cases e1 : u = t
    · subst e1; rw [up_eq]; omega
    · rw [up_ne e1]; exact c.rg u k1
  · intro u k1
    by_cases e1 : u = t
    · subst e1; rw [up_eq]; exact .inl rfl
    · rw [up_ne e1]; exact c.p3 u k1
  · intro u k1
    by_cases e1 : u = t
    · subst e1
      rw [up_eq, up_eq, up_eq]
      show (if e = f u then (0 : Int) else F e) = _
      rw [if_neg (fun z => c.ne u k1 z.symm), c.Fe]; rfl
    · rw [up_ne e1, up_ne e1, up_ne e1]
      show (if f u = f t then (0 : Int) else F (f u)) = _
      rw [if_neg (fun z => e1 (c.inj u t k1 ht z))]
      exact c.Fn u k1
end Go.Proofs.Ytgoaaijdlhhkkaa.ClhQ
