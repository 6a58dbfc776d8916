/- Anderson's lock by value, as functions: numbers, steps, flags, the queue. -/
import Derived.Test.YtamchnaifmoklaaSeatP
import Derived.Test.YtamchnaifmoklaaMPk
namespace Go.Proofs.Ytamchnaifmoklaa.SlotQ
open Go Go.Proofs.Ytamchnaifmoklaa.Heap Go.Proofs.Ytamchnaifmoklaa.SeatP Go.Proofs.Ytamchnaifmoklaa.Pack

def off (h : Option Nat) : Int := if h.isSome = true then 1 else 0
theorem off_le (h : Option Nat) : 0 ≤ off h ∧ off h ≤ 1 := by unfold off; split <;> omega
def up (f : Nat → Int) (t : Nat) (v : Int) : Nat → Int := fun u => if u = t then v else f u
def upI (F : Int → Int) (t v : Int) : Int → Int := fun u => if u = t then v else F u
theorem up_ne {f : Nat → Int} {t u : Nat} {v : Int} (h : u ≠ t) : up f t v u = f u := if_neg h
theorem up_eq {f : Nat → Int} {t : Nat} {v : Int} : up f t v t = v := if_pos rfl
theorem mod_inj {kn : Int} (hz : IsSize kn) (A i : Int) (h0 : 0 ≤ i) (h1 : i < kn) (h : (A + i) % 4294967296 % kn = A % 4294967296 % kn) : i = 0 := by
  rcases hz with rfl | rfl | rfl | rfl | rfl | rfl | rfl <;> omega
theorem mod_rg {kn : Int} (hz : IsSize kn) (A : Int) : 0 ≤ A % kn ∧ A % kn < kn := by
  rcases hz with rfl | rfl | rfl | rfl | rfl | rfl | rfl <;> omega
structure CI (n : Nat) (x kn : Int) (f p s : Nat → Int) (G : Int → Int) (tail : Int) (q : List Int) (S : Int) (h : Option Nat) : Prop where
  nk : (n : Int) ≤ kn
  sz : IsSize kn
  nodup : q.Nodup
  q1 : ∀ i, i < q.length → ∃ t : Nat, q.getD i 0 = t ∧ t < n ∧ s t = 1 ∧ (p t = 1 ∨ (p t = 2 ∧ i = 0 ∧ h = none)) ∧ f t = (x + S + off h + i) % 4294967296
  q2 : ∀ t : Nat, t < n → s t = 1 → p t ≠ 0 → (t : Int) ∈ q
  tl : tail = (x + S + off h + q.length) % 4294967296
  idle : ∀ t, t < n → s t = 0 → p t = 0
  hh : ∀ t, t < n → (s t = 2 ∨ s t = 3) → h = some t
  h1 : ∀ t, h = some t → t < n ∧ (s t = 2 ∨ s t = 3) ∧ f t = (x + S) % 4294967296
  rg : ∀ t, t < n → 0 ≤ s t ∧ s t ≤ 3
  p3 : ∀ t, t < n → p t = 0 ∨ p t = 1 ∨ p t = 2
  Gg : ∀ y, 0 ≤ y → y < kn → G y = if h = none ∧ y = (x + S) % 4294967296 % kn then 1 else 0
variable {n : Nat} {x kn : Int} {f p s : Nat → Int} {G : Int → Int} {tail : Int} {q : List Int} {S : Int} {h : Option Nat}
theorem CI.congr (c : CI n x kn f p s G tail q S h) {f' p' s' : Nat → Int} {G' : Int → Int} {tail' : Int} (hf : ∀ t, t < n → f' t = f t) (hp : ∀ t, t < n → p' t = p t) (hs : ∀ t, t < n → s' t = s t)
    (hG : ∀ y : Int, 0 ≤ y → y < kn → G' y = G y) (ht : tail' = tail) : CI n x kn f' p' s' G' tail' q S h := by
  refine ⟨c.nk, c.sz, c.nodup, ?_, ?_, by rw [ht]; exact c.tl, ?_, ?_, ?_, ?_, ?_, ?_⟩
  · intro i hi
    obtain ⟨t, e1, h1, h2, h3, h4⟩ := c.q1 i hi
    exact ⟨t, e1, h1, by rw [hs t h1]; exact h2, by rw [hp t h1]; exact h3, by rw [hf t h1]; exact h4⟩
  · intro t h1 h2 h3
    rw [hs t h1] at h2; rw [hp t h1] at h3
    exact c.q2 t h1 h2 h3
  · intro t h1 h2
    rw [hs t h1] at h2; rw [hp t h1]; exact c.idle t h1 h2
  · intro t h1 h2
    rw [hs t h1] at h2; exact c.hh t h1 h2
  · intro t h1
    obtain ⟨k1, k2, k3⟩ := c.h1 t h1
    exact ⟨k1, by rw [hs t k1]; exact k2, by rw [hf t k1]; exact k3⟩
  · intro t h1; rw [hs t h1]; exact c.rg t h1
  · intro t h1; rw [hp t h1]; exact c.p3 t h1
  · intro y y0 y1; rw [hG y y0 y1]; exact c.Gg y y0 y1
theorem CI.qn (c : CI n x kn f p s G tail q S h) : q.length ≤ n :=
  nodup_le n q c.nodup fun y hy => by
    obtain ⟨i, hi, rfl⟩ := List.mem_iff_getElem.1 hy
    obtain ⟨t, e, ht, _⟩ := c.q1 i hi
    exact ⟨t, by rw [← getD_lt _ _ 0 hi]; exact e, ht⟩
theorem CI.seat (c : CI n x kn f p s G tail q S h) (k : Nat) (hk : k < n) (v : Int) (hc : (s k = 0 ∧ v = 1) ∨ (s k = 2 ∧ (v = 2 ∨ v = 3))) : CI n x kn f p (up s k v) G tail q S h := by
  refine ⟨c.nk, c.sz, c.nodup, ?_, ?_, c.tl, ?_, ?_, ?_, ?_, c.p3, c.Gg⟩
  · intro i hi
    obtain ⟨t, e1, h1, h2, h3⟩ := c.q1 i hi
    exact ⟨t, e1, h1, by rw [up_ne (by rintro rfl; omega)]; exact h2, h3⟩
  · intro t h1 h2 h3
    by_cases e1 : t = k
    · subst e1
      rw [up_eq] at h2
      have := c.idle t h1
      omega
    · rw [up_ne e1] at h2; exact c.q2 t h1 h2 h3
  · intro t h1 h2
    by_cases e1 : t = k
    · subst e1; rw [up_eq] at h2; omega
    · rw [up_ne e1] at h2; exact c.idle t h1 h2
  · intro t h1 h2
    by_cases e1 : t = k
    · subst e1; rw [up_eq] at h2; exact c.hh t h1 (by omega)
    · rw [up_ne e1] at h2; exact c.hh t h1 h2
  · intro t h1
    obtain ⟨k1, k2, k3⟩ := c.h1 t h1
    refine ⟨k1, ?_, k3⟩
    by_cases e1 : t = k
    · subst e1; rw [up_eq]; omega
    · rw [up_ne e1]; exact k2
  · intro t h1
    by_cases e1 : t = k
    · subst e1; rw [up_eq]; omega
    · rw [up_ne e1]; exact c.rg t h1
/-- A number is drawn. -/
theorem CI.draw (c : CI n x kn f p s G tail q S h) (t : Nat) (ht : t < n) (h1 : s t = 1) (hp : p t = 0) : CI n x kn (up f t tail) (up p t 1) s G ((tail + 1) % 4294967296) (q ++ [(t : Int)]) S h := by
  have hnot : (t : Int) ∉ q := fun hm => by
    obtain ⟨i, hi, e1⟩ := List.mem_iff_getElem.1 hm
    obtain ⟨u, e2, _, _, h4, _⟩ := c.q1 i hi
    rw [getD_lt _ _ _ hi, e1] at e2
    have : u = t := by omega
    subst this
    omega
  have htl := c.tl
  refine ⟨c.nk, c.sz, ?_, ?_, ?_, ?_, ?_, c.hh, ?_, c.rg, ?_, c.Gg⟩
  · rw [List.nodup_append]
    exact ⟨c.nodup, by simp, fun a ha b hb e => by simp at hb; subst hb; subst e; exact hnot ha⟩
  · intro i hi
    by_cases hiq : i < q.length
    · obtain ⟨u, e1, k1, k2, k3, k4⟩ := c.q1 i hiq
      have hne : u ≠ t := by rintro rfl; omega
      exact ⟨u, by rw [List.getD, List.getElem?_append_left hiq]; exact e1, k1, k2, by rw [up_ne hne]; exact k3, by rw [up_ne hne]; exact k4⟩
    · have hi2 : i = q.length := by simp at hi; omega
      subst hi2
      exact ⟨t, by simp [List.getD], ht, h1, by rw [up_eq]; exact .inl rfl, by rw [up_eq]; exact htl⟩
  · intro u k1 k2 k3
    by_cases e1 : u = t
    · subst e1; simp
    · rw [up_ne e1] at k3; exact List.mem_append_left _ (c.q2 u k1 k2 k3)
  · rw [List.length_append, List.length_singleton]; omega
  · intro u k1 k2
    rw [up_ne (by rintro rfl; omega)]; exact c.idle u k1 k2
  · intro u k1
    obtain ⟨k2, k3, k4⟩ := c.h1 u k1
    exact ⟨k2, k3, by rw [up_ne (by rintro rfl; omega)]; exact k4⟩
  · intro u k1
    by_cases e1 : u = t
    · subst e1; rw [up_eq]; omega
    · rw [up_ne e1]; exact c.p3 u k1
/-- Who looks sees 1 if it is the first and nobody holds the lock. -/
theorem CI.sees (c : CI n x kn f p s G tail q S h) (t : Nat) (ht : t < n) (h1 : s t = 1) (hp : p t ≠ 0) : (G (f t % kn) ≠ 0 ∧ h = none ∧ q.head? = some (t : Int)) ∨ (G (f t % kn) = 0 ∧ p t = 1 ∧ ¬ (h = none ∧ q.head? = some (t : Int))) := by
  obtain ⟨i, hi, e1⟩ := List.mem_iff_getElem.1 (c.q2 t ht h1 hp)
  obtain ⟨u, e2, _, _, h3, h4⟩ := c.q1 i hi
  rw [getD_lt _ _ _ hi, e1] at e2
  have : u = t := by omega
  subst this
  have hq := c.qn
  have hk := c.nk
  obtain ⟨g0, g1⟩ := mod_rg c.sz (f u)
  rw [c.Gg _ g0 g1]
  by_cases hi0 : i = 0 ∧ h = none
  · obtain ⟨rfl, rfl⟩ := hi0
    left
    have e4 : f u = (x + S) % 4294967296 := by rw [h4]; simp [off]
    rw [e4, if_pos ⟨rfl, rfl⟩]
    refine ⟨by decide, rfl, ?_⟩
    cases q with
    | nil => simp at hi
    | cons y r => simp at e1; rw [e1]; rfl
  · right
    have hp1 : p u = 1 := by
      rcases h3 with h3 | ⟨_, h3, h5⟩
      · exact h3
      · exact absurd ⟨h3, h5⟩ hi0
    refine ⟨?_, hp1, ?_⟩
    · rw [if_neg]
      rintro ⟨rfl, e5⟩
      rw [h4] at e5
      have : (i : Int) = 0 := mod_inj c.sz (x + S + off none) i (by omega) (by omega) (by simp only [off] at e5 ⊢; simpa using e5)
      exact hi0 ⟨by omega, rfl⟩
    · rintro ⟨rfl, e5⟩
      have hnd := c.nodup
      cases q with
      | nil => simp at hi
      | cons y r =>
        have hy : y = (u : Int) := by simpa using e5
        have hi1 : i ≠ 0 := fun z => hi0 ⟨z, rfl⟩
        obtain ⟨j, rfl⟩ : ∃ j, i = j + 1 := ⟨i - 1, by omega⟩
        have e4 : r[j]'(by simpa using hi) = (u : Int) := e1
        have := List.getElem_mem (l := r) (n := j) (by simpa using hi)
        rw [e4, ← hy] at this
        exact (List.nodup_cons.1 hnd).1 this
theorem CI.look (c : CI n x kn f p s G tail q S none) (t : Nat) (ht : t < n) (h1 : s t = 1) (hq : q.head? = some (t : Int)) : CI n x kn f (up p t 2) s G tail q S none := by
  refine ⟨c.nk, c.sz, c.nodup, ?_, ?_, c.tl, ?_, c.hh, c.h1, c.rg, ?_, c.Gg⟩
  · intro i hi
    obtain ⟨u, e1, k1, k2, k3, k4⟩ := c.q1 i hi
    refine ⟨u, e1, k1, k2, ?_, k4⟩
    by_cases e3 : u = t
    · subst e3
      rw [up_eq]
      right
      refine ⟨rfl, ?_, rfl⟩
      cases q with
      | nil => simp at hi
      | cons y r =>
        have hy : y = (u : Int) := by simpa using hq
        cases i with
        | zero => rfl
        | succ j =>
          exfalso
          have hj : j < r.length := by simpa using hi
          have e4 : r.getD j 0 = (u : Int) := e1
          have := List.getElem_mem hj
          rw [← getD_lt _ _ 0 hj, e4, ← hy] at this
          exact (List.nodup_cons.1 c.nodup).1 this
    · rw [up_ne e3]; exact k3
  · intro u k1 k2 k3
    by_cases e3 : u = t
    · subst e3
      exact List.mem_of_mem_head? (by rw [hq]; rfl)
    · rw [up_ne e3] at k3; exact c.q2 u k1 k2 k3
  · intro u k1 k2
    rw [up_ne (by rintro rfl; omega)]; exact c.idle u k1 k2
  · intro u k1
    by_cases e3 : u = t
    · subst e3; rw [up_eq]; omega
    · rw [up_ne e3]; exact c.p3 u k1
/-- The first one clears its slot, and is granted the lock. -/
theorem CI.grant (c : CI n x kn f p s G tail q S none) (t : Nat) (ht : t < n) (h1 : s t = 1) (hq : q.head? = some (t : Int)) : CI n x kn f p (up s t 2) (upI G (f t % kn) 0) tail (q.filter (· != (t : Int))) S (some t) := by
  obtain ⟨r, rfl⟩ : ∃ r, q = (t : Int) :: r := by
    cases q with
    | nil => simp at hq
    | cons y r => simp at hq; exact ⟨r, by rw [hq]⟩
  have hnd := List.nodup_cons.1 c.nodup
  have hfil : ((t : Int) :: r).filter (· != (t : Int)) = r := by
    rw [List.filter_cons, if_neg (by simp), List.filter_eq_self]
    intro y hy
    simp
    rintro rfl
    exact hnd.1 hy
  obtain ⟨u, e2, _, _, _, eu⟩ := c.q1 0 (by simp)
  have hut : u = t := by
    have : (t : Int) = u := e2
    omega
  subst hut
  have ef : f u = (x + S) % 4294967296 := by rw [eu]; simp [off]
  have htl := c.tl
  rw [hfil]
  refine ⟨c.nk, c.sz, hnd.2, ?_, ?_, ?_, ?_, ?_, ?_, ?_, c.p3, ?_⟩
  · intro j hj
    obtain ⟨v, e3', k1, k2, k3, k4⟩ := c.q1 (j + 1) (by simpa using hj)
    have e3 : r.getD j 0 = v := e3'
    have hvt : v ≠ u := fun e => by
      subst e
      have hmem : r.getD j 0 ∈ r := by rw [getD_lt _ _ _ hj]; exact List.getElem_mem hj
      rw [e3] at hmem
      exact hnd.1 hmem
    refine ⟨v, e3, k1, by rw [up_ne hvt]; exact k2, ?_, ?_⟩
    · rcases k3 with k3 | ⟨_, k3, _⟩
      · exact .inl k3
      · omega
    · rw [k4]; simp only [off, Option.isSome]; congr 1; simp; omega
  · intro v k1 k2 k3
    by_cases e3 : v = u
    · subst e3; rw [up_eq] at k2; omega
    · rw [up_ne e3] at k2
      rcases List.mem_cons.1 (c.q2 v k1 k2 k3) with k4 | k4
      · omega
      · exact k4
  · rw [htl]; simp only [off, Option.isSome, List.length_cons]; congr 1; simp; omega
  · intro v k1 k2
    by_cases e3 : v = u
    · subst e3; rw [up_eq] at k2; omega
    · rw [up_ne e3] at k2; exact c.idle v k1 k2
  · intro v k1 k2
    by_cases e3 : v = u
    · rw [e3]
    · rw [up_ne e3] at k2
      have := c.hh v k1 k2; cases this
  · intro v k1
    simp at k1
    subst k1
    exact ⟨ht, by rw [up_eq]; exact .inl rfl, ef⟩
  · intro v k1
    by_cases e3 : v = u
    · subst e3; rw [up_eq]; omega
    · rw [up_ne e3]; exact c.rg v k1
  · intro y y0 y1
    rw [if_neg (fun z => by cases z.1)]
    show (if y = f u % kn then (0 : Int) else G y) = 0
    by_cases ey : y = f u % kn
    · rw [if_pos ey]
    · rw [if_neg ey, c.Gg y y0 y1, if_neg (fun z => ey (by rw [ef]; exact z.2))]
/-- The lock is left to the next number. -/
theorem CI.leave (c : CI n x kn f p s G tail q S h) (t : Nat) (ht : t < n) (h3 : s t = 3) : CI n x kn (up f t 0) (up p t 0) (up s t 0) (upI G ((f t + 1) % 4294967296 % kn) 1) tail q (S + 1) none := by
  have hh := c.hh t ht (.inr h3)
  subst hh
  have ef := (c.h1 t rfl).2.2
  have htl := c.tl
  refine ⟨c.nk, c.sz, c.nodup, ?_, ?_, ?_, ?_, ?_, (fun t ht => by cases ht), ?_, ?_, ?_⟩
  · intro i hi
    obtain ⟨u, e1, k1, k2, k3, k4⟩ := c.q1 i hi
    have hu : u ≠ t := fun e => by subst e; omega
    refine ⟨u, e1, k1, by rw [up_ne hu]; exact k2, ?_, ?_⟩
    · rw [up_ne hu]
      rcases k3 with k3 | ⟨_, _, k3⟩
      · exact .inl k3
      · cases k3
    · rw [up_ne hu, k4]; simp only [off, Option.isSome]; congr 1; simp; omega
  · intro u k1 k2 k3
    by_cases e1 : u = t
    · subst e1; rw [up_eq] at k2; omega
    · rw [up_ne e1] at k2 k3; exact c.q2 u k1 k2 k3
  · rw [htl]; simp only [off, Option.isSome]; congr 1; simp; omega
  · intro u k1 k2
    by_cases e1 : u = t
    · subst e1; rw [up_eq]
    · rw [up_ne e1] at k2 ⊢; exact c.idle u k1 k2
  · intro u k1 k2
    by_cases e1 : u = t
    · subst e1; rw [up_eq] at k2; omega
    · rw [up_ne e1] at k2
      have := c.hh u k1 k2
      simp at this; omega
  · intro u k1
    by_cases e1 : u = t
    · subst e1; rw [up_eq]; omega
    · rw [up_ne e1]; exact c.rg u k1
  · intro u k1
    by_cases e1 : u = t
    · subst e1; rw [up_eq]; exact .inl rfl
    · rw [up_ne e1]; exact c.p3 u k1
  · intro y y0 y1
    have e5 : (f t + 1) % 4294967296 = (x + (S + 1)) % 4294967296 := by rw [ef]; omega
    rw [e5]
    show (if y = (x + (S + 1)) % 4294967296 % kn then (1 : Int) else G y) = _
    by_cases ey : y = (x + (S + 1)) % 4294967296 % kn
    · rw [if_pos ey, if_pos ⟨rfl, ey⟩]
    · rw [if_neg ey, c.Gg y y0 y1, if_neg (fun z => by cases z.1), if_neg (fun z => ey z.2)]
end Go.Proofs.Ytamchnaifmoklaa.SlotQ
