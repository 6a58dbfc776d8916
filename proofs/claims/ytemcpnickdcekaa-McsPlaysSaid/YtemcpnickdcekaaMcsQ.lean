/- The lock of Mellor-Crummey and Scott by value, as functions: nexts and lockeds by their numbers, states, steps, others, the queue. -/
import Derived.Test.YtemcpnickdcekaaSeatP
namespace Go.Proofs.Ytemcpnickdcekaa.McsQ
open Go Go.Proofs.Ytemcpnickdcekaa.Heap Go.Proofs.Ytemcpnickdcekaa.SeatP

/-- The number of the one ahead of place i; 0: there is none. -/
def hn : Option Nat → Int
  | none => 0
  | some v => (v : Int) + 1
def pn (q : List Int) (h : Option Nat) (i : Nat) : Int := if i = 0 then hn h else q.getD (i - 1) 0 + 1
def up (f : Nat → Int) (t : Nat) (v : Int) : Nat → Int := fun u => if u = t then v else f u
def upI (F : Int → Int) (t v : Int) : Int → Int := fun u => if u = t then v else F u
theorem up_ne {f : Nat → Int} {t u : Nat} {v : Int} (h : u ≠ t) : up f t v u = f u := if_neg h
theorem up_eq {f : Nat → Int} {t : Nat} {v : Int} : up f t v t = v := if_pos rfl
theorem upI_ne {f : Int → Int} {t u : Int} {v : Int} (h : u ≠ t) : upI f t v u = f u := if_neg h
theorem upI_eq {f : Int → Int} {t : Int} {v : Int} : upI f t v t = v := if_pos rfl
structure CI (n : Nat) (N K : Int → Int) (T : Int) (s p o : Nat → Int) (q : List Int) (h : Option Nat) : Prop where
  n8 : n ≤ 8
  nodup : q.Nodup
  q1 : ∀ i, i < q.length → ∃ t : Nat, q.getD i 0 = t ∧ t < n ∧ s t = 1 ∧ (p t = 2 ∨ p t = 3 ∨ p t = 4)
  qo : ∀ i, i < q.length → ∀ t : Nat, q.getD i 0 = t → (p t ≠ 4 → o t = pn q h i) ∧ (pn q h i ≠ 0 → N (pn q h i) = if p t = 4 then (t : Int) + 1 else 0) ∧ (pn q h i = 0 → p t = 4) ∧ (p t = 3 ∨ p t = 4 → K (t + 1) = if pn q h i = 0 then 0 else 1)
  q2 : ∀ t : Nat, t < n → s t = 1 → 2 ≤ p t → (t : Int) ∈ q
  tl : T = pn q h q.length
  nl : pn q h q.length ≠ 0 → N (pn q h q.length) = 0
  n1 : ∀ t : Nat, t < n → s t = 1 → p t = 1 → N (t + 1) = 0
  p0 : ∀ t, t < n → (s t = 0 ∨ s t = 2 ∨ s t = 4) → p t = 0
  p1 : ∀ t, t < n → s t = 1 → 0 ≤ p t ∧ p t ≤ 4
  p3 : ∀ t, t < n → s t = 3 → (p t = 0 ∨ (p t = 1 ∧ o t = 0) ∨ (p t = 2 ∧ o t = 0 ∧ q ≠ []) ∨ (p t = 3 ∧ ∃ v : Nat, q.head? = some (v : Int) ∧ p v = 4 ∧ o t = v + 1))
  hh : ∀ t, t < n → (s t = 2 ∨ s t = 3 ∨ s t = 4) → h = some t
  h1 : ∀ t, h = some t → t < n ∧ (s t = 2 ∨ s t = 3 ∨ s t = 4)
  rg : ∀ t, t < n → 0 ≤ s t ∧ s t ≤ 4
variable {n : Nat} {N K : Int → Int} {T : Int} {s p o : Nat → Int} {q : List Int} {h : Option Nat}
theorem CI.congr (c : CI n N K T s p o q h) {N' K' : Int → Int} {T' : Int} {s' p' o' : Nat → Int} (hN : ∀ x : Int, 1 ≤ x → x ≤ n → N' x = N x) (hK : ∀ x : Int, 1 ≤ x → x ≤ n → K' x = K x) (hT : T' = T)
    (hs : ∀ t, t < n → s' t = s t) (hp : ∀ t, t < n → p' t = p t) (ho : ∀ t, t < n → o' t = o t) (pr : ∀ i, i ≤ q.length → pn q h i = 0 ∨ (1 ≤ pn q h i ∧ pn q h i ≤ n)) : CI n N' K' T' s' p' o' q h := by
  refine ⟨c.n8, c.nodup, ?_, ?_, ?_, by rw [hT]; exact c.tl, ?_, ?_, ?_, ?_, ?_, ?_, ?_, ?_⟩
  · intro i hi
    obtain ⟨t, e, h1, h2, h3⟩ := c.q1 i hi
    exact ⟨t, e, h1, by rw [hs t h1]; exact h2, by rw [hp t h1]; exact h3⟩
  · intro i hi t e
    obtain ⟨t', e', h1, _⟩ := c.q1 i hi
    obtain rfl : t = t' := by omega
    obtain ⟨k1, k2, k3, k4⟩ := c.qo i hi t e
    rw [hp t h1, ho t h1, hK _ (by omega) (by omega)]
    refine ⟨k1, fun z => ?_, k3, k4⟩
    rcases pr i (by omega) with y | ⟨y1, y2⟩
    · exact absurd y z
    · rw [hN _ y1 y2]; exact k2 z
  · intro t h1 h2 h3
    rw [hs t h1] at h2; rw [hp t h1] at h3
    exact c.q2 t h1 h2 h3
  · intro z
    rcases pr q.length (Nat.le_refl _) with y | ⟨y1, y2⟩
    · exact absurd y z
    · rw [hN _ y1 y2]; exact c.nl z
  · intro t h1 h2 h3
    rw [hs t h1] at h2; rw [hp t h1] at h3
    rw [hN _ (by omega) (by omega)]; exact c.n1 t h1 h2 h3
  · intro t h1 h2
    rw [hs t h1] at h2; rw [hp t h1]; exact c.p0 t h1 h2
  · intro t h1 h2
    rw [hs t h1] at h2; rw [hp t h1]; exact c.p1 t h1 h2
  · intro t h1 h2
    rw [hs t h1] at h2; rw [hp t h1, ho t h1]
    rcases c.p3 t h1 h2 with k | k | k | ⟨k1, v, k2, k3, k4⟩
    · exact .inl k
    · exact .inr (.inl k)
    · exact .inr (.inr (.inl k))
    · refine .inr (.inr (.inr ⟨k1, v, k2, ?_, k4⟩))
      have hv : v < n := by
        cases q with
        | nil => simp at k2
        | cons x r =>
          obtain ⟨t', e', h1', _⟩ := c.q1 0 (by simp)
          have e' : x = (t' : Int) := e'
          simp at k2
          omega
      rw [hp v hv]; exact k3
  · intro t h1 h2
    rw [hs t h1] at h2; exact c.hh t h1 h2
  · intro t h1
    obtain ⟨k1, k2⟩ := c.h1 t h1
    exact ⟨k1, by rw [hs t k1]; exact k2⟩
  · intro t h1
    rw [hs t h1]; exact c.rg t h1
theorem CI.pr (c : CI n N K T s p o q h) : ∀ i, i ≤ q.length → pn q h i = 0 ∨ (1 ≤ pn q h i ∧ pn q h i ≤ n) := by
  intro i hi
  unfold pn
  split
  · cases h with
    | none => exact .inl rfl
    | some v => have := (c.h1 v rfl).1; right; show (1 : Int) ≤ v + 1 ∧ (v : Int) + 1 ≤ n; omega
  · obtain ⟨t, e, h1, _⟩ := c.q1 (i - 1) (by omega)
    rw [e]; omega
theorem CI.mem (c : CI n N K T s p o q h) (t : Nat) (hm : (t : Int) ∈ q) : t < n ∧ s t = 1 ∧ (p t = 2 ∨ p t = 3 ∨ p t = 4) := by
  obtain ⟨i, hi, e⟩ := List.mem_iff_getElem.1 hm
  obtain ⟨t', e', h1, h2, h3⟩ := c.q1 i hi
  rw [getD_lt _ _ _ hi, e] at e'
  obtain rfl : t = t' := by omega
  exact ⟨h1, h2, h3⟩
/-- Whose number stands ahead. -/
theorem CI.who (_c : CI n N K T s p o q h) (t : Nat) (i : Nat) (_hi : i ≤ q.length) (e : pn q h i = (t : Int) + 1) : (i = 0 ∧ h = some t) ∨ (0 < i ∧ q.getD (i - 1) 0 = (t : Int)) := by
  unfold pn at e
  split at e
  · cases h with
    | none => have e : (0 : Int) = (t : Int) + 1 := e; omega
    | some v =>
      have e : (v : Int) + 1 = (t : Int) + 1 := e
      left; exact ⟨by assumption, by congr 1; omega⟩
  · right; exact ⟨by omega, by omega⟩
theorem CI.pn_ne (c : CI n N K T s p o q h) (t : Nat) (hq : (t : Int) ∉ q) (hh : h ≠ some t) (i : Nat) (hi : i ≤ q.length) : pn q h i ≠ (t : Int) + 1 := fun e => by
  rcases c.who t i hi e with ⟨_, z⟩ | ⟨z1, z2⟩
  · exact hh z
  · have : q.getD (i - 1) 0 ∈ q := by rw [getD_lt _ _ _ (by omega)]; exact List.getElem_mem _
    rw [z2] at this
    exact hq this
theorem nodup_get {q : List Int} (hn : q.Nodup) {i j : Nat} (hi : i < q.length) (hj : j < q.length) (e : q.getD i 0 = q.getD j 0) : i = j := by
  rw [getD_lt _ _ _ hi, getD_lt _ _ _ hj] at e
  have key := List.pairwise_iff_getElem.1 hn
  rcases Nat.lt_trichotomy i j with h | h | h
  · exact absurd e (key i j hi hj h)
  · exact h
  · exact absurd e.symm (key j i hj hi h)
theorem CI.pn_inj (c : CI n N K T s p o q h) {i j : Nat} (hi : i ≤ q.length) (hj : j ≤ q.length) (h0 : pn q h i ≠ 0) (e : pn q h i = pn q h j) : i = j := by
  have hp := c.pr i hi
  obtain ⟨t, ht⟩ : ∃ t : Nat, pn q h i = (t : Int) + 1 := ⟨(pn q h i - 1).toNat, by omega⟩
  rcases c.who t i hi ht with ⟨a1, a2⟩ | ⟨a1, a2⟩ <;> rcases c.who t j hj (by rw [← e]; exact ht) with ⟨b1, b2⟩ | ⟨b1, b2⟩
  · omega
  · obtain ⟨u, e1, _, k, _⟩ := c.q1 (j - 1) (by omega)
    obtain rfl : u = t := by omega
    have := (c.h1 u a2).2
    omega
  · obtain ⟨u, e1, _, k, _⟩ := c.q1 (i - 1) (by omega)
    obtain rfl : u = t := by omega
    have := (c.h1 u b2).2
    omega
  · have := nodup_get c.nodup (show i - 1 < q.length by omega) (show j - 1 < q.length by omega) (by rw [a2, b2])
    omega
theorem CI.at (c : CI n N K T s p o q h) (t : Nat) (ht : t < n) (h1 : s t = 1) (hp : 2 ≤ p t) : ∃ i, i < q.length ∧ q.getD i 0 = (t : Int) := by
  obtain ⟨i, hi, e⟩ := List.mem_iff_getElem.1 (c.q2 t ht h1 hp)
  exact ⟨i, hi, by rw [getD_lt _ _ _ hi]; exact e⟩
theorem head_at {q : List Int} {v : Int} (h : q.head? = some v) : 0 < q.length ∧ q.getD 0 0 = v := by
  cases q with
  | nil => simp at h
  | cons x r => simp at h; exact ⟨by simp, h⟩
/-- What calls make of the seats. -/
theorem CI.seat (c : CI n N K T s p o q h) (k : Nat) (hk : k < n) (v : Int) (hc : (s k = 0 ∧ v = 1) ∨ ((s k = 2 ∨ s k = 4) ∧ (v = 2 ∨ v = 3 ∨ v = 4))) : CI n N K T (up s k v) p o q h := by
  have pk := c.p0 k hk (by omega)
  refine ⟨c.n8, c.nodup, ?_, c.qo, ?_, c.tl, c.nl, ?_, ?_, ?_, ?_, ?_, ?_, ?_⟩
  · intro i hi
    obtain ⟨t, e1, h1, h2, h3⟩ := c.q1 i hi
    exact ⟨t, e1, h1, by rw [up_ne (by rintro rfl; omega)]; exact h2, h3⟩
  · intro t h1 h2 h3
    by_cases e1 : t = k
    · subst e1; omega
    · rw [up_ne e1] at h2; exact c.q2 t h1 h2 h3
  · intro t h1 h2 h3
    by_cases e1 : t = k
    · subst e1; omega
    · rw [up_ne e1] at h2; exact c.n1 t h1 h2 h3
  · intro t h1 h2
    by_cases e1 : t = k
    · subst e1; exact pk
    · rw [up_ne e1] at h2; exact c.p0 t h1 h2
  · intro t h1 h2
    by_cases e1 : t = k
    · subst e1; omega
    · rw [up_ne e1] at h2; exact c.p1 t h1 h2
  · intro t h1 h2
    by_cases e1 : t = k
    · subst e1; exact .inl pk
    · rw [up_ne e1] at h2; exact c.p3 t h1 h2
  · intro t h1 h2
    by_cases e1 : t = k
    · subst e1; rw [up_eq] at h2; exact c.hh t h1 (by omega)
    · rw [up_ne e1] at h2; exact c.hh t h1 h2
  · intro t h1
    obtain ⟨k1, k2⟩ := c.h1 t h1
    refine ⟨k1, ?_⟩
    by_cases e1 : t = k
    · subst e1; rw [up_eq]; omega
    · rw [up_ne e1]; exact k2
  · intro t h1
    by_cases e1 : t = k
    · subst e1; rw [up_eq]; omega
    · rw [up_ne e1]; exact c.rg t h1
/-- Only the step of one that stands in no queue turns, and its next. -/
theorem CI.empty (c : CI n N K T s p o q h) (t : Nat) (ht : t < n) (h1 : s t = 1) (hp : p t = 0) : CI n (upI N (t + 1) 0) K T s (up p t 1) o q h := by
  have hq : (t : Int) ∉ q := fun hm => by have := (c.mem t hm).2.2; omega
  have hh : h ≠ some t := fun e => by have := (c.h1 t e).2; omega
  have hne := c.pn_ne t hq hh
  have hqt : ∀ i u, i < q.length → q.getD i 0 = (u : Nat) → u ≠ t := fun i u hi e z => by
    subst z
    have : q.getD i 0 ∈ q := by rw [getD_lt _ _ _ hi]; exact List.getElem_mem _
    rw [e] at this; exact hq this
  refine ⟨c.n8, c.nodup, ?_, ?_, ?_, c.tl, ?_, ?_, ?_, ?_, ?_, c.hh, c.h1, c.rg⟩
  · intro i hi
    obtain ⟨u, e1, k1, k2, k3⟩ := c.q1 i hi
    exact ⟨u, e1, k1, k2, by rw [up_ne (hqt i u hi e1)]; exact k3⟩
  · intro i hi u e1
    rw [up_ne (hqt i u hi e1), upI_ne (hne i (by omega))]
    exact c.qo i hi u e1
  · intro u k1 k2 k3
    by_cases e1 : u = t
    · subst e1; rw [up_eq] at k3; omega
    · rw [up_ne e1] at k3; exact c.q2 u k1 k2 k3
  · rw [upI_ne (hne _ (Nat.le_refl _))]; exact c.nl
  · intro u k1 k2 k3
    by_cases e1 : u = t
    · subst e1; exact upI_eq
    · rw [up_ne e1] at k3
      rw [upI_ne (by omega)]; exact c.n1 u k1 k2 k3
  · intro u k1 k2
    rw [up_ne (by rintro rfl; omega)]; exact c.p0 u k1 k2
  · intro u k1 k2
    by_cases e1 : u = t
    · subst e1; rw [up_eq]; omega
    · rw [up_ne e1]; exact c.p1 u k1 k2
  · intro u k1 k2
    rw [up_ne (by rintro rfl; omega)]
    rcases c.p3 u k1 k2 with k | k | k | ⟨k3, v, k4, k5, k6⟩
    · exact .inl k
    · exact .inr (.inl k)
    · exact .inr (.inr (.inl k))
    · refine .inr (.inr (.inr ⟨k3, v, k4, ?_, k6⟩))
      obtain ⟨z1, z2⟩ := head_at k4
      rw [up_ne (hqt 0 v z1 z2)]; exact k5
/-- It stands behind the last one. -/
theorem CI.enq (c : CI n N K T s p o q h) (t : Nat) (ht : t < n) (h1 : s t = 1) (hp : p t = 1) (hT : T ≠ 0) : CI n N K (t + 1) s (up p t 2) (up o t T) (q ++ [(t : Int)]) h := by
  have hq : (t : Int) ∉ q := fun hm => by have := (c.mem t hm).2.2; omega
  have hh : h ≠ some t := fun e => by have := (c.h1 t e).2; omega
  have hqt : ∀ i u, i < q.length → q.getD i 0 = (u : Nat) → u ≠ t := fun i u hi e z => by
    subst z
    have : q.getD i 0 ∈ q := by rw [getD_lt _ _ _ hi]; exact List.getElem_mem _
    rw [e] at this; exact hq this
  have ga : ∀ i, i < q.length → (q ++ [(t : Int)]).getD i 0 = q.getD i 0 := fun i hi => by rw [List.getD, List.getElem?_append_left hi]; rfl
  have gb : (q ++ [(t : Int)]).getD q.length 0 = t := by simp [List.getD]
  have hpn : ∀ i, i ≤ q.length → pn (q ++ [(t : Int)]) h i = pn q h i := fun i hi => by
    unfold pn
    split
    · rfl
    · rw [ga _ (by omega)]
  have hl : pn (q ++ [(t : Int)]) h (q ++ [(t : Int)]).length = t + 1 := by
    unfold pn
    rw [if_neg (by simp), show (q ++ [(t : Int)]).length - 1 = q.length by simp, gb]
  have hT2 : pn q h q.length ≠ 0 := by rw [← c.tl]; exact hT
  refine ⟨c.n8, ?_, ?_, ?_, ?_, by rw [hl], ?_, ?_, ?_, ?_, ?_, c.hh, c.h1, c.rg⟩
  · rw [List.nodup_append]
    exact ⟨c.nodup, by simp, fun a ha b hb e => by simp at hb; subst hb; subst e; exact hq ha⟩
  · intro i hi
    by_cases hiq : i < q.length
    · obtain ⟨u, e1, k1, k2, k3⟩ := c.q1 i hiq
      exact ⟨u, by rw [ga i hiq]; exact e1, k1, k2, by rw [up_ne (hqt i u hiq e1)]; exact k3⟩
    · have hi2 : i = q.length := by simp at hi; omega
      subst hi2
      exact ⟨t, gb, ht, h1, .inl up_eq⟩
  · intro i hi u e1
    by_cases hiq : i < q.length
    · rw [ga i hiq] at e1
      rw [hpn i (by omega), up_ne (hqt i u hiq e1), up_ne (hqt i u hiq e1)]
      exact c.qo i hiq u e1
    · have hi2 : i = q.length := by simp at hi; omega
      subst hi2
      rw [gb] at e1
      obtain rfl : t = u := by omega
      rw [hpn _ (Nat.le_refl _), up_eq, up_eq]
      refine ⟨fun _ => c.tl, fun z => ?_, fun z => absurd z hT2, fun z => by omega⟩
      rw [c.nl z, if_neg (by decide)]
  · intro u k1 k2 k3
    by_cases e1 : u = t
    · subst e1; simp
    · rw [up_ne e1] at k3; exact List.mem_append_left _ (c.q2 u k1 k2 k3)
  · intro _; rw [hl]; exact c.n1 t ht h1 hp
  · intro u k1 k2 k3
    by_cases e1 : u = t
    · subst e1; rw [up_eq] at k3; omega
    · rw [up_ne e1] at k3; exact c.n1 u k1 k2 k3
  · intro u k1 k2
    rw [up_ne (by rintro rfl; omega)]; exact c.p0 u k1 k2
  · intro u k1 k2
    by_cases e1 : u = t
    · subst e1; rw [up_eq]; omega
    · rw [up_ne e1]; exact c.p1 u k1 k2
  · intro u k1 k2
    have e1 : u ≠ t := by rintro rfl; omega
    rw [up_ne e1, up_ne e1]
    rcases c.p3 u k1 k2 with k | k | ⟨k3, k4, k5⟩ | ⟨k3, v, k4, k5, k6⟩
    · exact .inl k
    · exact .inr (.inl k)
    · exact .inr (.inr (.inl ⟨k3, k4, by simp⟩))
    · refine .inr (.inr (.inr ⟨k3, v, ?_, ?_, k6⟩))
      · cases q with
        | nil => simp at k4
        | cons x r => simpa using k4
      · obtain ⟨z1, z2⟩ := head_at k4
        rw [up_ne (hqt 0 v z1 z2)]; exact k5
/-- Nobody is ahead: it has the lock. -/
theorem CI.first (c : CI n N K T s p o q h) (t : Nat) (ht : t < n) (h1 : s t = 1) (hp : p t = 1) (hT : T = 0) : q = [] ∧ h = none ∧ CI n N K (t + 1) (up s t 2) (up p t 0) (up o t 0) [] (some t) := by
  have hT2 : pn q h q.length = 0 := by rw [← c.tl]; exact hT
  have hq : q = [] := by
    cases q with
    | nil => rfl
    | cons x r =>
      exfalso
      obtain ⟨u, e1, _⟩ := c.q1 ((x :: r).length - 1) (by simp)
      unfold pn at hT2
      rw [if_neg (by simp), e1] at hT2
      omega
  subst hq
  have hh : h = none := by
    cases h with
    | none => rfl
    | some v => have : (v : Int) + 1 = 0 := hT2; omega
  subst hh
  have nob : ∀ u, u < n → ¬ (s u = 2 ∨ s u = 3 ∨ s u = 4) := fun u hu z => by have := c.hh u hu z; cases this
  refine ⟨rfl, rfl, c.n8, by simp, fun i hi => by simp at hi, fun i hi => by simp at hi, ?_, rfl, ?_, ?_, ?_, ?_, ?_, ?_, ?_, ?_⟩
  · intro u k1 k2 k3
    by_cases e1 : u = t
    · subst e1; rw [up_eq] at k2; omega
    · rw [up_ne e1] at k2 k3; exact c.q2 u k1 k2 k3
  · intro _; exact c.n1 t ht h1 hp
  · intro u k1 k2 k3
    by_cases e1 : u = t
    · subst e1; rw [up_eq] at k2; omega
    · rw [up_ne e1] at k2 k3; exact c.n1 u k1 k2 k3
  · intro u k1 k2
    by_cases e1 : u = t
    · subst e1; exact up_eq
    · rw [up_ne e1] at k2 ⊢; exact c.p0 u k1 k2
  · intro u k1 k2
    by_cases e1 : u = t
    · subst e1; rw [up_eq] at k2; omega
    · rw [up_ne e1] at k2 ⊢; exact c.p1 u k1 k2
  · intro u k1 k2
    by_cases e1 : u = t
    · subst e1; rw [up_eq] at k2; omega
    · rw [up_ne e1] at k2; exact absurd (.inr (.inl k2)) (nob u k1)
  · intro u k1 k2
    by_cases e1 : u = t
    · rw [e1]
    · rw [up_ne e1] at k2; exact absurd k2 (nob u k1)
  · intro u e
    obtain rfl : t = u := by simpa using e
    exact ⟨ht, by rw [up_eq]; exact .inl rfl⟩
  · intro u k1
    by_cases e1 : u = t
    · subst e1; rw [up_eq]; omega
    · rw [up_ne e1]; exact c.rg u k1
/-- Its locked is raised. -/
theorem CI.raise (c : CI n N K T s p o q h) (t : Nat) (ht : t < n) (h1 : s t = 1) (hp : p t = 2) : CI n N (upI K (t + 1) 1) T s (up p t 3) o q h := by
  refine ⟨c.n8, c.nodup, ?_, ?_, ?_, c.tl, c.nl, ?_, ?_, ?_, ?_, c.hh, c.h1, c.rg⟩
  · intro i hi
    obtain ⟨u, e1, k1, k2, k3⟩ := c.q1 i hi
    refine ⟨u, e1, k1, k2, ?_⟩
    by_cases e : u = t
    · subst e; rw [up_eq]; omega
    · rw [up_ne e]; exact k3
  · intro i hi u e1
    obtain ⟨k1, k2, k3, k4⟩ := c.qo i hi u e1
    by_cases e : u = t
    · subst e
      have hpz : pn q h i ≠ 0 := fun z => by have := k3 z; omega
      rw [up_eq, upI_eq, if_neg hpz]
      refine ⟨fun _ => k1 (by omega), fun z => ?_, fun z => absurd z hpz, fun _ => rfl⟩
      rw [k2 z, if_neg (by omega), if_neg (by omega)]
    · rw [up_ne e, upI_ne (by omega)]; exact ⟨k1, k2, k3, k4⟩
  · intro u k1 k2 k3
    by_cases e : u = t
    · subst e; exact c.q2 u k1 k2 (by omega)
    · rw [up_ne e] at k3; exact c.q2 u k1 k2 k3
  · intro u k1 k2 k3
    by_cases e : u = t
    · subst e; rw [up_eq] at k3; omega
    · rw [up_ne e] at k3; exact c.n1 u k1 k2 k3
  · intro u k1 k2
    rw [up_ne (by rintro rfl; omega)]; exact c.p0 u k1 k2
  · intro u k1 k2
    by_cases e : u = t
    · subst e; rw [up_eq]; omega
    · rw [up_ne e]; exact c.p1 u k1 k2
  · intro u k1 k2
    rw [up_ne (by rintro rfl; omega)]
    rcases c.p3 u k1 k2 with k | k | k | ⟨k3, v, k4, k5, k6⟩
    · exact .inl k
    · exact .inr (.inl k)
    · exact .inr (.inr (.inl k))
    · refine .inr (.inr (.inr ⟨k3, v, k4, ?_, k6⟩))
      rw [up_ne (by rintro rfl; omega)]; exact k5
/-- It is linked. -/
theorem CI.link (c : CI n N K T s p o q h) (t : Nat) (ht : t < n) (h1 : s t = 1) (hp : p t = 3) : (1 ≤ o t ∧ o t ≤ n) ∧ CI n (upI N (o t) (t + 1)) K T s (up p t 4) o q h := by
  obtain ⟨j, hj, ej⟩ := c.at t ht h1 (by omega)
  obtain ⟨a1, a2, a3, a4⟩ := c.qo j hj t ej
  have ea := a1 (by omega)
  have hpz : pn q h j ≠ 0 := fun z => by have := a3 z; omega
  have hr := c.pr j (by omega)
  refine ⟨by omega, ?_⟩
  have hne : ∀ i, i ≤ q.length → i ≠ j → pn q h i ≠ o t := fun i hi e z => by
    rw [ea] at z
    exact e (c.pn_inj hi (by omega) (by rw [z]; exact hpz) z)
  have hqt : ∀ i u, i < q.length → q.getD i 0 = (u : Nat) → i ≠ j → u ≠ t := fun i u hi e z y => by
    subst y
    exact z (nodup_get c.nodup hi hj (by rw [e, ej]))
  have hju : ∀ u : Nat, q.getD j 0 = u → u = t := fun u e => by omega
  have hone : ∀ u, u < n → u ≠ t → s u = 1 → p u = 1 → (u : Int) + 1 ≠ o t := fun u k1 k2 k3 k4 z => by
    rw [ea] at z
    rcases c.who u j (by omega) z.symm with ⟨_, y⟩ | ⟨_, y⟩
    · have := (c.h1 u y).2; omega
    · obtain ⟨u', e1, _, _, k⟩ := c.q1 (j - 1) (by omega)
      obtain rfl : u = u' := by omega
      omega
  refine ⟨c.n8, c.nodup, ?_, ?_, ?_, c.tl, ?_, ?_, ?_, ?_, ?_, c.hh, c.h1, c.rg⟩
  · intro i hi
    obtain ⟨u, e1, k1, k2, k3⟩ := c.q1 i hi
    refine ⟨u, e1, k1, k2, ?_⟩
    by_cases e : u = t
    · subst e; rw [up_eq]; omega
    · rw [up_ne e]; exact k3
  · intro i hi u e1
    by_cases e : i = j
    · subst e
      obtain rfl := hju u e1
      rw [up_eq, ← ea, upI_eq]
      refine ⟨fun z => absurd rfl z, fun _ => by rw [if_pos rfl], fun _ => rfl, fun _ => ?_⟩
      rw [ea]; exact a4 (.inl hp)
    · have hu := hqt i u hi e1 e
      rw [up_ne hu, upI_ne (hne i (by omega) e)]
      exact c.qo i hi u e1
  · intro u k1 k2 k3
    by_cases e : u = t
    · subst e; exact c.q2 u k1 k2 (by omega)
    · rw [up_ne e] at k3; exact c.q2 u k1 k2 k3
  · rw [upI_ne (hne _ (Nat.le_refl _) (by omega))]; exact c.nl
  · intro u k1 k2 k3
    by_cases e : u = t
    · subst e; rw [up_eq] at k3; omega
    · rw [up_ne e] at k3
      rw [upI_ne (hone u k1 e k2 k3)]; exact c.n1 u k1 k2 k3
  · intro u k1 k2
    rw [up_ne (by rintro rfl; omega)]; exact c.p0 u k1 k2
  · intro u k1 k2
    by_cases e : u = t
    · subst e; rw [up_eq]; omega
    · rw [up_ne e]; exact c.p1 u k1 k2
  · intro u k1 k2
    rw [up_ne (by rintro rfl; omega)]
    rcases c.p3 u k1 k2 with k | k | k | ⟨k3, v, k4, k5, k6⟩
    · exact .inl k
    · exact .inr (.inl k)
    · exact .inr (.inr (.inl k))
    · refine .inr (.inr (.inr ⟨k3, v, k4, ?_, k6⟩))
      by_cases e : v = t
      · subst e; exact up_eq
      · rw [up_ne e]; exact k5
/-- Who waits sees its locked fall when it is the first, and nobody has the lock. -/
theorem CI.sees (c : CI n N K T s p o q h) (t : Nat) (ht : t < n) (h1 : s t = 1) (hp : p t = 4) : (K (t + 1) = 0 ∧ h = none ∧ q.head? = some (t : Int)) ∨ (K (t + 1) ≠ 0 ∧ ¬ (h = none ∧ q.head? = some (t : Int))) := by
  obtain ⟨j, hj, ej⟩ := c.at t ht h1 (by omega)
  obtain ⟨_, _, _, a4⟩ := c.qo j hj t ej
  rw [a4 (.inr hp)]
  by_cases hz : pn q h j = 0
  · left
    rw [if_pos hz]
    refine ⟨rfl, ?_⟩
    unfold pn at hz
    split at hz
    · rename_i e
      subst e
      refine ⟨by cases h with | none => rfl | some v => (have hz : (v : Int) + 1 = 0 := hz; omega), ?_⟩
      cases q with
      | nil => simp at hj
      | cons x r =>
        have : x = (t : Int) := ej
        rw [this]; rfl
    · obtain ⟨u, e1, _⟩ := c.q1 (j - 1) (by omega)
      omega
  · right
    rw [if_neg hz]
    refine ⟨by decide, fun ⟨z1, z2⟩ => ?_⟩
    obtain ⟨y1, y2⟩ := head_at z2
    obtain rfl : j = 0 := nodup_get c.nodup hj y1 (by rw [ej, y2])
    subst z1
    exact hz rfl
/-- The first one has the lock. -/
theorem CI.grant (c : CI n N K T s p o q none) (t : Nat) (ht : t < n) (h1 : s t = 1) (hq : q.head? = some (t : Int)) : CI n N K T (up s t 2) (up p t 0) (up o t 0) (q.filter (· != (t : Int))) (some t) := by
  obtain ⟨r, rfl⟩ : ∃ r, q = (t : Int) :: r := by
    cases q with
    | nil => simp at hq
    | cons x r => simp at hq; exact ⟨r, by rw [hq]⟩
  have hnd := List.nodup_cons.1 c.nodup
  have hfil : ((t : Int) :: r).filter (· != (t : Int)) = r := by
    rw [List.filter_cons, if_neg (by simp), List.filter_eq_self]
    intro y hy
    simp
    rintro rfl
    exact hnd.1 hy
  have hpn : ∀ i, pn r (some t) i = pn ((t : Int) :: r) none (i + 1) := fun i => by
    unfold pn
    by_cases hi : i = 0
    · subst hi; rfl
    · rw [if_neg hi, if_neg (Nat.succ_ne_zero i)]
      obtain ⟨j, rfl⟩ : ∃ j, i = j + 1 := ⟨i - 1, by omega⟩
      rfl
  have hrt : ∀ i u, i < r.length → r.getD i 0 = (u : Nat) → u ≠ t := fun i u hi e z => by
    subst z
    have : r.getD i 0 ∈ r := by rw [getD_lt _ _ _ hi]; exact List.getElem_mem _
    rw [e] at this; exact hnd.1 this
  have nob : ∀ u, u < n → ¬ (s u = 2 ∨ s u = 3 ∨ s u = 4) := fun u hu z => by have := c.hh u hu z; cases this
  rw [hfil]
  refine ⟨c.n8, hnd.2, ?_, ?_, ?_, ?_, ?_, ?_, ?_, ?_, ?_, ?_, ?_, ?_⟩
  · intro i hi
    obtain ⟨u, e1, k1, k2, k3⟩ := c.q1 (i + 1) (by simpa using hi)
    have e1 : r.getD i 0 = u := e1
    have hu := hrt i u hi e1
    exact ⟨u, e1, k1, by rw [up_ne hu]; exact k2, by rw [up_ne hu]; exact k3⟩
  · intro i hi u e1
    have hu := hrt i u hi e1
    rw [hpn, up_ne hu, up_ne hu]
    exact c.qo (i + 1) (by simpa using hi) u e1
  · intro u k1 k2 k3
    by_cases e : u = t
    · subst e; rw [up_eq] at k2; omega
    · rw [up_ne e] at k2 k3
      rcases List.mem_cons.1 (c.q2 u k1 k2 k3) with k4 | k4
      · omega
      · exact k4
  · rw [hpn]; exact c.tl
  · rw [hpn]; exact c.nl
  · intro u k1 k2 k3
    by_cases e : u = t
    · subst e; rw [up_eq] at k2; omega
    · rw [up_ne e] at k2 k3; exact c.n1 u k1 k2 k3
  · intro u k1 k2
    by_cases e : u = t
    · subst e; exact up_eq
    · rw [up_ne e] at k2 ⊢; exact c.p0 u k1 k2
  · intro u k1 k2
    by_cases e : u = t
    · subst e; rw [up_eq] at k2; omega
    · rw [up_ne e] at k2 ⊢; exact c.p1 u k1 k2
  · intro u k1 k2
    by_cases e : u = t
    · subst e; rw [up_eq] at k2; omega
    · rw [up_ne e] at k2; exact absurd (.inr (.inl k2)) (nob u k1)
  · intro u k1 k2
    by_cases e : u = t
    · rw [e]
    · rw [up_ne e] at k2; exact absurd k2 (nob u k1)
  · intro u e
    obtain rfl : t = u := by simpa using e
    exact ⟨ht, by rw [up_eq]; exact .inl rfl⟩
  · intro u k1
    by_cases e : u = t
    · subst e; rw [up_eq]; omega
    · rw [up_ne e]; exact c.rg u k1
/-- Only the holder's step and other turn. -/
theorem CI.turn (c : CI n N K T s p o q h) (t : Nat) (ht : t < n) (h3 : s t = 3) (x y : Int) (hxy : x = 0 ∨ (x = 1 ∧ y = 0) ∨ (x = 2 ∧ y = 0 ∧ q ≠ []) ∨ (x = 3 ∧ ∃ v : Nat, q.head? = some (v : Int) ∧ p v = 4 ∧ y = v + 1)) : CI n N K T s (up p t x) (up o t y) q h := by
  have hqt : ∀ u : Nat, (u : Int) ∈ q → u ≠ t := fun u hm z => by subst z; have := (c.mem u hm).2.1; omega
  have hqi : ∀ i u, i < q.length → q.getD i 0 = (u : Nat) → u ≠ t := fun i u hi e => hqt u (by rw [← e, getD_lt _ _ _ hi]; exact List.getElem_mem _)
  refine ⟨c.n8, c.nodup, ?_, ?_, ?_, c.tl, c.nl, ?_, ?_, ?_, ?_, c.hh, c.h1, c.rg⟩
  · intro i hi
    obtain ⟨u, e1, k1, k2, k3⟩ := c.q1 i hi
    exact ⟨u, e1, k1, k2, by rw [up_ne (hqi i u hi e1)]; exact k3⟩
  · intro i hi u e1
    rw [up_ne (hqi i u hi e1), up_ne (hqi i u hi e1)]; exact c.qo i hi u e1
  · intro u k1 k2 k3
    rw [up_ne (by rintro rfl; omega)] at k3; exact c.q2 u k1 k2 k3
  · intro u k1 k2 k3
    rw [up_ne (by rintro rfl; omega)] at k3; exact c.n1 u k1 k2 k3
  · intro u k1 k2
    rw [up_ne (by rintro rfl; omega)]; exact c.p0 u k1 k2
  · intro u k1 k2
    rw [up_ne (by rintro rfl; omega)]; exact c.p1 u k1 k2
  · intro u k1 k2
    have a := c.hh u k1 (.inr (.inl k2))
    have b := c.hh t ht (.inr (.inl h3))
    obtain rfl : t = u := by rw [a] at b; simpa using b.symm
    rw [up_eq, up_eq]
    rcases hxy with k | k | k | ⟨k3, v, k4, k5, k6⟩
    · exact .inl k
    · exact .inr (.inl k)
    · exact .inr (.inr (.inl k))
    · obtain ⟨z1, z2⟩ := head_at k4
      exact .inr (.inr (.inr ⟨k3, v, k4, by rw [up_ne (hqi 0 v z1 z2)]; exact k5, k6⟩))
/-- The other of one that stands in no queue, and unlocks nothing, may be whatever. -/
theorem CI.other (c : CI n N K T s p o q h) (t : Nat) (hq : (t : Int) ∉ q) (h3 : s t ≠ 3) (y : Int) : CI n N K T s p (up o t y) q h := by
  refine ⟨c.n8, c.nodup, c.q1, ?_, c.q2, c.tl, c.nl, c.n1, c.p0, c.p1, ?_, c.hh, c.h1, c.rg⟩
  · intro i hi u e1
    have hu : u ≠ t := fun z => by
      subst z
      have : q.getD i 0 ∈ q := by rw [getD_lt _ _ _ hi]; exact List.getElem_mem _
      rw [e1] at this; exact hq this
    rw [up_ne hu]; exact c.qo i hi u e1
  · intro u k1 k2
    rw [up_ne (by rintro rfl; exact h3 k2)]; exact c.p3 u k1 k2
/-- What the holder sees in its next: nothing, or the first of the queue, which is linked. -/
theorem CI.looks (c : CI n N K T s p o q h) (t : Nat) (ht : t < n) (h3 : s t = 2 ∨ s t = 3 ∨ s t = 4) : (N (t + 1) = 0 ∧ (q = [] ∨ ∃ v : Nat, q.head? = some (v : Int) ∧ v < n ∧ s v = 1 ∧ (p v = 2 ∨ p v = 3))) ∨ (∃ v : Nat, q.head? = some (v : Int) ∧ v < n ∧ p v = 4 ∧ N (t + 1) = v + 1) := by
  have b := c.hh t ht h3
  subst b
  cases q with
  | nil => exact .inl ⟨c.nl (by show (t : Int) + 1 ≠ 0; omega), .inl rfl⟩
  | cons x r =>
    obtain ⟨v, e1, k1, k2, k3⟩ := c.q1 0 (by simp)
    obtain ⟨_, b2, _, _⟩ := c.qo 0 (by simp) v e1
    have e1 : x = (v : Int) := e1
    have a2 : N ((t : Int) + 1) = if p v = 4 then (v : Int) + 1 else 0 := b2 (by show (t : Int) + 1 ≠ 0; omega)
    clear b2
    subst e1
    by_cases e : p v = 4
    · right
      rw [if_pos e] at a2
      exact ⟨v, rfl, k1, e, a2⟩
    · left
      rw [if_neg e] at a2
      exact ⟨a2, .inr ⟨v, rfl, k1, k2, by omega⟩⟩
theorem CI.tail_is (c : CI n N K T s p o q h) (t : Nat) (ht : t < n) (h3 : s t = 2 ∨ s t = 3 ∨ s t = 4) : (T = t + 1 ↔ q = []) := by
  have b := c.hh t ht h3
  subst b
  rw [c.tl]
  constructor
  · intro e
    have : q.length = 0 := c.pn_inj (Nat.le_refl _) (Nat.zero_le _) (by omega) (by rw [e]; rfl)
    exact List.length_eq_zero_iff.1 this
  · rintro rfl; rfl
/-- Nobody is behind: the lock is free. -/
theorem CI.leave (c : CI n N K T s p o q h) (t : Nat) (ht : t < n) (h3 : s t = 3) (hT : T = t + 1) : q = [] ∧ CI n N K 0 (up s t 0) (up p t 0) (up o t 0) q none := by
  have hq := (c.tail_is t ht (.inr (.inl h3))).1 hT
  have b := c.hh t ht (.inr (.inl h3))
  subst b
  subst hq
  have nob : ∀ u, u < n → u ≠ t → ¬ (s u = 2 ∨ s u = 3 ∨ s u = 4) := fun u hu e z => by have := c.hh u hu z; simp at this; omega
  refine ⟨rfl, c.n8, by simp, fun i hi => by simp at hi, fun i hi => by simp at hi, ?_, rfl, fun z => absurd rfl z, ?_, ?_, ?_, ?_, ?_, (fun t ht => by cases ht), ?_⟩
  · intro u k1 k2 k3
    by_cases e : u = t
    · subst e; rw [up_eq] at k2; omega
    · rw [up_ne e] at k2 k3; exact c.q2 u k1 k2 k3
  · intro u k1 k2 k3
    by_cases e : u = t
    · subst e; rw [up_eq] at k2; omega
    · rw [up_ne e] at k2 k3; exact c.n1 u k1 k2 k3
  · intro u k1 k2
    by_cases e : u = t
    · subst e; exact up_eq
    · rw [up_ne e] at k2 ⊢; exact c.p0 u k1 k2
  · intro u k1 k2
    by_cases e : u = t
    · subst e; rw [up_eq] at k2; omega
    · rw [up_ne e] at k2 ⊢; exact c.p1 u k1 k2
  · intro u k1 k2
    by_cases e : u = t
    · subst e; rw [up_eq] at k2; omega
    · rw [up_ne e] at k2; exact absurd (.inr (.inl k2)) (nob u k1 e)
  · intro u k1 k2
    by_cases e : u = t
    · subst e; rw [up_eq] at k2; omega
    · rw [up_ne e] at k2; exact absurd k2 (nob u k1 e)
  · intro u k1
    by_cases e : u = t
    · subst e; rw [up_eq]; omega
    · rw [up_ne e]; exact c.rg u k1
/-- The next one's locked falls. -/
theorem CI.hand (c : CI n N K T s p o q h) (t : Nat) (ht : t < n) (h3 : s t = 3) (hp : p t = 3) : (1 ≤ o t ∧ o t ≤ n) ∧ CI n N (upI K (o t) 0) T (up s t 0) (up p t 0) (up o t 0) q none := by
  have b := c.hh t ht (.inr (.inl h3))
  subst b
  obtain ⟨v, hv, pv, ov⟩ : ∃ v : Nat, q.head? = some (v : Int) ∧ p v = 4 ∧ o t = v + 1 := by
    rcases c.p3 t ht h3 with k | k | k | k
    · omega
    · omega
    · omega
    · exact k.2
  obtain ⟨q0, g0⟩ := head_at hv
  have hqt : ∀ u : Nat, (u : Int) ∈ q → u ≠ t := fun u hm z => by subst z; have := (c.mem u hm).2.1; omega
  have hqi : ∀ i u, i < q.length → q.getD i 0 = (u : Nat) → u ≠ t := fun i u hi e => hqt u (by rw [← e, getD_lt _ _ _ hi]; exact List.getElem_mem _)
  have hvn : v < n := (c.mem v (by rw [← g0, getD_lt _ _ _ q0]; exact List.getElem_mem _)).1
  have nob : ∀ u, u < n → u ≠ t → ¬ (s u = 2 ∨ s u = 3 ∨ s u = 4) := fun u hu e z => by have := c.hh u hu z; simp at this; omega
  have hpn : ∀ i, i ≠ 0 → pn q none i = pn q (some t) i := fun i hi => by unfold pn; rw [if_neg hi, if_neg hi]
  refine ⟨by omega, c.n8, c.nodup, ?_, ?_, ?_, ?_, ?_, ?_, ?_, ?_, ?_, ?_, (fun t ht => by cases ht), ?_⟩
  · intro i hi
    obtain ⟨u, e1, k1, k2, k3⟩ := c.q1 i hi
    have hu := hqi i u hi e1
    exact ⟨u, e1, k1, by rw [up_ne hu]; exact k2, by rw [up_ne hu]; exact k3⟩
  · intro i hi u e1
    have hu := hqi i u hi e1
    rw [up_ne hu, up_ne hu]
    by_cases hi0 : i = 0
    · subst hi0
      obtain rfl : u = v := by omega
      have hz : pn q none 0 = 0 := rfl
      rw [hz, ov, upI_eq]
      exact ⟨fun z => absurd pv z, fun z => absurd rfl z, fun _ => pv, fun _ => rfl⟩
    · rw [hpn i hi0, upI_ne (show (u : Int) + 1 ≠ o t by
        rw [ov]
        intro z
        have : i = 0 := nodup_get c.nodup hi q0 (by rw [e1, g0]; omega)
        exact hi0 this)]
      exact c.qo i hi u e1
  · intro u k1 k2 k3
    by_cases e : u = t
    · subst e; rw [up_eq] at k2; omega
    · rw [up_ne e] at k2 k3; exact c.q2 u k1 k2 k3
  · rw [hpn _ (by omega)]; exact c.tl
  · rw [hpn _ (by omega)]; exact c.nl
  · intro u k1 k2 k3
    by_cases e : u = t
    · subst e; rw [up_eq] at k2; omega
    · rw [up_ne e] at k2 k3; exact c.n1 u k1 k2 k3
  · intro u k1 k2
    by_cases e : u = t
    · subst e; exact up_eq
    · rw [up_ne e] at k2 ⊢; exact c.p0 u k1 k2
  · intro u k1 k2
    by_cases e : u = t
    · subst e; rw [up_eq] at k2; omega
    · rw [up_ne e] at k2 ⊢; exact c.p1 u k1 k2
  · intro u k1 k2
    by_cases e : u = t
    · subst e; rw [up_eq] at k2; omega
    · rw [up_ne e] at k2; exact absurd (.inr (.inl k2)) (nob u k1 e)
  · intro u k1 k2
    by_cases e : u = t
    · subst e; rw [up_eq] at k2; omega
    · rw [up_ne e] at k2; exact absurd k2 (nob u k1 e)
  · intro u k1
    by_cases e : u = t
    · subst e; rw [up_eq]; omega
    · rw [up_ne e]; exact c.rg u k1
end Go.Proofs.Ytemcpnickdcekaa.McsQ
