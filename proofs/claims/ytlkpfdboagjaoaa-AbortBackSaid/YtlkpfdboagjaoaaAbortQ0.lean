/- The lock of whom time may run out: the invariant of its queue, over functions. No program in sight. -/
import Derived.Test.YtlkpfdboagjaoaaAbortI
namespace Go.Proofs.Ytlkpfdboagjaoaa.AbortQ
def up (f : Nat → Int) (t : Nat) (v : Int) : Nat → Int := fun u => if u = t then v else f u
def upI (F : Int → Int) (t v : Int) : Int → Int := fun u => if u = t then v else F u
theorem up_eq (f : Nat → Int) (t : Nat) (v : Int) : up f t v t = v := by simp [up]
theorem up_ne (f : Nat → Int) {t u : Nat} (v : Int) (h : u ≠ t) : up f t v u = f u := by simp [up, h]
/-- Who has the queue's head as its own. -/
def Kd (s sp : Nat → Int) (t : Nat) : Prop := s t = 2 ∨ (s t = 3 ∧ sp t ≤ 4)
/-- Contexts: state, step, node, the other one, rank of those who wait; nodes: state, next, out, the queue by ranks H ≤ i < E, whose each is; the tail. -/
structure AQ (n : Nat) (M : Int) (s sp nd ot r : Nat → Int) (F N U nq ow : Int → Int) (T H E : Int) : Prop where
  n8 : n ≤ 8
  rg : ∀ t, t < n → 0 ≤ s t ∧ s t ≤ 3
  s1 : ∀ t, t < n → s t = 1 → 0 ≤ sp t ∧ sp t ≤ 7
  s3 : ∀ t, t < n → s t = 3 → 0 ≤ sp t ∧ sp t ≤ 5
  s0 : ∀ t, t < n → s t = 0 ∨ s t = 2 → sp t = 0
  hE : H ≤ E
  inj : ∀ i j, H ≤ i → i < E → H ≤ j → j < E → nq i = nq j → i = j
  pos : ∀ i, H ≤ i → i < E → 1 ≤ nq i
  t0 : H = E → T = 0
  t1 : H < E → T = nq (E - 1)
  nl : H < E → N (nq (E - 1)) = 0
  nx : ∀ i, H ≤ i → i + 1 < E → N (nq i) = nq (i + 1) ∨ (N (nq i) = 0 ∧ ∃ u, u < n ∧ s u = 1 ∧ sp u = 5 ∧ r u = i + 1)
  wt : ∀ t, t < n → s t = 1 → 5 ≤ sp t → H ≤ r t ∧ r t < E ∧ nq (r t) = nd t ∧ ow (nd t) = t
  w5 : ∀ t, t < n → s t = 1 → sp t = 5 → H < r t ∧ ot t = nq (r t - 1) ∧ N (nq (r t - 1)) = 0
  wf : ∀ t, t < n → s t = 1 → 5 ≤ sp t → F (nd t) = 0 ∨ (F (nd t) = 1 ∧ r t = H ∧ ∀ u, u < n → ¬ Kd s sp u)
  kh : ∀ t, t < n → Kd s sp t → H < E ∧ nd t = nq H
  kk : ∀ t u, t < n → u < n → Kd s sp t → Kd s sp u → t = u
  kf : ∀ t u, t < n → u < n → Kd s sp t → s u = 1 → 5 ≤ sp u → H < r u
  rk : ∀ i, H < i → i < E → F (nq i) = 2 ∨ ∃ t, t < n ∧ s t = 1 ∧ 5 ≤ sp t ∧ r t = i
  r0 : H < E → (∃ t, t < n ∧ Kd s sp t) ∨ ∃ t, t < n ∧ s t = 1 ∧ 5 ≤ sp t ∧ r t = H ∧ F (nd t) = 1
  uq : ∀ i, H ≤ i → i < E → U (nq i) = 1
  cl : ∀ t, t < n → s t = 1 → 1 ≤ sp t → sp t ≤ 4 → ow (nd t) = t ∧ 1 ≤ nd t ∧ (sp t = 1 → U (nd t) = 0) ∧ (2 ≤ sp t → U (nd t) = 1) ∧ (3 ≤ sp t → F (nd t) = 0) ∧ (sp t = 4 → N (nd t) = 0)
  cq : ∀ t i, t < n → s t = 1 → 1 ≤ sp t → sp t ≤ 4 → H ≤ i → i < E → nq i ≠ nd t
  dq : ∀ t i, t < n → s t = 3 → sp t = 5 → H ≤ i → i < E → nq i ≠ nd t
  du : ∀ t, t < n → s t = 3 → sp t = 5 → U (nd t) = 1
  dc : ∀ t u, t < n → u < n → s t = 3 → sp t = 5 → s u = 1 → 1 ≤ sp u → sp u ≤ 4 → nd u ≠ nd t
  dd : ∀ t u, t < n → u < n → s t = 3 → sp t = 5 → s u = 3 → sp u = 5 → nd u = nd t → u = t
  u3 : ∀ t, t < n → s t = 3 → sp t = 3 ∨ sp t = 4 → H + 1 < E ∧ ot t = nq (H + 1) ∧ N (nq H) = nq (H + 1)
  u4 : ∀ t, t < n → s t = 3 → sp t = 4 → F (nq (H + 1)) = 2
  u2 : ∀ t, t < n → s t = 3 → sp t = 2 → H + 1 < E
  pm : ∀ i, H ≤ i → i < E → nq i ≤ M
  nm : ∀ t, t < n → nd t ≤ M
  bz : ∀ x, 1 ≤ x → U x = 0 ∨ (∃ i, H ≤ i ∧ i < E ∧ nq i = x) ∨ ∃ v, v < n ∧ nd v = x ∧ ((s v = 1 ∧ 2 ≤ sp v ∧ sp v ≤ 4) ∨ (s v = 3 ∧ sp v = 5))
variable {n : Nat} {M : Int} {s sp nd ot r : Nat → Int} {F N U nq ow : Int → Int} {T H E : Int}
end Go.Proofs.Ytlkpfdboagjaoaa.AbortQ
