/- The lock of whom time may run out: the queue's invariant, a way. No program in sight. -/
import Derived.Test.YtlkpfdboagjaoaaAbortQ0
namespace Go.Proofs.Ytlkpfdboagjaoaa.AbortQ
variable {n : Nat} {M : Int} {s sp nd ot r : Nat → Int} {F N U nq ow : Int → Int} {T H E : Int}
set_option maxHeartbeats 1000000 in
theorem AQ.queue0 (h : AQ n M s sp nd ot r F N U nq ow T H E) (t : Nat) (ht : t < n) (h0 : s t = 1) (hp : sp t = 4) (hT : T = 0) : AQ n M (up s t 2) (up sp t 0) nd ot r F N U (upI nq E (nd t)) ow (nd t) H (E + 1) := by
  have hs := h.s1 t ht
  have hs3 := h.s3 t ht
  have hs0 := h.s0 t ht
  have hc := h.cl t ht h0 (by omega) (by omega)
  have hq := h.cq t
  have hcl := h.cl
  have hdc := h.dc
  have hwt := h.wt
  have h1 := h.t1
  have hpo := h.pos
  have hh := h.hE
  have hEH : H = E := by
    by_cases e : H < E
    · have := h1 e; have := hpo (E - 1) (by omega) (by omega); omega
    · omega
  have hkh := h.kh
  constructor
  case n8 => first | exact h.n8 | (have hh := h.n8; grind [up, upI, Kd])
  case rg => first | exact h.rg | (have hh := h.rg; grind [up, upI, Kd])
  case s1 => first | exact h.s1 | (have hh := h.s1; grind [up, upI, Kd])
  case s3 => first | exact h.s3 | (have hh := h.s3; grind [up, upI, Kd])
  case s0 => first | exact h.s0 | (have hh := h.s0; grind [up, upI, Kd])
  case hE => first | exact h.hE | (have hh := h.hE; grind [up, upI, Kd])
  case inj => first | exact h.inj | (have hh := h.inj; grind [up, upI, Kd])
  case pos => first | exact h.pos | (have hh := h.pos; grind [up, upI, Kd])
  case t0 => first | exact h.t0 | (have hh := h.t0; grind [up, upI, Kd])
  case t1 => first | exact h.t1 | (have hh := h.t1; grind [up, upI, Kd])
  case nl => first | exact h.nl | (have hh := h.nl; grind [up, upI, Kd])
  case nx => first | exact h.nx | (have hh := h.nx; grind [up, upI, Kd])
  case wt => first | exact h.wt | (have hh := h.wt; grind [up, upI, Kd])
  case w5 => first | exact h.w5 | (have hh := h.w5; grind [up, upI, Kd])
  case wf => first | exact h.wf | (have hh := h.wf; grind [up, upI, Kd])
  case kh => first | exact h.kh | (have hh := h.kh; grind [up, upI, Kd])
  case kk => first | exact h.kk | (have hh := h.kk; grind [up, upI, Kd])
  case kf => first | exact h.kf | (have hh := h.kf; grind [up, upI, Kd])
  case rk => first | exact h.rk | (have hh := h.rk; grind [up, upI, Kd])
  case r0 => first | exact h.r0 | (have hh := h.r0; grind [up, upI, Kd])
  case uq => first | exact h.uq | (have hh := h.uq; grind [up, upI, Kd])
  case cl => first | exact h.cl | (have hh := h.cl; grind [up, upI, Kd])
  case cq => first | exact h.cq | (have hh := h.cq; grind [up, upI, Kd])
  case dq => first | exact h.dq | (have hh := h.dq; grind [up, upI, Kd])
  case du => first | exact h.du | (have hh := h.du; grind [up, upI, Kd])
  case dc => first | exact h.dc | (have hh := h.dc; grind [up, upI, Kd])
  case dd => first | exact h.dd | (have hh := h.dd; grind [up, upI, Kd])
  case u3 => first | exact h.u3 | (have hh := h.u3; grind [up, upI, Kd])
  case u4 => first | exact h.u4 | (have hh := h.u4; grind [up, upI, Kd])
  case u2 => first | exact h.u2 | (have hh := h.u2; grind [up, upI, Kd])
  case pm => 
    intro i h1 h2
    unfold upI
    by_cases e : i = E
    · rw [if_pos e]; exact h.nm t ht
    · rw [if_neg e]; exact h.pm i h1 (by omega)
  case nm => first | exact h.nm | (have hh := h.nm; grind [up, upI, Kd])
  case bz => 
    intro x hx
    rcases h.bz x hx with q | ⟨i, i1, i2, q⟩ | ⟨v, hv, q1, q2⟩
    · exact .inl q
    · exact .inr (.inl ⟨i, i1, by omega, by unfold upI; rw [if_neg (by omega)]; exact q⟩)
    · by_cases e : v = t
      · subst e; exact .inr (.inl ⟨E, by omega, by omega, by unfold upI; rw [if_pos rfl]; exact q1⟩)
      · refine .inr (.inr ⟨v, hv, q1, ?_⟩)
        simp only [up, if_neg e]
        exact q2
set_option maxHeartbeats 1000000 in
theorem AQ.queue1 (h : AQ n M s sp nd ot r F N U nq ow T H E) (t : Nat) (ht : t < n) (h0 : s t = 1) (hp : sp t = 4) (hT : T ≠ 0) : AQ n M s (up sp t 5) nd (up ot t T) (up r t E) F N U (upI nq E (nd t)) ow (nd t) H (E + 1) := by
  have hs := h.s1 t ht
  have hs3 := h.s3 t ht
  have hs0 := h.s0 t ht
  have hc := h.cl t ht h0 (by omega) (by omega)
  have hq := h.cq t
  have hcl := h.cl
  have hdc := h.dc
  have hwt := h.wt
  have h1 := h.t1
  have hpo := h.pos
  have hh := h.hE
  have hnl := h.nl
  have hEH : H < E := by
    by_cases e : H = E
    · exact absurd (h.t0 e) hT
    · omega
  constructor
  case n8 => first | exact h.n8 | (have hh := h.n8; grind [up, upI, Kd])
  case rg => first | exact h.rg | (have hh := h.rg; grind [up, upI, Kd])
  case s1 => first | exact h.s1 | (have hh := h.s1; grind [up, upI, Kd])
  case s3 => first | exact h.s3 | (have hh := h.s3; grind [up, upI, Kd])
  case s0 => first | exact h.s0 | (have hh := h.s0; grind [up, upI, Kd])
  case hE => first | exact h.hE | (have hh := h.hE; grind [up, upI, Kd])
  case inj => first | exact h.inj | (have hh := h.inj; grind [up, upI, Kd])
  case pos => first | exact h.pos | (have hh := h.pos; grind [up, upI, Kd])
  case t0 => first | exact h.t0 | (have hh := h.t0; grind [up, upI, Kd])
  case t1 => first | exact h.t1 | (have hh := h.t1; grind [up, upI, Kd])
  case nl => first | exact h.nl | (have hh := h.nl; grind [up, upI, Kd])
  case nx => first | exact h.nx | (have hh := h.nx; grind [up, upI, Kd])
  case wt => first | exact h.wt | (have hh := h.wt; grind [up, upI, Kd])
  case w5 => first | exact h.w5 | (have hh := h.w5; grind [up, upI, Kd])
  case wf => first | exact h.wf | (have hh := h.wf; grind [up, upI, Kd])
  case kh => first | exact h.kh | (have hh := h.kh; grind [up, upI, Kd])
  case kk => 
    have f : ∀ a, Kd s (up sp t 5) a → Kd s sp a := by
      intro a k; unfold Kd at *
      by_cases e : a = t
      · subst e; omega
      · rw [up_ne _ _ e] at k; exact k
    intro a b ha hb k1 k2
    exact h.kk a b ha hb (f a k1) (f b k2)
  case kf => first | exact h.kf | (have hh := h.kf; grind [up, upI, Kd])
  case rk => first | exact h.rk | (have hh := h.rk; grind [up, upI, Kd])
  case r0 => first | exact h.r0 | (have hh := h.r0; grind [up, upI, Kd])
  case uq => first | exact h.uq | (have hh := h.uq; grind [up, upI, Kd])
  case cl => first | exact h.cl | (have hh := h.cl; grind [up, upI, Kd])
  case cq => first | exact h.cq | (have hh := h.cq; grind [up, upI, Kd])
  case dq => first | exact h.dq | (have hh := h.dq; grind [up, upI, Kd])
  case du => first | exact h.du | (have hh := h.du; grind [up, upI, Kd])
  case dc => first | exact h.dc | (have hh := h.dc; grind [up, upI, Kd])
  case dd => first | exact h.dd | (have hh := h.dd; grind [up, upI, Kd])
  case u3 => 
    intro u hu q1
    have e : u ≠ t := by intro e; subst e; omega
    simp only [up, if_neg e]
    intro q2
    have h3 := h.u3 u hu q1 q2
    have e1 : H + 1 ≠ E := by omega
    have e2 : H ≠ E := by omega
    simp only [upI, if_neg e1, if_neg e2]
    exact ⟨by omega, h3.2⟩
  case u4 => 
    intro u hu q1
    have e : u ≠ t := by intro e; subst e; omega
    simp only [up, if_neg e]
    intro q2
    have h3 := h.u3 u hu q1 (.inr q2)
    have e1 : H + 1 ≠ E := by omega
    simp only [upI, if_neg e1]
    exact h.u4 u hu q1 q2
  case u2 => first | exact h.u2 | (have hh := h.u2; grind [up, upI, Kd])
  case pm => 
    intro i h1 h2
    unfold upI
    by_cases e : i = E
    · rw [if_pos e]; exact h.nm t ht
    · rw [if_neg e]; exact h.pm i h1 (by omega)
  case nm => first | exact h.nm | (have hh := h.nm; grind [up, upI, Kd])
  case bz => 
    intro x hx
    rcases h.bz x hx with q | ⟨i, i1, i2, q⟩ | ⟨v, hv, q1, q2⟩
    · exact .inl q
    · exact .inr (.inl ⟨i, i1, by omega, by unfold upI; rw [if_neg (by omega)]; exact q⟩)
    · by_cases e : v = t
      · subst e; exact .inr (.inl ⟨E, by omega, by omega, by unfold upI; rw [if_pos rfl]; exact q1⟩)
      · refine .inr (.inr ⟨v, hv, q1, ?_⟩)
        simp only [up, if_neg e]
        exact q2
set_option maxHeartbeats 1000000 in
theorem AQ.link (h : AQ n M s sp nd ot r F N U nq ow T H E) (t : Nat) (ht : t < n) (h0 : s t = 1) (hp : sp t = 5) : AQ n M s (up sp t 6) nd ot r F (upI N (ot t) (nd t)) U nq ow T H E := by
  have hs := h.s1 t ht
  have hs3 := h.s3 t ht
  have hs0 := h.s0 t ht
  have hw := h.wt t ht h0 (by omega)
  have hwf := h.wf t ht h0 (by omega)
  have hwt := h.wt
  have h5 := h.w5 t ht h0 hp
  have hin := h.inj
  have hcq := h.cq
  constructor
  case n8 => first | exact h.n8 | (have hh := h.n8; grind [up, upI, Kd])
  case rg => first | exact h.rg | (have hh := h.rg; grind [up, upI, Kd])
  case s1 => first | exact h.s1 | (have hh := h.s1; grind [up, upI, Kd])
  case s3 => first | exact h.s3 | (have hh := h.s3; grind [up, upI, Kd])
  case s0 => first | exact h.s0 | (have hh := h.s0; grind [up, upI, Kd])
  case hE => first | exact h.hE | (have hh := h.hE; grind [up, upI, Kd])
  case inj => first | exact h.inj | (have hh := h.inj; grind [up, upI, Kd])
  case pos => first | exact h.pos | (have hh := h.pos; grind [up, upI, Kd])
  case t0 => first | exact h.t0 | (have hh := h.t0; grind [up, upI, Kd])
  case t1 => first | exact h.t1 | (have hh := h.t1; grind [up, upI, Kd])
  case nl => first | exact h.nl | (have hh := h.nl; grind [up, upI, Kd])
  case nx => 
    intro i h1 h2
    by_cases ei : i = r t - 1
    · refine .inl ?_
      rw [h5.2.1, ei, show r t - 1 + 1 = r t by omega, hw.2.2.1]
      simp [upI]
    · have ne : nq i ≠ ot t := by rw [h5.2.1]; intro e; exact ei (h.inj i (r t - 1) (by omega) (by omega) (by omega) (by omega) e)
      simp only [upI, if_neg ne]
      rcases h.nx i (by omega) (by omega) with q | ⟨q, u, hu, q1, q2, q3⟩
      · exact .inl q
      · have e : u ≠ t := by intro e; subst e; omega
        exact .inr ⟨q, u, hu, q1, by rw [up_ne _ _ e]; exact q2, q3⟩
  case wt => first | exact h.wt | (have hh := h.wt; grind [up, upI, Kd])
  case w5 => first | exact h.w5 | (have hh := h.w5; grind [up, upI, Kd])
  case wf => first | exact h.wf | (have hh := h.wf; grind [up, upI, Kd])
  case kh => first | exact h.kh | (have hh := h.kh; grind [up, upI, Kd])
  case kk => first | exact h.kk | (have hh := h.kk; grind [up, upI, Kd])
  case kf => first | exact h.kf | (have hh := h.kf; grind [up, upI, Kd])
  case rk => first | exact h.rk | (have hh := h.rk; grind [up, upI, Kd])
  case r0 => first | exact h.r0 | (have hh := h.r0; grind [up, upI, Kd])
  case uq => first | exact h.uq | (have hh := h.uq; grind [up, upI, Kd])
  case cl => first | exact h.cl | (have hh := h.cl; grind [up, upI, Kd])
  case cq => first | exact h.cq | (have hh := h.cq; grind [up, upI, Kd])
  case dq => first | exact h.dq | (have hh := h.dq; grind [up, upI, Kd])
  case du => first | exact h.du | (have hh := h.du; grind [up, upI, Kd])
  case dc => first | exact h.dc | (have hh := h.dc; grind [up, upI, Kd])
  case dd => first | exact h.dd | (have hh := h.dd; grind [up, upI, Kd])
  case u3 => first | exact h.u3 | (have hh := h.u3; grind [up, upI, Kd])
  case u4 => first | exact h.u4 | (have hh := h.u4; grind [up, upI, Kd])
  case u2 => first | exact h.u2 | (have hh := h.u2; grind [up, upI, Kd])
  case pm => first | exact h.pm | (have hh := h.pm; grind [up, upI, Kd])
  case nm => first | exact h.nm | (have hh := h.nm; grind [up, upI, Kd])
  case bz => first | exact h.bz | (have hh := h.bz; grind [up, upI, Kd])
set_option maxHeartbeats 1000000 in
theorem AQ.gone (h : AQ n M s sp nd ot r F N U nq ow T H E) (t : Nat) (ht : t < n) (h0 : s t = 1) (hp : sp t = 7) (hF : F (nd t) = 0) : AQ n M (up s t 0) (up sp t 0) nd ot r (upI F (nd t) 2) N U nq ow T H E := by
  have hs := h.s1 t ht
  have hs3 := h.s3 t ht
  have hs0 := h.s0 t ht
  have hw := h.wt t ht h0 (by omega)
  have hwf := h.wf t ht h0 (by omega)
  have hwt := h.wt
  have hin := h.inj
  have hcq := h.cq
  constructor
  case n8 => first | exact h.n8 | (have hh := h.n8; grind [up, upI, Kd])
  case rg => first | exact h.rg | (have hh := h.rg; grind [up, upI, Kd])
  case s1 => first | exact h.s1 | (have hh := h.s1; grind [up, upI, Kd])
  case s3 => first | exact h.s3 | (have hh := h.s3; grind [up, upI, Kd])
  case s0 => first | exact h.s0 | (have hh := h.s0; grind [up, upI, Kd])
  case hE => first | exact h.hE | (have hh := h.hE; grind [up, upI, Kd])
  case inj => first | exact h.inj | (have hh := h.inj; grind [up, upI, Kd])
  case pos => first | exact h.pos | (have hh := h.pos; grind [up, upI, Kd])
  case t0 => first | exact h.t0 | (have hh := h.t0; grind [up, upI, Kd])
  case t1 => first | exact h.t1 | (have hh := h.t1; grind [up, upI, Kd])
  case nl => first | exact h.nl | (have hh := h.nl; grind [up, upI, Kd])
  case nx => first | exact h.nx | (have hh := h.nx; grind [up, upI, Kd])
  case wt => first | exact h.wt | (have hh := h.wt; grind [up, upI, Kd])
  case w5 => first | exact h.w5 | (have hh := h.w5; grind [up, upI, Kd])
  case wf => first | exact h.wf | (have hh := h.wf; grind [up, upI, Kd])
  case kh => first | exact h.kh | (have hh := h.kh; grind [up, upI, Kd])
  case kk => first | exact h.kk | (have hh := h.kk; grind [up, upI, Kd])
  case kf => first | exact h.kf | (have hh := h.kf; grind [up, upI, Kd])
  case rk => first | exact h.rk | (have hh := h.rk; grind [up, upI, Kd])
  case r0 => first | exact h.r0 | (have hh := h.r0; grind [up, upI, Kd])
  case uq => first | exact h.uq | (have hh := h.uq; grind [up, upI, Kd])
  case cl => first | exact h.cl | (have hh := h.cl; grind [up, upI, Kd])
  case cq => first | exact h.cq | (have hh := h.cq; grind [up, upI, Kd])
  case dq => first | exact h.dq | (have hh := h.dq; grind [up, upI, Kd])
  case du => first | exact h.du | (have hh := h.du; grind [up, upI, Kd])
  case dc => first | exact h.dc | (have hh := h.dc; grind [up, upI, Kd])
  case dd => first | exact h.dd | (have hh := h.dd; grind [up, upI, Kd])
  case u3 => first | exact h.u3 | (have hh := h.u3; grind [up, upI, Kd])
  case u4 => first | exact h.u4 | (have hh := h.u4; grind [up, upI, Kd])
  case u2 => first | exact h.u2 | (have hh := h.u2; grind [up, upI, Kd])
  case pm => first | exact h.pm | (have hh := h.pm; grind [up, upI, Kd])
  case nm => first | exact h.nm | (have hh := h.nm; grind [up, upI, Kd])
  case bz => first | exact h.bz | (have hh := h.bz; grind [up, upI, Kd])
set_option maxHeartbeats 1000000 in
theorem AQ.leave (h : AQ n M s sp nd ot r F N U nq ow T H E) (t : Nat) (ht : t < n) (h0 : s t = 3) (hp : sp t = 1) (hT : T = nd t) : AQ n M s (up sp t 5) nd ot r F N U nq ow 0 E E := by
  have hs := h.s1 t ht
  have hs3 := h.s3 t ht
  have hs0 := h.s0 t ht
  have hk : Kd s sp t := by unfold Kd; omega
  have hkh := h.kh t ht hk
  have hkk := fun u hu hq => h.kk t u ht hu hk hq
  have h1 := h.t1 hkh.1
  have hin := h.inj (E - 1) H
  have hEH : E = H + 1 := by have := hkh.1; have := hin (by omega) (by omega) (by omega) (by omega) (by rw [← h1, hT, hkh.2]); omega
  have hcq := h.cq
  have hdq := h.dq
  have huq := h.uq
  have hkf := fun u => h.kf t u ht
  have hwt := h.wt
  constructor
  case n8 => first | exact h.n8 | (have hh := h.n8; grind [up, upI, Kd])
  case rg => first | exact h.rg | (have hh := h.rg; grind [up, upI, Kd])
  case s1 => first | exact h.s1 | (have hh := h.s1; grind [up, upI, Kd])
  case s3 => first | exact h.s3 | (have hh := h.s3; grind [up, upI, Kd])
  case s0 => first | exact h.s0 | (have hh := h.s0; grind [up, upI, Kd])
  case hE => first | exact h.hE | (have hh := h.hE; grind [up, upI, Kd])
  case inj => first | exact h.inj | (have hh := h.inj; grind [up, upI, Kd])
  case pos => first | exact h.pos | (have hh := h.pos; grind [up, upI, Kd])
  case t0 => first | exact h.t0 | (have hh := h.t0; grind [up, upI, Kd])
  case t1 => first | exact h.t1 | (have hh := h.t1; grind [up, upI, Kd])
  case nl => first | exact h.nl | (have hh := h.nl; grind [up, upI, Kd])
  case nx => first | exact h.nx | (have hh := h.nx; grind [up, upI, Kd])
  case wt => first | exact h.wt | (have hh := h.wt; grind [up, upI, Kd])
  case w5 => first | exact h.w5 | (have hh := h.w5; grind [up, upI, Kd])
  case wf => first | exact h.wf | (have hh := h.wf; grind [up, upI, Kd])
  case kh => first | exact h.kh | (have hh := h.kh; grind [up, upI, Kd])
  case kk => first | exact h.kk | (have hh := h.kk; grind [up, upI, Kd])
  case kf => first | exact h.kf | (have hh := h.kf; grind [up, upI, Kd])
  case rk => first | exact h.rk | (have hh := h.rk; grind [up, upI, Kd])
  case r0 => first | exact h.r0 | (have hh := h.r0; grind [up, upI, Kd])
  case uq => first | exact h.uq | (have hh := h.uq; grind [up, upI, Kd])
  case cl => first | exact h.cl | (have hh := h.cl; grind [up, upI, Kd])
  case cq => first | exact h.cq | (have hh := h.cq; grind [up, upI, Kd])
  case dq => first | exact h.dq | (have hh := h.dq; grind [up, upI, Kd])
  case du => first | exact h.du | (have hh := h.du; grind [up, upI, Kd])
  case dc => first | exact h.dc | (have hh := h.dc; grind [up, upI, Kd])
  case dd => first | exact h.dd | (have hh := h.dd; grind [up, upI, Kd])
  case u3 => first | exact h.u3 | (have hh := h.u3; grind [up, upI, Kd])
  case u4 => first | exact h.u4 | (have hh := h.u4; grind [up, upI, Kd])
  case u2 => first | exact h.u2 | (have hh := h.u2; grind [up, upI, Kd])
  case pm => first | exact h.pm | (have hh := h.pm; grind [up, upI, Kd])
  case nm => first | exact h.nm | (have hh := h.nm; grind [up, upI, Kd])
  case bz => 
    intro x hx
    rcases h.bz x hx with q | ⟨i, i1, i2, q⟩ | ⟨v, hv, q1, q2⟩
    · exact .inl q
    · by_cases e : i = H
      · subst e; exact .inr (.inr ⟨t, ht, by rw [← q]; exact hkh.2, .inr ⟨h0, up_eq _ _ _⟩⟩)
      · exact .inr (.inl ⟨i, by omega, i2, q⟩)
    · have e : v ≠ t := by intro e; subst e; omega
      exact .inr (.inr ⟨v, hv, q1, by rw [up_ne _ _ e]; exact q2⟩)
set_option maxHeartbeats 1000000 in
theorem AQ.hand (h : AQ n M s sp nd ot r F N U nq ow T H E) (t : Nat) (ht : t < n) (h0 : s t = 3) (hp : sp t = 3) (hF : F (ot t) = 0) : AQ n M s (up sp t 5) nd ot r (upI F (ot t) 1) N U nq ow T (H + 1) E := by
  have hs := h.s1 t ht
  have hs3 := h.s3 t ht
  have hs0 := h.s0 t ht
  have hk : Kd s sp t := by unfold Kd; omega
  have hkh := h.kh t ht hk
  have hkk := fun u hu hq => h.kk t u ht hu hk hq
  have h3 := h.u3 t ht h0 (.inl hp)
  have hrk := h.rk (H + 1) (by omega) (by omega)
  have hin := h.inj
  have hcq := h.cq
  have hdq := h.dq
  have huq := h.uq
  have hkf := fun u => h.kf t u ht
  have hwt := h.wt
  constructor
  case n8 => first | exact h.n8 | (have hh := h.n8; grind [up, upI, Kd])
  case rg => first | exact h.rg | (have hh := h.rg; grind [up, upI, Kd])
  case s1 => first | exact h.s1 | (have hh := h.s1; grind [up, upI, Kd])
  case s3 => first | exact h.s3 | (have hh := h.s3; grind [up, upI, Kd])
  case s0 => first | exact h.s0 | (have hh := h.s0; grind [up, upI, Kd])
  case hE => first | exact h.hE | (have hh := h.hE; grind [up, upI, Kd])
  case inj => first | exact h.inj | (have hh := h.inj; grind [up, upI, Kd])
  case pos => first | exact h.pos | (have hh := h.pos; grind [up, upI, Kd])
  case t0 => first | exact h.t0 | (have hh := h.t0; grind [up, upI, Kd])
  case t1 => first | exact h.t1 | (have hh := h.t1; grind [up, upI, Kd])
  case nl => first | exact h.nl | (have hh := h.nl; grind [up, upI, Kd])
  case nx => 
    intro i h1 h2
    rcases h.nx i (by omega) (by omega) with q | ⟨q, u, hu, q1, q2, q3⟩
    · exact .inl q
    · have e : u ≠ t := by intro e; subst e; omega
      exact .inr ⟨q, u, hu, by first | exact q1 | (rw [up_ne _ _ e]; exact q1), by first | exact q2 | (rw [up_ne _ _ e]; exact q2), q3⟩
  case wt => first | exact h.wt | (have hh := h.wt; grind [up, upI, Kd])
  case w5 => 
    intro u hu q1
    have e : u ≠ t := by intro e; subst e; omega
    simp only [up, if_neg e]
    intro q2
    have h5 := h.w5 u hu q1 q2
    refine ⟨?_, h5.2⟩
    have hne : r u ≠ H + 1 := by
      intro e2
      have h6 := h5.2.2
      rw [e2, show H + 1 - 1 = H by omega, h3.2.2] at h6
      have := h.pos (H + 1) (by omega) (by omega)
      omega
    omega
  case wf => first | exact h.wf | (have hh := h.wf; grind [up, upI, Kd])
  case kh => first | exact h.kh | (have hh := h.kh; grind [up, upI, Kd])
  case kk => first | exact h.kk | (have hh := h.kk; grind [up, upI, Kd])
  case kf => first | exact h.kf | (have hh := h.kf; grind [up, upI, Kd])
  case rk => 
    intro i h1 h2
    have ne : nq i ≠ ot t := by rw [h3.2.1]; intro e; have := h.inj i (H + 1) (by omega) (by omega) (by omega) (by omega) e; omega
    simp only [upI, if_neg ne]
    rcases h.rk i (by omega) h2 with q | ⟨u, hu, q1, q2, q3⟩
    · exact .inl q
    · have e : u ≠ t := by intro e; subst e; omega
      exact .inr ⟨u, hu, q1, by rw [up_ne _ _ e]; exact q2, q3⟩
  case r0 => first | exact h.r0 | (have hh := h.r0; grind [up, upI, Kd])
  case uq => first | exact h.uq | (have hh := h.uq; grind [up, upI, Kd])
  case cl => first | exact h.cl | (have hh := h.cl; grind [up, upI, Kd])
  case cq => first | exact h.cq | (have hh := h.cq; grind [up, upI, Kd])
  case dq => first | exact h.dq | (have hh := h.dq; grind [up, upI, Kd])
  case du => first | exact h.du | (have hh := h.du; grind [up, upI, Kd])
  case dc => first | exact h.dc | (have hh := h.dc; grind [up, upI, Kd])
  case dd => first | exact h.dd | (have hh := h.dd; grind [up, upI, Kd])
  case u3 => first | exact h.u3 | (have hh := h.u3; grind [up, upI, Kd])
  case u4 => first | exact h.u4 | (have hh := h.u4; grind [up, upI, Kd])
  case u2 => first | exact h.u2 | (have hh := h.u2; grind [up, upI, Kd])
  case pm => first | exact h.pm | (have hh := h.pm; grind [up, upI, Kd])
  case nm => first | exact h.nm | (have hh := h.nm; grind [up, upI, Kd])
  case bz => 
    intro x hx
    rcases h.bz x hx with q | ⟨i, i1, i2, q⟩ | ⟨v, hv, q1, q2⟩
    · exact .inl q
    · by_cases e : i = H
      · subst e; exact .inr (.inr ⟨t, ht, by rw [← q]; exact hkh.2, .inr ⟨h0, up_eq _ _ _⟩⟩)
      · exact .inr (.inl ⟨i, by omega, i2, q⟩)
    · have e : v ≠ t := by intro e; subst e; omega
      exact .inr (.inr ⟨v, hv, q1, by rw [up_ne _ _ e]; exact q2⟩)
set_option maxHeartbeats 1000000 in
theorem AQ.over (h : AQ n M s sp nd ot r F N U nq ow T H E) (t : Nat) (ht : t < n) (h0 : s t = 3) (hp : sp t = 3) (hF : F (ot t) ≠ 0) : AQ n M s (up sp t 4) nd ot r F N U nq ow T H E := by
  have hs := h.s1 t ht
  have hs3 := h.s3 t ht
  have hs0 := h.s0 t ht
  have hk : Kd s sp t := by unfold Kd; omega
  have hkh := h.kh t ht hk
  have hkk := fun u hu hq => h.kk t u ht hu hk hq
  have h3 := h.u3 t ht h0 (.inl hp)
  have hrk := h.rk (H + 1) (by omega) (by omega)
  have hwf := h.wf
  have hwt := h.wt
  constructor
  case n8 => first | exact h.n8 | (have hh := h.n8; grind [up, upI, Kd])
  case rg => first | exact h.rg | (have hh := h.rg; grind [up, upI, Kd])
  case s1 => first | exact h.s1 | (have hh := h.s1; grind [up, upI, Kd])
  case s3 => first | exact h.s3 | (have hh := h.s3; grind [up, upI, Kd])
  case s0 => first | exact h.s0 | (have hh := h.s0; grind [up, upI, Kd])
  case hE => first | exact h.hE | (have hh := h.hE; grind [up, upI, Kd])
  case inj => first | exact h.inj | (have hh := h.inj; grind [up, upI, Kd])
  case pos => first | exact h.pos | (have hh := h.pos; grind [up, upI, Kd])
  case t0 => first | exact h.t0 | (have hh := h.t0; grind [up, upI, Kd])
  case t1 => first | exact h.t1 | (have hh := h.t1; grind [up, upI, Kd])
  case nl => first | exact h.nl | (have hh := h.nl; grind [up, upI, Kd])
  case nx => first | exact h.nx | (have hh := h.nx; grind [up, upI, Kd])
  case wt => first | exact h.wt | (have hh := h.wt; grind [up, upI, Kd])
  case w5 => first | exact h.w5 | (have hh := h.w5; grind [up, upI, Kd])
  case wf => first | exact h.wf | (have hh := h.wf; grind [up, upI, Kd])
  case kh => first | exact h.kh | (have hh := h.kh; grind [up, upI, Kd])
  case kk => first | exact h.kk | (have hh := h.kk; grind [up, upI, Kd])
  case kf => first | exact h.kf | (have hh := h.kf; grind [up, upI, Kd])
  case rk => first | exact h.rk | (have hh := h.rk; grind [up, upI, Kd])
  case r0 => first | exact h.r0 | (have hh := h.r0; grind [up, upI, Kd])
  case uq => first | exact h.uq | (have hh := h.uq; grind [up, upI, Kd])
  case cl => 
    intro u hu q1
    have e : u ≠ t := by intro e; subst e; omega
    simp only [up, if_neg e]
    exact h.cl u hu q1
  case cq => first | exact h.cq | (have hh := h.cq; grind [up, upI, Kd])
  case dq => first | exact h.dq | (have hh := h.dq; grind [up, upI, Kd])
  case du => first | exact h.du | (have hh := h.du; grind [up, upI, Kd])
  case dc => first | exact h.dc | (have hh := h.dc; grind [up, upI, Kd])
  case dd => first | exact h.dd | (have hh := h.dd; grind [up, upI, Kd])
  case u3 => first | exact h.u3 | (have hh := h.u3; grind [up, upI, Kd])
  case u4 => first | exact h.u4 | (have hh := h.u4; grind [up, upI, Kd])
  case u2 => first | exact h.u2 | (have hh := h.u2; grind [up, upI, Kd])
  case pm => first | exact h.pm | (have hh := h.pm; grind [up, upI, Kd])
  case nm => first | exact h.nm | (have hh := h.nm; grind [up, upI, Kd])
  case bz => first | exact h.bz | (have hh := h.bz; grind [up, upI, Kd])
set_option maxHeartbeats 1000000 in
theorem AQ.skip (h : AQ n M s sp nd ot r F N U nq ow T H E) (t : Nat) (ht : t < n) (h0 : s t = 3) (hp : sp t = 4) : AQ n M s (up sp t 0) (up nd t (ot t)) (up ot t 0) r F N (upI U (nd t) 0) nq ow T (H + 1) E := by
  have hs := h.s1 t ht
  have hs3 := h.s3 t ht
  have hs0 := h.s0 t ht
  have hk : Kd s sp t := by unfold Kd; omega
  have hkh := h.kh t ht hk
  have hkk := fun u hu hq => h.kk t u ht hu hk hq
  have h3 := h.u3 t ht h0 (.inr hp)
  have h4 := h.u4 t ht h0 hp
  have hin := h.inj
  have hcq := h.cq
  have hdq := h.dq
  have huq := h.uq
  have hkf := fun u => h.kf t u ht
  have hwt := h.wt
  have hwf := h.wf
  constructor
  case n8 => first | exact h.n8 | (have hh := h.n8; grind [up, upI, Kd])
  case rg => first | exact h.rg | (have hh := h.rg; grind [up, upI, Kd])
  case s1 => first | exact h.s1 | (have hh := h.s1; grind [up, upI, Kd])
  case s3 => first | exact h.s3 | (have hh := h.s3; grind [up, upI, Kd])
  case s0 => first | exact h.s0 | (have hh := h.s0; grind [up, upI, Kd])
  case hE => first | exact h.hE | (have hh := h.hE; grind [up, upI, Kd])
  case inj => first | exact h.inj | (have hh := h.inj; grind [up, upI, Kd])
  case pos => first | exact h.pos | (have hh := h.pos; grind [up, upI, Kd])
  case t0 => first | exact h.t0 | (have hh := h.t0; grind [up, upI, Kd])
  case t1 => first | exact h.t1 | (have hh := h.t1; grind [up, upI, Kd])
  case nl => first | exact h.nl | (have hh := h.nl; grind [up, upI, Kd])
  case nx => 
    intro i h1 h2
    rcases h.nx i (by omega) (by omega) with q | ⟨q, u, hu, q1, q2, q3⟩
    · exact .inl q
    · have e : u ≠ t := by intro e; subst e; omega
      exact .inr ⟨q, u, hu, by first | exact q1 | (rw [up_ne _ _ e]; exact q1), by first | exact q2 | (rw [up_ne _ _ e]; exact q2), q3⟩
  case wt => first | exact h.wt | (have hh := h.wt; grind [up, upI, Kd])
  case w5 => first | exact h.w5 | (have hh := h.w5; grind [up, upI, Kd])
  case wf => first | exact h.wf | (have hh := h.wf; grind [up, upI, Kd])
  case kh => first | exact h.kh | (have hh := h.kh; grind [up, upI, Kd])
  case kk => first | exact h.kk | (have hh := h.kk; grind [up, upI, Kd])
  case kf => first | exact h.kf | (have hh := h.kf; grind [up, upI, Kd])
  case rk => first | exact h.rk | (have hh := h.rk; grind [up, upI, Kd])
  case r0 => first | exact h.r0 | (have hh := h.r0; grind [up, upI, Kd])
  case uq => first | exact h.uq | (have hh := h.uq; grind [up, upI, Kd])
  case cl => first | exact h.cl | (have hh := h.cl; grind [up, upI, Kd])
  case cq => first | exact h.cq | (have hh := h.cq; grind [up, upI, Kd])
  case dq => first | exact h.dq | (have hh := h.dq; grind [up, upI, Kd])
  case du => first | exact h.du | (have hh := h.du; grind [up, upI, Kd])
  case dc => first | exact h.dc | (have hh := h.dc; grind [up, upI, Kd])
  case dd => first | exact h.dd | (have hh := h.dd; grind [up, upI, Kd])
  case u3 => first | exact h.u3 | (have hh := h.u3; grind [up, upI, Kd])
  case u4 => first | exact h.u4 | (have hh := h.u4; grind [up, upI, Kd])
  case u2 => first | exact h.u2 | (have hh := h.u2; grind [up, upI, Kd])
  case pm => first | exact h.pm | (have hh := h.pm; grind [up, upI, Kd])
  case nm => 
    intro u hu
    by_cases e : u = t
    · subst e; rw [up_eq, h3.2.1]; exact h.pm _ (by omega) (by omega)
    · rw [up_ne _ _ e]; exact h.nm u hu
  case bz => 
    intro x hx
    by_cases ex : x = nd t
    · left; unfold upI; rw [if_pos ex]
    rcases h.bz x hx with q | ⟨i, i1, i2, q⟩ | ⟨v, hv, q1, q2⟩
    · left; unfold upI; rw [if_neg ex]; exact q
    · have e : i ≠ H := by intro e; subst e; exact ex (by rw [← q]; exact hkh.2.symm)
      exact .inr (.inl ⟨i, by omega, i2, q⟩)
    · have e : v ≠ t := by intro e; subst e; omega
      exact .inr (.inr ⟨v, hv, by rw [up_ne _ _ e]; exact q1, by rw [up_ne _ _ e]; exact q2⟩)
set_option maxHeartbeats 1000000 in
theorem AQ.done (h : AQ n M s sp nd ot r F N U nq ow T H E) (t : Nat) (ht : t < n) (h0 : s t = 3) (hp : sp t = 5) : AQ n M (up s t 0) (up sp t 0) nd ot r F N (upI U (nd t) 0) nq ow T H E := by
  have hs := h.s1 t ht
  have hs3 := h.s3 t ht
  have hs0 := h.s0 t ht
  have hdq := h.dq t
  have hdc := h.dc t
  have hdd := h.dd t
  have hduu := h.du t ht h0 hp
  constructor
  case n8 => first | exact h.n8 | (have hh := h.n8; grind [up, upI, Kd])
  case rg => first | exact h.rg | (have hh := h.rg; grind [up, upI, Kd])
  case s1 => first | exact h.s1 | (have hh := h.s1; grind [up, upI, Kd])
  case s3 => first | exact h.s3 | (have hh := h.s3; grind [up, upI, Kd])
  case s0 => first | exact h.s0 | (have hh := h.s0; grind [up, upI, Kd])
  case hE => first | exact h.hE | (have hh := h.hE; grind [up, upI, Kd])
  case inj => first | exact h.inj | (have hh := h.inj; grind [up, upI, Kd])
  case pos => first | exact h.pos | (have hh := h.pos; grind [up, upI, Kd])
  case t0 => first | exact h.t0 | (have hh := h.t0; grind [up, upI, Kd])
  case t1 => first | exact h.t1 | (have hh := h.t1; grind [up, upI, Kd])
  case nl => first | exact h.nl | (have hh := h.nl; grind [up, upI, Kd])
  case nx => first | exact h.nx | (have hh := h.nx; grind [up, upI, Kd])
  case wt => first | exact h.wt | (have hh := h.wt; grind [up, upI, Kd])
  case w5 => first | exact h.w5 | (have hh := h.w5; grind [up, upI, Kd])
  case wf => first | exact h.wf | (have hh := h.wf; grind [up, upI, Kd])
  case kh => first | exact h.kh | (have hh := h.kh; grind [up, upI, Kd])
  case kk => first | exact h.kk | (have hh := h.kk; grind [up, upI, Kd])
  case kf => first | exact h.kf | (have hh := h.kf; grind [up, upI, Kd])
  case rk => first | exact h.rk | (have hh := h.rk; grind [up, upI, Kd])
  case r0 => first | exact h.r0 | (have hh := h.r0; grind [up, upI, Kd])
  case uq => first | exact h.uq | (have hh := h.uq; grind [up, upI, Kd])
  case cl => first | exact h.cl | (have hh := h.cl; grind [up, upI, Kd])
  case cq => first | exact h.cq | (have hh := h.cq; grind [up, upI, Kd])
  case dq => first | exact h.dq | (have hh := h.dq; grind [up, upI, Kd])
  case du => first | exact h.du | (have hh := h.du; grind [up, upI, Kd])
  case dc => first | exact h.dc | (have hh := h.dc; grind [up, upI, Kd])
  case dd => first | exact h.dd | (have hh := h.dd; grind [up, upI, Kd])
  case u3 => first | exact h.u3 | (have hh := h.u3; grind [up, upI, Kd])
  case u4 => first | exact h.u4 | (have hh := h.u4; grind [up, upI, Kd])
  case u2 => first | exact h.u2 | (have hh := h.u2; grind [up, upI, Kd])
  case pm => first | exact h.pm | (have hh := h.pm; grind [up, upI, Kd])
  case nm => first | exact h.nm | (have hh := h.nm; grind [up, upI, Kd])
  case bz => first | exact h.bz | (have hh := h.bz; grind [up, upI, Kd])
end Go.Proofs.Ytlkpfdboagjaoaa.AbortQ
