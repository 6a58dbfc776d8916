/- The lock of whom time may run out: the queue's invariant, a way. No program in sight. -/
import Derived.Test.YtlkpfdboagjaoaaAbortQ0
namespace Go.Proofs.Ytlkpfdboagjaoaa.AbortQ
variable {n : Nat} {M : Int} {s sp nd ot r : Nat → Int} {F N U nq ow : Int → Int} {T H E : Int}
set_option maxHeartbeats 1000000 in
theorem AQ.call (h : AQ n M s sp nd ot r F N U nq ow T H E) (t : Nat) (ht : t < n) (h0 : s t = 0) : AQ n M (up s t 1) sp nd ot r F N U nq ow T H E := by
  have hs := h.s1 t ht
  have hs3 := h.s3 t ht
  have hs0 := h.s0 t ht
  constructor
  case n8 => first | exact h.n8 | (have hh := h.n8; grind [up, upI, Kd])
  case rg => first | exact h.rg | (have hh := h.rg; grind [up, upI, Kd])
  case s1 => first | exact h.s1 | (have hh := h.s1; grind [up, upI, Kd])
  case s3 => first | exact h.s3 | (have hh := h.s3; grind [up, upI, Kd])
  case s0 => first | exact h.s0 | (have hh := h.s0; grind [up, upI, Kd])
  case hE => first | exact h.hE | (have hh := h.hE; grind [up, upI, Kd])
  case inj => first | exact h.inj | (have hh := h.inj; grind [up, upI, Kd])
  case pos => first | exact h.pos | (have hh := h.pos; grind [up, upI, Kd])
  case t0 => first | exact h.t0 | (have hh := h.t0; grind [up, upI, Kd])
  case t1 => first | exact h.t1 | (have hh := h.t1; grind [up, upI, Kd])
  case nl => first | exact h.nl | (have hh := h.nl; grind [up, upI, Kd])
  case nx => first | exact h.nx | (have hh := h.nx; grind [up, upI, Kd])
  case wt => first | exact h.wt | (have hh := h.wt; grind [up, upI, Kd])
  case w5 => first | exact h.w5 | (have hh := h.w5; grind [up, upI, Kd])
  case wf => first | exact h.wf | (have hh := h.wf; grind [up, upI, Kd])
  case kh => first | exact h.kh | (have hh := h.kh; grind [up, upI, Kd])
  case kk => first | exact h.kk | (have hh := h.kk; grind [up, upI, Kd])
  case kf => first | exact h.kf | (have hh := h.kf; grind [up, upI, Kd])
  case rk => first | exact h.rk | (have hh := h.rk; grind [up, upI, Kd])
  case r0 => first | exact h.r0 | (have hh := h.r0; grind [up, upI, Kd])
  case uq => first | exact h.uq | (have hh := h.uq; grind [up, upI, Kd])
  case cl => first | exact h.cl | (have hh := h.cl; grind [up, upI, Kd])
  case cq => first | exact h.cq | (have hh := h.cq; grind [up, upI, Kd])
  case dq => first | exact h.dq | (have hh := h.dq; grind [up, upI, Kd])
  case du => first | exact h.du | (have hh := h.du; grind [up, upI, Kd])
  case dc => first | exact h.dc | (have hh := h.dc; grind [up, upI, Kd])
  case dd => first | exact h.dd | (have hh := h.dd; grind [up, upI, Kd])
  case u3 => first | exact h.u3 | (have hh := h.u3; grind [up, upI, Kd])
  case u4 => first | exact h.u4 | (have hh := h.u4; grind [up, upI, Kd])
  case u2 => first | exact h.u2 | (have hh := h.u2; grind [up, upI, Kd])
  case pm => first | exact h.pm | (have hh := h.pm; grind [up, upI, Kd])
  case nm => first | exact h.nm | (have hh := h.nm; grind [up, upI, Kd])
  case bz => first | exact h.bz | (have hh := h.bz; grind [up, upI, Kd])
set_option maxHeartbeats 1000000 in
theorem AQ.unl (h : AQ n M s sp nd ot r F N U nq ow T H E) (t : Nat) (ht : t < n) (h0 : s t = 2) : AQ n M (up s t 3) sp nd ot r F N U nq ow T H E := by
  have hs := h.s1 t ht
  have hs3 := h.s3 t ht
  have hs0 := h.s0 t ht
  constructor
  case n8 => first | exact h.n8 | (have hh := h.n8; grind [up, upI, Kd])
  case rg => first | exact h.rg | (have hh := h.rg; grind [up, upI, Kd])
  case s1 => first | exact h.s1 | (have hh := h.s1; grind [up, upI, Kd])
  case s3 => first | exact h.s3 | (have hh := h.s3; grind [up, upI, Kd])
  case s0 => first | exact h.s0 | (have hh := h.s0; grind [up, upI, Kd])
  case hE => first | exact h.hE | (have hh := h.hE; grind [up, upI, Kd])
  case inj => first | exact h.inj | (have hh := h.inj; grind [up, upI, Kd])
  case pos => first | exact h.pos | (have hh := h.pos; grind [up, upI, Kd])
  case t0 => first | exact h.t0 | (have hh := h.t0; grind [up, upI, Kd])
  case t1 => first | exact h.t1 | (have hh := h.t1; grind [up, upI, Kd])
  case nl => first | exact h.nl | (have hh := h.nl; grind [up, upI, Kd])
  case nx => first | exact h.nx | (have hh := h.nx; grind [up, upI, Kd])
  case wt => first | exact h.wt | (have hh := h.wt; grind [up, upI, Kd])
  case w5 => first | exact h.w5 | (have hh := h.w5; grind [up, upI, Kd])
  case wf => first | exact h.wf | (have hh := h.wf; grind [up, upI, Kd])
  case kh => first | exact h.kh | (have hh := h.kh; grind [up, upI, Kd])
  case kk => first | exact h.kk | (have hh := h.kk; grind [up, upI, Kd])
  case kf => first | exact h.kf | (have hh := h.kf; grind [up, upI, Kd])
  case rk => first | exact h.rk | (have hh := h.rk; grind [up, upI, Kd])
  case r0 => first | exact h.r0 | (have hh := h.r0; grind [up, upI, Kd])
  case uq => first | exact h.uq | (have hh := h.uq; grind [up, upI, Kd])
  case cl => first | exact h.cl | (have hh := h.cl; grind [up, upI, Kd])
  case cq => first | exact h.cq | (have hh := h.cq; grind [up, upI, Kd])
  case dq => first | exact h.dq | (have hh := h.dq; grind [up, upI, Kd])
  case du => first | exact h.du | (have hh := h.du; grind [up, upI, Kd])
  case dc => first | exact h.dc | (have hh := h.dc; grind [up, upI, Kd])
  case dd => first | exact h.dd | (have hh := h.dd; grind [up, upI, Kd])
  case u3 => first | exact h.u3 | (have hh := h.u3; grind [up, upI, Kd])
  case u4 => first | exact h.u4 | (have hh := h.u4; grind [up, upI, Kd])
  case u2 => first | exact h.u2 | (have hh := h.u2; grind [up, upI, Kd])
  case pm => first | exact h.pm | (have hh := h.pm; grind [up, upI, Kd])
  case nm => first | exact h.nm | (have hh := h.nm; grind [up, upI, Kd])
  case bz => first | exact h.bz | (have hh := h.bz; grind [up, upI, Kd])
set_option maxHeartbeats 1000000 in
theorem AQ.find (h : AQ n M s sp nd ot r F N U nq ow T H E) (t : Nat) (ht : t < n) (h0 : s t = 1) (hp : sp t = 0) (x : Int) (hx : ow x = t) (h1 : 1 ≤ x) (hu : U x = 0) (hM : x ≤ M) : AQ n M s (up sp t 1) (up nd t x) ot r F N U nq ow T H E := by
  have hs := h.s1 t ht
  have hs3 := h.s3 t ht
  have hs0 := h.s0 t ht
  have hc := h.uq
  have hd := h.du
  constructor
  case n8 => first | exact h.n8 | (have hh := h.n8; grind [up, upI, Kd])
  case rg => first | exact h.rg | (have hh := h.rg; grind [up, upI, Kd])
  case s1 => first | exact h.s1 | (have hh := h.s1; grind [up, upI, Kd])
  case s3 => first | exact h.s3 | (have hh := h.s3; grind [up, upI, Kd])
  case s0 => first | exact h.s0 | (have hh := h.s0; grind [up, upI, Kd])
  case hE => first | exact h.hE | (have hh := h.hE; grind [up, upI, Kd])
  case inj => first | exact h.inj | (have hh := h.inj; grind [up, upI, Kd])
  case pos => first | exact h.pos | (have hh := h.pos; grind [up, upI, Kd])
  case t0 => first | exact h.t0 | (have hh := h.t0; grind [up, upI, Kd])
  case t1 => first | exact h.t1 | (have hh := h.t1; grind [up, upI, Kd])
  case nl => first | exact h.nl | (have hh := h.nl; grind [up, upI, Kd])
  case nx => first | exact h.nx | (have hh := h.nx; grind [up, upI, Kd])
  case wt => first | exact h.wt | (have hh := h.wt; grind [up, upI, Kd])
  case w5 => first | exact h.w5 | (have hh := h.w5; grind [up, upI, Kd])
  case wf => first | exact h.wf | (have hh := h.wf; grind [up, upI, Kd])
  case kh => first | exact h.kh | (have hh := h.kh; grind [up, upI, Kd])
  case kk => first | exact h.kk | (have hh := h.kk; grind [up, upI, Kd])
  case kf => first | exact h.kf | (have hh := h.kf; grind [up, upI, Kd])
  case rk => first | exact h.rk | (have hh := h.rk; grind [up, upI, Kd])
  case r0 => first | exact h.r0 | (have hh := h.r0; grind [up, upI, Kd])
  case uq => first | exact h.uq | (have hh := h.uq; grind [up, upI, Kd])
  case cl => first | exact h.cl | (have hh := h.cl; grind [up, upI, Kd])
  case cq => first | exact h.cq | (have hh := h.cq; grind [up, upI, Kd])
  case dq => first | exact h.dq | (have hh := h.dq; grind [up, upI, Kd])
  case du => first | exact h.du | (have hh := h.du; grind [up, upI, Kd])
  case dc => first | exact h.dc | (have hh := h.dc; grind [up, upI, Kd])
  case dd => first | exact h.dd | (have hh := h.dd; grind [up, upI, Kd])
  case u3 => first | exact h.u3 | (have hh := h.u3; grind [up, upI, Kd])
  case u4 => first | exact h.u4 | (have hh := h.u4; grind [up, upI, Kd])
  case u2 => first | exact h.u2 | (have hh := h.u2; grind [up, upI, Kd])
  case pm => first | exact h.pm | (have hh := h.pm; grind [up, upI, Kd])
  case nm => first | exact h.nm | (have hh := h.nm; grind [up, upI, Kd])
  case bz => first | exact h.bz | (have hh := h.bz; grind [up, upI, Kd])
set_option maxHeartbeats 1000000 in
theorem AQ.on (h : AQ n M s sp nd ot r F N U nq ow T H E) (t : Nat) (ht : t < n) (h0 : s t = 1) (hp : sp t = 0) (x : Int) (hM : x ≤ M) : AQ n M s sp (up nd t x) ot r F N U nq ow T H E := by
  have hs := h.s1 t ht
  have hs3 := h.s3 t ht
  have hs0 := h.s0 t ht
  constructor
  case n8 => first | exact h.n8 | (have hh := h.n8; grind [up, upI, Kd])
  case rg => first | exact h.rg | (have hh := h.rg; grind [up, upI, Kd])
  case s1 => first | exact h.s1 | (have hh := h.s1; grind [up, upI, Kd])
  case s3 => first | exact h.s3 | (have hh := h.s3; grind [up, upI, Kd])
  case s0 => first | exact h.s0 | (have hh := h.s0; grind [up, upI, Kd])
  case hE => first | exact h.hE | (have hh := h.hE; grind [up, upI, Kd])
  case inj => first | exact h.inj | (have hh := h.inj; grind [up, upI, Kd])
  case pos => first | exact h.pos | (have hh := h.pos; grind [up, upI, Kd])
  case t0 => first | exact h.t0 | (have hh := h.t0; grind [up, upI, Kd])
  case t1 => first | exact h.t1 | (have hh := h.t1; grind [up, upI, Kd])
  case nl => first | exact h.nl | (have hh := h.nl; grind [up, upI, Kd])
  case nx => first | exact h.nx | (have hh := h.nx; grind [up, upI, Kd])
  case wt => first | exact h.wt | (have hh := h.wt; grind [up, upI, Kd])
  case w5 => first | exact h.w5 | (have hh := h.w5; grind [up, upI, Kd])
  case wf => first | exact h.wf | (have hh := h.wf; grind [up, upI, Kd])
  case kh => first | exact h.kh | (have hh := h.kh; grind [up, upI, Kd])
  case kk => first | exact h.kk | (have hh := h.kk; grind [up, upI, Kd])
  case kf => first | exact h.kf | (have hh := h.kf; grind [up, upI, Kd])
  case rk => first | exact h.rk | (have hh := h.rk; grind [up, upI, Kd])
  case r0 => first | exact h.r0 | (have hh := h.r0; grind [up, upI, Kd])
  case uq => first | exact h.uq | (have hh := h.uq; grind [up, upI, Kd])
  case cl => first | exact h.cl | (have hh := h.cl; grind [up, upI, Kd])
  case cq => first | exact h.cq | (have hh := h.cq; grind [up, upI, Kd])
  case dq => first | exact h.dq | (have hh := h.dq; grind [up, upI, Kd])
  case du => first | exact h.du | (have hh := h.du; grind [up, upI, Kd])
  case dc => first | exact h.dc | (have hh := h.dc; grind [up, upI, Kd])
  case dd => first | exact h.dd | (have hh := h.dd; grind [up, upI, Kd])
  case u3 => first | exact h.u3 | (have hh := h.u3; grind [up, upI, Kd])
  case u4 => first | exact h.u4 | (have hh := h.u4; grind [up, upI, Kd])
  case u2 => first | exact h.u2 | (have hh := h.u2; grind [up, upI, Kd])
  case pm => first | exact h.pm | (have hh := h.pm; grind [up, upI, Kd])
  case nm => first | exact h.nm | (have hh := h.nm; grind [up, upI, Kd])
  case bz => first | exact h.bz | (have hh := h.bz; grind [up, upI, Kd])
set_option maxHeartbeats 1000000 in
theorem AQ.refused (h : AQ n M s sp nd ot r F N U nq ow T H E) (t : Nat) (ht : t < n) (h0 : s t = 1) (hp : sp t = 0) (x : Int) (hM : x ≤ M) : AQ n M (up s t 0) (up sp t 0) (up nd t x) ot r F N U nq ow T H E := by
  have hs := h.s1 t ht
  have hs3 := h.s3 t ht
  have hs0 := h.s0 t ht
  constructor
  case n8 => first | exact h.n8 | (have hh := h.n8; grind [up, upI, Kd])
  case rg => first | exact h.rg | (have hh := h.rg; grind [up, upI, Kd])
  case s1 => first | exact h.s1 | (have hh := h.s1; grind [up, upI, Kd])
  case s3 => first | exact h.s3 | (have hh := h.s3; grind [up, upI, Kd])
  case s0 => first | exact h.s0 | (have hh := h.s0; grind [up, upI, Kd])
  case hE => first | exact h.hE | (have hh := h.hE; grind [up, upI, Kd])
  case inj => first | exact h.inj | (have hh := h.inj; grind [up, upI, Kd])
  case pos => first | exact h.pos | (have hh := h.pos; grind [up, upI, Kd])
  case t0 => first | exact h.t0 | (have hh := h.t0; grind [up, upI, Kd])
  case t1 => first | exact h.t1 | (have hh := h.t1; grind [up, upI, Kd])
  case nl => first | exact h.nl | (have hh := h.nl; grind [up, upI, Kd])
  case nx => first | exact h.nx | (have hh := h.nx; grind [up, upI, Kd])
  case wt => first | exact h.wt | (have hh := h.wt; grind [up, upI, Kd])
  case w5 => first | exact h.w5 | (have hh := h.w5; grind [up, upI, Kd])
  case wf => first | exact h.wf | (have hh := h.wf; grind [up, upI, Kd])
  case kh => first | exact h.kh | (have hh := h.kh; grind [up, upI, Kd])
  case kk => first | exact h.kk | (have hh := h.kk; grind [up, upI, Kd])
  case kf => first | exact h.kf | (have hh := h.kf; grind [up, upI, Kd])
  case rk => first | exact h.rk | (have hh := h.rk; grind [up, upI, Kd])
  case r0 => 
    intro hE
    rcases h.r0 hE with ⟨u, hu, q⟩ | ⟨u, hu, q1, q2, q3, q4⟩
    · have e : u ≠ t := by intro e; subst e; unfold Kd at q; omega
      refine .inl ⟨u, hu, ?_⟩
      unfold Kd at *
      simp only [up, if_neg e]
      exact q
    · have e : u ≠ t := by intro e; subst e; omega
      refine .inr ⟨u, hu, ?_⟩
      simp only [up, if_neg e]
      exact ⟨q1, q2, q3, q4⟩
  case uq => first | exact h.uq | (have hh := h.uq; grind [up, upI, Kd])
  case cl => first | exact h.cl | (have hh := h.cl; grind [up, upI, Kd])
  case cq => first | exact h.cq | (have hh := h.cq; grind [up, upI, Kd])
  case dq => first | exact h.dq | (have hh := h.dq; grind [up, upI, Kd])
  case du => first | exact h.du | (have hh := h.du; grind [up, upI, Kd])
  case dc => first | exact h.dc | (have hh := h.dc; grind [up, upI, Kd])
  case dd => first | exact h.dd | (have hh := h.dd; grind [up, upI, Kd])
  case u3 => first | exact h.u3 | (have hh := h.u3; grind [up, upI, Kd])
  case u4 => first | exact h.u4 | (have hh := h.u4; grind [up, upI, Kd])
  case u2 => first | exact h.u2 | (have hh := h.u2; grind [up, upI, Kd])
  case pm => first | exact h.pm | (have hh := h.pm; grind [up, upI, Kd])
  case nm => first | exact h.nm | (have hh := h.nm; grind [up, upI, Kd])
  case bz => 
    intro y hy
    rcases h.bz y hy with q | q | ⟨v, hv, q1, q2⟩
    · exact .inl q
    · exact .inr (.inl q)
    · have e : v ≠ t := by intro e; subst e; omega
      exact .inr (.inr ⟨v, hv, by rw [up_ne _ _ e]; exact q1, by rw [up_ne _ _ e, up_ne _ _ e]; exact q2⟩)
set_option maxHeartbeats 1000000 in
theorem AQ.claim (h : AQ n M s sp nd ot r F N U nq ow T H E) (t : Nat) (ht : t < n) (h0 : s t = 1) (hp : sp t = 1) : AQ n M s (up sp t 2) nd ot r F N (upI U (nd t) 1) nq ow T H E := by
  have hs := h.s1 t ht
  have hs3 := h.s3 t ht
  have hs0 := h.s0 t ht
  have hc := h.cl t ht h0 (by omega) (by omega)
  have hq := h.cq t
  have hcl := h.cl
  have hdc := h.dc
  have hwt := h.wt
  constructor
  case n8 => first | exact h.n8 | (have hh := h.n8; grind [up, upI, Kd])
  case rg => first | exact h.rg | (have hh := h.rg; grind [up, upI, Kd])
  case s1 => first | exact h.s1 | (have hh := h.s1; grind [up, upI, Kd])
  case s3 => first | exact h.s3 | (have hh := h.s3; grind [up, upI, Kd])
  case s0 => first | exact h.s0 | (have hh := h.s0; grind [up, upI, Kd])
  case hE => first | exact h.hE | (have hh := h.hE; grind [up, upI, Kd])
  case inj => first | exact h.inj | (have hh := h.inj; grind [up, upI, Kd])
  case pos => first | exact h.pos | (have hh := h.pos; grind [up, upI, Kd])
  case t0 => first | exact h.t0 | (have hh := h.t0; grind [up, upI, Kd])
  case t1 => first | exact h.t1 | (have hh := h.t1; grind [up, upI, Kd])
  case nl => first | exact h.nl | (have hh := h.nl; grind [up, upI, Kd])
  case nx => first | exact h.nx | (have hh := h.nx; grind [up, upI, Kd])
  case wt => first | exact h.wt | (have hh := h.wt; grind [up, upI, Kd])
  case w5 => 
    intro u hu q1
    by_cases e : u = t
    · subst e; simp only [up, if_true]; intro q; omega
    · simp only [up, if_neg e]
      intro q2
      have h5 := h.w5 u hu q1 q2
      have hwu := h.wt u hu q1 (by omega)
      have ne := h.cq t (r u - 1) ht h0 (by omega) (by omega) (by omega) (by omega)
      first | exact h5 | exact ⟨h5.1, h5.2.1, by rw [if_neg ne]; exact h5.2.2⟩
  case wf => first | exact h.wf | (have hh := h.wf; grind [up, upI, Kd])
  case kh => first | exact h.kh | (have hh := h.kh; grind [up, upI, Kd])
  case kk => first | exact h.kk | (have hh := h.kk; grind [up, upI, Kd])
  case kf => first | exact h.kf | (have hh := h.kf; grind [up, upI, Kd])
  case rk => first | exact h.rk | (have hh := h.rk; grind [up, upI, Kd])
  case r0 => first | exact h.r0 | (have hh := h.r0; grind [up, upI, Kd])
  case uq => first | exact h.uq | (have hh := h.uq; grind [up, upI, Kd])
  case cl => 
    intro u hu q1
    by_cases e : u = t
    · subst e
      simp only [up, upI, eq_self, if_true]
      intro _ _
      have h2 := hc.2.2.2.1
      have h3 := hc.2.2.2.2.1
      have h4 := hc.2.2.2.2.2
      refine ⟨hc.1, hc.2.1, ?_, ?_, ?_, ?_⟩ <;> intro _ <;> first | rfl | trivial | omega | exact h2 (by omega) | exact h3 (by omega)
    · simp only [up, if_neg e, upI]
      intro q2 q3
      have hcu := h.cl u hu q1 q2 q3
      have ne : nd u ≠ nd t := by intro e2; have := hcu.1; rw [e2, hc.1] at this; exact e (by omega)
      simp only [if_neg ne]
      exact hcu
  case cq => first | exact h.cq | (have hh := h.cq; grind [up, upI, Kd])
  case dq => first | exact h.dq | (have hh := h.dq; grind [up, upI, Kd])
  case du => first | exact h.du | (have hh := h.du; grind [up, upI, Kd])
  case dc => first | exact h.dc | (have hh := h.dc; grind [up, upI, Kd])
  case dd => first | exact h.dd | (have hh := h.dd; grind [up, upI, Kd])
  case u3 => first | exact h.u3 | (have hh := h.u3; grind [up, upI, Kd])
  case u4 => first | exact h.u4 | (have hh := h.u4; grind [up, upI, Kd])
  case u2 => first | exact h.u2 | (have hh := h.u2; grind [up, upI, Kd])
  case pm => first | exact h.pm | (have hh := h.pm; grind [up, upI, Kd])
  case nm => first | exact h.nm | (have hh := h.nm; grind [up, upI, Kd])
  case bz => first | exact h.bz | (have hh := h.bz; grind [up, upI, Kd])
set_option maxHeartbeats 1000000 in
theorem AQ.fresh (h : AQ n M s sp nd ot r F N U nq ow T H E) (t : Nat) (ht : t < n) (h0 : s t = 1) (hp : sp t = 2) : AQ n M s (up sp t 3) nd ot r (upI F (nd t) 0) N U nq ow T H E := by
  have hs := h.s1 t ht
  have hs3 := h.s3 t ht
  have hs0 := h.s0 t ht
  have hc := h.cl t ht h0 (by omega) (by omega)
  have hq := h.cq t
  have hcl := h.cl
  have hdc := h.dc
  have hwt := h.wt
  constructor
  case n8 => first | exact h.n8 | (have hh := h.n8; grind [up, upI, Kd])
  case rg => first | exact h.rg | (have hh := h.rg; grind [up, upI, Kd])
  case s1 => first | exact h.s1 | (have hh := h.s1; grind [up, upI, Kd])
  case s3 => first | exact h.s3 | (have hh := h.s3; grind [up, upI, Kd])
  case s0 => first | exact h.s0 | (have hh := h.s0; grind [up, upI, Kd])
  case hE => first | exact h.hE | (have hh := h.hE; grind [up, upI, Kd])
  case inj => first | exact h.inj | (have hh := h.inj; grind [up, upI, Kd])
  case pos => first | exact h.pos | (have hh := h.pos; grind [up, upI, Kd])
  case t0 => first | exact h.t0 | (have hh := h.t0; grind [up, upI, Kd])
  case t1 => first | exact h.t1 | (have hh := h.t1; grind [up, upI, Kd])
  case nl => first | exact h.nl | (have hh := h.nl; grind [up, upI, Kd])
  case nx => first | exact h.nx | (have hh := h.nx; grind [up, upI, Kd])
  case wt => first | exact h.wt | (have hh := h.wt; grind [up, upI, Kd])
  case w5 => 
    intro u hu q1
    by_cases e : u = t
    · subst e; simp only [up, if_true]; intro q; omega
    · simp only [up, if_neg e]
      intro q2
      have h5 := h.w5 u hu q1 q2
      have hwu := h.wt u hu q1 (by omega)
      have ne := h.cq t (r u - 1) ht h0 (by omega) (by omega) (by omega) (by omega)
      first | exact h5 | exact ⟨h5.1, h5.2.1, by rw [if_neg ne]; exact h5.2.2⟩
  case wf => first | exact h.wf | (have hh := h.wf; grind [up, upI, Kd])
  case kh => first | exact h.kh | (have hh := h.kh; grind [up, upI, Kd])
  case kk => 
    have f : ∀ a, Kd s (up sp t 3) a → Kd s sp a := by
      intro a k; unfold Kd at *
      by_cases e : a = t
      · subst e; omega
      · rw [up_ne _ _ e] at k; exact k
    intro a b ha hb k1 k2
    exact h.kk a b ha hb (f a k1) (f b k2)
  case kf => first | exact h.kf | (have hh := h.kf; grind [up, upI, Kd])
  case rk => first | exact h.rk | (have hh := h.rk; grind [up, upI, Kd])
  case r0 => first | exact h.r0 | (have hh := h.r0; grind [up, upI, Kd])
  case uq => first | exact h.uq | (have hh := h.uq; grind [up, upI, Kd])
  case cl => 
    intro u hu q1
    by_cases e : u = t
    · subst e
      simp only [up, upI, eq_self, if_true]
      intro _ _
      have h2 := hc.2.2.2.1
      have h3 := hc.2.2.2.2.1
      have h4 := hc.2.2.2.2.2
      refine ⟨hc.1, hc.2.1, ?_, ?_, ?_, ?_⟩ <;> intro _ <;> first | rfl | trivial | omega | exact h2 (by omega) | exact h3 (by omega)
    · simp only [up, if_neg e, upI]
      intro q2 q3
      have hcu := h.cl u hu q1 q2 q3
      have ne : nd u ≠ nd t := by intro e2; have := hcu.1; rw [e2, hc.1] at this; exact e (by omega)
      simp only [if_neg ne]
      exact hcu
  case cq => first | exact h.cq | (have hh := h.cq; grind [up, upI, Kd])
  case dq => first | exact h.dq | (have hh := h.dq; grind [up, upI, Kd])
  case du => first | exact h.du | (have hh := h.du; grind [up, upI, Kd])
  case dc => first | exact h.dc | (have hh := h.dc; grind [up, upI, Kd])
  case dd => first | exact h.dd | (have hh := h.dd; grind [up, upI, Kd])
  case u3 => first | exact h.u3 | (have hh := h.u3; grind [up, upI, Kd])
  case u4 => 
    intro u hu q1
    have e : u ≠ t := by intro e; subst e; omega
    simp only [up, if_neg e]
    intro q2
    have h3 := h.u3 u hu q1 (.inr q2)
    have ne := h.cq t (H + 1) ht h0 (by omega) (by omega) (by omega) (by omega)
    simp only [upI, if_neg ne]
    exact h.u4 u hu q1 q2
  case u2 => first | exact h.u2 | (have hh := h.u2; grind [up, upI, Kd])
  case pm => first | exact h.pm | (have hh := h.pm; grind [up, upI, Kd])
  case nm => first | exact h.nm | (have hh := h.nm; grind [up, upI, Kd])
  case bz => 
    intro x hx
    rcases h.bz x hx with q | q | ⟨v, hv, q1, q2⟩
    · exact .inl q
    · exact .inr (.inl q)
    · refine .inr (.inr ⟨v, hv, q1, ?_⟩)
      by_cases e : v = t
      · subst e; rw [up_eq]; exact .inl ⟨h0, by omega, by omega⟩
      · rw [up_ne _ _ e]; exact q2
set_option maxHeartbeats 1000000 in
theorem AQ.empty (h : AQ n M s sp nd ot r F N U nq ow T H E) (t : Nat) (ht : t < n) (h0 : s t = 1) (hp : sp t = 3) : AQ n M s (up sp t 4) nd ot r F (upI N (nd t) 0) U nq ow T H E := by
  have hs := h.s1 t ht
  have hs3 := h.s3 t ht
  have hs0 := h.s0 t ht
  have hc := h.cl t ht h0 (by omega) (by omega)
  have hq := h.cq t
  have hcl := h.cl
  have hdc := h.dc
  have hwt := h.wt
  constructor
  case n8 => first | exact h.n8 | (have hh := h.n8; grind [up, upI, Kd])
  case rg => first | exact h.rg | (have hh := h.rg; grind [up, upI, Kd])
  case s1 => first | exact h.s1 | (have hh := h.s1; grind [up, upI, Kd])
  case s3 => first | exact h.s3 | (have hh := h.s3; grind [up, upI, Kd])
  case s0 => first | exact h.s0 | (have hh := h.s0; grind [up, upI, Kd])
  case hE => first | exact h.hE | (have hh := h.hE; grind [up, upI, Kd])
  case inj => first | exact h.inj | (have hh := h.inj; grind [up, upI, Kd])
  case pos => first | exact h.pos | (have hh := h.pos; grind [up, upI, Kd])
  case t0 => first | exact h.t0 | (have hh := h.t0; grind [up, upI, Kd])
  case t1 => first | exact h.t1 | (have hh := h.t1; grind [up, upI, Kd])
  case nl => first | exact h.nl | (have hh := h.nl; grind [up, upI, Kd])
  case nx => first | exact h.nx | (have hh := h.nx; grind [up, upI, Kd])
  case wt => first | exact h.wt | (have hh := h.wt; grind [up, upI, Kd])
  case w5 => 
    intro u hu q1
    by_cases e : u = t
    · subst e; simp only [up, if_true]; intro q; omega
    · simp only [up, upI, if_neg e]
      intro q2
      have h5 := h.w5 u hu q1 q2
      have hwu := h.wt u hu q1 (by omega)
      have ne := h.cq t (r u - 1) ht h0 (by omega) (by omega) (by omega) (by omega)
      first | exact h5 | exact ⟨h5.1, h5.2.1, by rw [if_neg ne]; exact h5.2.2⟩
  case wf => first | exact h.wf | (have hh := h.wf; grind [up, upI, Kd])
  case kh => first | exact h.kh | (have hh := h.kh; grind [up, upI, Kd])
  case kk => first | exact h.kk | (have hh := h.kk; grind [up, upI, Kd])
  case kf => first | exact h.kf | (have hh := h.kf; grind [up, upI, Kd])
  case rk => first | exact h.rk | (have hh := h.rk; grind [up, upI, Kd])
  case r0 => first | exact h.r0 | (have hh := h.r0; grind [up, upI, Kd])
  case uq => first | exact h.uq | (have hh := h.uq; grind [up, upI, Kd])
  case cl => 
    intro u hu q1
    by_cases e : u = t
    · subst e
      simp only [up, upI, eq_self, if_true]
      intro _ _
      have h2 := hc.2.2.2.1
      have h3 := hc.2.2.2.2.1
      have h4 := hc.2.2.2.2.2
      refine ⟨hc.1, hc.2.1, ?_, ?_, ?_, ?_⟩ <;> intro _ <;> first | rfl | trivial | omega | exact h2 (by omega) | exact h3 (by omega)
    · simp only [up, if_neg e, upI]
      intro q2 q3
      have hcu := h.cl u hu q1 q2 q3
      have ne : nd u ≠ nd t := by intro e2; have := hcu.1; rw [e2, hc.1] at this; exact e (by omega)
      simp only [if_neg ne]
      exact hcu
  case cq => first | exact h.cq | (have hh := h.cq; grind [up, upI, Kd])
  case dq => first | exact h.dq | (have hh := h.dq; grind [up, upI, Kd])
  case du => first | exact h.du | (have hh := h.du; grind [up, upI, Kd])
  case dc => first | exact h.dc | (have hh := h.dc; grind [up, upI, Kd])
  case dd => first | exact h.dd | (have hh := h.dd; grind [up, upI, Kd])
  case u3 => first | exact h.u3 | (have hh := h.u3; grind [up, upI, Kd])
  case u4 => first | exact h.u4 | (have hh := h.u4; grind [up, upI, Kd])
  case u2 => first | exact h.u2 | (have hh := h.u2; grind [up, upI, Kd])
  case pm => first | exact h.pm | (have hh := h.pm; grind [up, upI, Kd])
  case nm => first | exact h.nm | (have hh := h.nm; grind [up, upI, Kd])
  case bz => 
    intro x hx
    rcases h.bz x hx with q | q | ⟨v, hv, q1, q2⟩
    · exact .inl q
    · exact .inr (.inl q)
    · refine .inr (.inr ⟨v, hv, q1, ?_⟩)
      by_cases e : v = t
      · subst e; rw [up_eq]; exact .inl ⟨h0, by omega, by omega⟩
      · rw [up_ne _ _ e]; exact q2
set_option maxHeartbeats 1000000 in
theorem AQ.granted (h : AQ n M s sp nd ot r F N U nq ow T H E) (t : Nat) (ht : t < n) (h0 : s t = 1) (hp : sp t = 6 ∨ sp t = 7) (hF : F (nd t) ≠ 0) : AQ n M (up s t 2) (up sp t 0) nd ot r F N U nq ow T H E := by
  have hs := h.s1 t ht
  have hs3 := h.s3 t ht
  have hs0 := h.s0 t ht
  have hw := h.wt t ht h0 (by omega)
  have hwf := h.wf t ht h0 (by omega)
  have hwt := h.wt
  have hkh := h.kh
  have hwfa := h.wf
  have hin := h.inj
  constructor
  case n8 => first | exact h.n8 | (have hh := h.n8; grind [up, upI, Kd])
  case rg => first | exact h.rg | (have hh := h.rg; grind [up, upI, Kd])
  case s1 => first | exact h.s1 | (have hh := h.s1; grind [up, upI, Kd])
  case s3 => first | exact h.s3 | (have hh := h.s3; grind [up, upI, Kd])
  case s0 => first | exact h.s0 | (have hh := h.s0; grind [up, upI, Kd])
  case hE => first | exact h.hE | (have hh := h.hE; grind [up, upI, Kd])
  case inj => first | exact h.inj | (have hh := h.inj; grind [up, upI, Kd])
  case pos => first | exact h.pos | (have hh := h.pos; grind [up, upI, Kd])
  case t0 => first | exact h.t0 | (have hh := h.t0; grind [up, upI, Kd])
  case t1 => first | exact h.t1 | (have hh := h.t1; grind [up, upI, Kd])
  case nl => first | exact h.nl | (have hh := h.nl; grind [up, upI, Kd])
  case nx => 
    intro i h1 h2
    rcases h.nx i (by omega) (by omega) with q | ⟨q, u, hu, q1, q2, q3⟩
    · exact .inl q
    · have e : u ≠ t := by intro e; subst e; omega
      exact .inr ⟨q, u, hu, by first | exact q1 | (rw [up_ne _ _ e]; exact q1), by first | exact q2 | (rw [up_ne _ _ e]; exact q2), q3⟩
  case wt => first | exact h.wt | (have hh := h.wt; grind [up, upI, Kd])
  case w5 => first | exact h.w5 | (have hh := h.w5; grind [up, upI, Kd])
  case wf => first | exact h.wf | (have hh := h.wf; grind [up, upI, Kd])
  case kh => first | exact h.kh | (have hh := h.kh; grind [up, upI, Kd])
  case kk => first | exact h.kk | (have hh := h.kk; grind [up, upI, Kd])
  case kf => first | exact h.kf | (have hh := h.kf; grind [up, upI, Kd])
  case rk => first | exact h.rk | (have hh := h.rk; grind [up, upI, Kd])
  case r0 => first | exact h.r0 | (have hh := h.r0; grind [up, upI, Kd])
  case uq => first | exact h.uq | (have hh := h.uq; grind [up, upI, Kd])
  case cl => first | exact h.cl | (have hh := h.cl; grind [up, upI, Kd])
  case cq => first | exact h.cq | (have hh := h.cq; grind [up, upI, Kd])
  case dq => first | exact h.dq | (have hh := h.dq; grind [up, upI, Kd])
  case du => first | exact h.du | (have hh := h.du; grind [up, upI, Kd])
  case dc => first | exact h.dc | (have hh := h.dc; grind [up, upI, Kd])
  case dd => first | exact h.dd | (have hh := h.dd; grind [up, upI, Kd])
  case u3 => first | exact h.u3 | (have hh := h.u3; grind [up, upI, Kd])
  case u4 => first | exact h.u4 | (have hh := h.u4; grind [up, upI, Kd])
  case u2 => first | exact h.u2 | (have hh := h.u2; grind [up, upI, Kd])
  case pm => first | exact h.pm | (have hh := h.pm; grind [up, upI, Kd])
  case nm => first | exact h.nm | (have hh := h.nm; grind [up, upI, Kd])
  case bz => first | exact h.bz | (have hh := h.bz; grind [up, upI, Kd])
set_option maxHeartbeats 1000000 in
theorem AQ.late (h : AQ n M s sp nd ot r F N U nq ow T H E) (t : Nat) (ht : t < n) (h0 : s t = 1) (hp : sp t = 6) : AQ n M s (up sp t 7) nd ot r F N U nq ow T H E := by
  have hs := h.s1 t ht
  have hs3 := h.s3 t ht
  have hs0 := h.s0 t ht
  have hw := h.wt t ht h0 (by omega)
  have hwf := h.wf t ht h0 (by omega)
  have hwt := h.wt
  constructor
  case n8 => first | exact h.n8 | (have hh := h.n8; grind [up, upI, Kd])
  case rg => first | exact h.rg | (have hh := h.rg; grind [up, upI, Kd])
  case s1 => first | exact h.s1 | (have hh := h.s1; grind [up, upI, Kd])
  case s3 => first | exact h.s3 | (have hh := h.s3; grind [up, upI, Kd])
  case s0 => first | exact h.s0 | (have hh := h.s0; grind [up, upI, Kd])
  case hE => first | exact h.hE | (have hh := h.hE; grind [up, upI, Kd])
  case inj => first | exact h.inj | (have hh := h.inj; grind [up, upI, Kd])
  case pos => first | exact h.pos | (have hh := h.pos; grind [up, upI, Kd])
  case t0 => first | exact h.t0 | (have hh := h.t0; grind [up, upI, Kd])
  case t1 => first | exact h.t1 | (have hh := h.t1; grind [up, upI, Kd])
  case nl => first | exact h.nl | (have hh := h.nl; grind [up, upI, Kd])
  case nx => first | exact h.nx | (have hh := h.nx; grind [up, upI, Kd])
  case wt => first | exact h.wt | (have hh := h.wt; grind [up, upI, Kd])
  case w5 => first | exact h.w5 | (have hh := h.w5; grind [up, upI, Kd])
  case wf => first | exact h.wf | (have hh := h.wf; grind [up, upI, Kd])
  case kh => first | exact h.kh | (have hh := h.kh; grind [up, upI, Kd])
  case kk => first | exact h.kk | (have hh := h.kk; grind [up, upI, Kd])
  case kf => first | exact h.kf | (have hh := h.kf; grind [up, upI, Kd])
  case rk => first | exact h.rk | (have hh := h.rk; grind [up, upI, Kd])
  case r0 => first | exact h.r0 | (have hh := h.r0; grind [up, upI, Kd])
  case uq => first | exact h.uq | (have hh := h.uq; grind [up, upI, Kd])
  case cl => first | exact h.cl | (have hh := h.cl; grind [up, upI, Kd])
  case cq => first | exact h.cq | (have hh := h.cq; grind [up, upI, Kd])
  case dq => first | exact h.dq | (have hh := h.dq; grind [up, upI, Kd])
  case du => first | exact h.du | (have hh := h.du; grind [up, upI, Kd])
  case dc => first | exact h.dc | (have hh := h.dc; grind [up, upI, Kd])
  case dd => first | exact h.dd | (have hh := h.dd; grind [up, upI, Kd])
  case u3 => first | exact h.u3 | (have hh := h.u3; grind [up, upI, Kd])
  case u4 => first | exact h.u4 | (have hh := h.u4; grind [up, upI, Kd])
  case u2 => first | exact h.u2 | (have hh := h.u2; grind [up, upI, Kd])
  case pm => first | exact h.pm | (have hh := h.pm; grind [up, upI, Kd])
  case nm => first | exact h.nm | (have hh := h.nm; grind [up, upI, Kd])
  case bz => first | exact h.bz | (have hh := h.bz; grind [up, upI, Kd])
set_option maxHeartbeats 1000000 in
theorem AQ.look1 (h : AQ n M s sp nd ot r F N U nq ow T H E) (t : Nat) (ht : t < n) (h0 : s t = 3) (hp : sp t = 0 ∨ sp t = 2) (v : Int) (hv : v = 1 ∨ (v = 2 ∧ sp t = 2)) : AQ n M s (up sp t v) nd (up ot t 0) r F N U nq ow T H E := by
  have hs := h.s1 t ht
  have hs3 := h.s3 t ht
  have hs0 := h.s0 t ht
  have hk : Kd s sp t := by unfold Kd; omega
  have hkh := h.kh t ht hk
  have hkk := fun u hu hq => h.kk t u ht hu hk hq
  constructor
  case n8 => first | exact h.n8 | (have hh := h.n8; grind [up, upI, Kd])
  case rg => first | exact h.rg | (have hh := h.rg; grind [up, upI, Kd])
  case s1 => first | exact h.s1 | (have hh := h.s1; grind [up, upI, Kd])
  case s3 => first | exact h.s3 | (have hh := h.s3; grind [up, upI, Kd])
  case s0 => first | exact h.s0 | (have hh := h.s0; grind [up, upI, Kd])
  case hE => first | exact h.hE | (have hh := h.hE; grind [up, upI, Kd])
  case inj => first | exact h.inj | (have hh := h.inj; grind [up, upI, Kd])
  case pos => first | exact h.pos | (have hh := h.pos; grind [up, upI, Kd])
  case t0 => first | exact h.t0 | (have hh := h.t0; grind [up, upI, Kd])
  case t1 => first | exact h.t1 | (have hh := h.t1; grind [up, upI, Kd])
  case nl => first | exact h.nl | (have hh := h.nl; grind [up, upI, Kd])
  case nx => first | exact h.nx | (have hh := h.nx; grind [up, upI, Kd])
  case wt => first | exact h.wt | (have hh := h.wt; grind [up, upI, Kd])
  case w5 => first | exact h.w5 | (have hh := h.w5; grind [up, upI, Kd])
  case wf => first | exact h.wf | (have hh := h.wf; grind [up, upI, Kd])
  case kh => first | exact h.kh | (have hh := h.kh; grind [up, upI, Kd])
  case kk => first | exact h.kk | (have hh := h.kk; grind [up, upI, Kd])
  case kf => first | exact h.kf | (have hh := h.kf; grind [up, upI, Kd])
  case rk => first | exact h.rk | (have hh := h.rk; grind [up, upI, Kd])
  case r0 => first | exact h.r0 | (have hh := h.r0; grind [up, upI, Kd])
  case uq => first | exact h.uq | (have hh := h.uq; grind [up, upI, Kd])
  case cl => 
    intro u hu q1
    have e : u ≠ t := by intro e; subst e; omega
    simp only [up, if_neg e]
    exact h.cl u hu q1
  case cq => first | exact h.cq | (have hh := h.cq; grind [up, upI, Kd])
  case dq => first | exact h.dq | (have hh := h.dq; grind [up, upI, Kd])
  case du => first | exact h.du | (have hh := h.du; grind [up, upI, Kd])
  case dc => first | exact h.dc | (have hh := h.dc; grind [up, upI, Kd])
  case dd => first | exact h.dd | (have hh := h.dd; grind [up, upI, Kd])
  case u3 => first | exact h.u3 | (have hh := h.u3; grind [up, upI, Kd])
  case u4 => first | exact h.u4 | (have hh := h.u4; grind [up, upI, Kd])
  case u2 => first | exact h.u2 | (have hh := h.u2; grind [up, upI, Kd])
  case pm => first | exact h.pm | (have hh := h.pm; grind [up, upI, Kd])
  case nm => first | exact h.nm | (have hh := h.nm; grind [up, upI, Kd])
  case bz => first | exact h.bz | (have hh := h.bz; grind [up, upI, Kd])
set_option maxHeartbeats 1000000 in
theorem AQ.look2 (h : AQ n M s sp nd ot r F N U nq ow T H E) (t : Nat) (ht : t < n) (h0 : s t = 3) (hp : sp t = 0 ∨ sp t = 2) (hN : N (nd t) ≠ 0) : AQ n M s (up sp t 3) nd (up ot t (N (nd t))) r F N U nq ow T H E := by
  have hs := h.s1 t ht
  have hs3 := h.s3 t ht
  have hs0 := h.s0 t ht
  have hk : Kd s sp t := by unfold Kd; omega
  have hkh := h.kh t ht hk
  have hkk := fun u hu hq => h.kk t u ht hu hk hq
  have hnx := h.nx H
  have hnl := h.nl
  have hE1 : H + 1 < E := by
    by_cases e : H + 1 = E
    · have := hnl hkh.1; rw [show E - 1 = H by omega, ← hkh.2] at this; exact absurd this hN
    · have := hkh.1; omega
  constructor
  case n8 => first | exact h.n8 | (have hh := h.n8; grind [up, upI, Kd])
  case rg => first | exact h.rg | (have hh := h.rg; grind [up, upI, Kd])
  case s1 => first | exact h.s1 | (have hh := h.s1; grind [up, upI, Kd])
  case s3 => first | exact h.s3 | (have hh := h.s3; grind [up, upI, Kd])
  case s0 => first | exact h.s0 | (have hh := h.s0; grind [up, upI, Kd])
  case hE => first | exact h.hE | (have hh := h.hE; grind [up, upI, Kd])
  case inj => first | exact h.inj | (have hh := h.inj; grind [up, upI, Kd])
  case pos => first | exact h.pos | (have hh := h.pos; grind [up, upI, Kd])
  case t0 => first | exact h.t0 | (have hh := h.t0; grind [up, upI, Kd])
  case t1 => first | exact h.t1 | (have hh := h.t1; grind [up, upI, Kd])
  case nl => first | exact h.nl | (have hh := h.nl; grind [up, upI, Kd])
  case nx => first | exact h.nx | (have hh := h.nx; grind [up, upI, Kd])
  case wt => first | exact h.wt | (have hh := h.wt; grind [up, upI, Kd])
  case w5 => first | exact h.w5 | (have hh := h.w5; grind [up, upI, Kd])
  case wf => first | exact h.wf | (have hh := h.wf; grind [up, upI, Kd])
  case kh => first | exact h.kh | (have hh := h.kh; grind [up, upI, Kd])
  case kk => first | exact h.kk | (have hh := h.kk; grind [up, upI, Kd])
  case kf => first | exact h.kf | (have hh := h.kf; grind [up, upI, Kd])
  case rk => first | exact h.rk | (have hh := h.rk; grind [up, upI, Kd])
  case r0 => first | exact h.r0 | (have hh := h.r0; grind [up, upI, Kd])
  case uq => first | exact h.uq | (have hh := h.uq; grind [up, upI, Kd])
  case cl => 
    intro u hu q1
    have e : u ≠ t := by intro e; subst e; omega
    simp only [up, if_neg e]
    exact h.cl u hu q1
  case cq => first | exact h.cq | (have hh := h.cq; grind [up, upI, Kd])
  case dq => first | exact h.dq | (have hh := h.dq; grind [up, upI, Kd])
  case du => first | exact h.du | (have hh := h.du; grind [up, upI, Kd])
  case dc => first | exact h.dc | (have hh := h.dc; grind [up, upI, Kd])
  case dd => first | exact h.dd | (have hh := h.dd; grind [up, upI, Kd])
  case u3 => first | exact h.u3 | (have hh := h.u3; grind [up, upI, Kd])
  case u4 => first | exact h.u4 | (have hh := h.u4; grind [up, upI, Kd])
  case u2 => first | exact h.u2 | (have hh := h.u2; grind [up, upI, Kd])
  case pm => first | exact h.pm | (have hh := h.pm; grind [up, upI, Kd])
  case nm => first | exact h.nm | (have hh := h.nm; grind [up, upI, Kd])
  case bz => first | exact h.bz | (have hh := h.bz; grind [up, upI, Kd])
set_option maxHeartbeats 1000000 in
theorem AQ.stay (h : AQ n M s sp nd ot r F N U nq ow T H E) (t : Nat) (ht : t < n) (h0 : s t = 3) (hp : sp t = 1) (hT : T ≠ nd t) : AQ n M s (up sp t 2) nd ot r F N U nq ow T H E := by
  have hs := h.s1 t ht
  have hs3 := h.s3 t ht
  have hs0 := h.s0 t ht
  have hk : Kd s sp t := by unfold Kd; omega
  have hkh := h.kh t ht hk
  have hkk := fun u hu hq => h.kk t u ht hu hk hq
  have hE1 : H + 1 < E := by
    have h1 := h.t1 hkh.1
    by_cases e : H + 1 = E
    · rw [show E - 1 = H by omega, ← hkh.2] at h1; exact absurd h1 hT
    · have := hkh.1; omega
  constructor
  case n8 => first | exact h.n8 | (have hh := h.n8; grind [up, upI, Kd])
  case rg => first | exact h.rg | (have hh := h.rg; grind [up, upI, Kd])
  case s1 => first | exact h.s1 | (have hh := h.s1; grind [up, upI, Kd])
  case s3 => first | exact h.s3 | (have hh := h.s3; grind [up, upI, Kd])
  case s0 => first | exact h.s0 | (have hh := h.s0; grind [up, upI, Kd])
  case hE => first | exact h.hE | (have hh := h.hE; grind [up, upI, Kd])
  case inj => first | exact h.inj | (have hh := h.inj; grind [up, upI, Kd])
  case pos => first | exact h.pos | (have hh := h.pos; grind [up, upI, Kd])
  case t0 => first | exact h.t0 | (have hh := h.t0; grind [up, upI, Kd])
  case t1 => first | exact h.t1 | (have hh := h.t1; grind [up, upI, Kd])
  case nl => first | exact h.nl | (have hh := h.nl; grind [up, upI, Kd])
  case nx => first | exact h.nx | (have hh := h.nx; grind [up, upI, Kd])
  case wt => first | exact h.wt | (have hh := h.wt; grind [up, upI, Kd])
  case w5 => first | exact h.w5 | (have hh := h.w5; grind [up, upI, Kd])
  case wf => first | exact h.wf | (have hh := h.wf; grind [up, upI, Kd])
  case kh => first | exact h.kh | (have hh := h.kh; grind [up, upI, Kd])
  case kk => first | exact h.kk | (have hh := h.kk; grind [up, upI, Kd])
  case kf => first | exact h.kf | (have hh := h.kf; grind [up, upI, Kd])
  case rk => first | exact h.rk | (have hh := h.rk; grind [up, upI, Kd])
  case r0 => first | exact h.r0 | (have hh := h.r0; grind [up, upI, Kd])
  case uq => first | exact h.uq | (have hh := h.uq; grind [up, upI, Kd])
  case cl => 
    intro u hu q1
    have e : u ≠ t := by intro e; subst e; omega
    simp only [up, if_neg e]
    exact h.cl u hu q1
  case cq => first | exact h.cq | (have hh := h.cq; grind [up, upI, Kd])
  case dq => first | exact h.dq | (have hh := h.dq; grind [up, upI, Kd])
  case du => first | exact h.du | (have hh := h.du; grind [up, upI, Kd])
  case dc => first | exact h.dc | (have hh := h.dc; grind [up, upI, Kd])
  case dd => first | exact h.dd | (have hh := h.dd; grind [up, upI, Kd])
  case u3 => first | exact h.u3 | (have hh := h.u3; grind [up, upI, Kd])
  case u4 => first | exact h.u4 | (have hh := h.u4; grind [up, upI, Kd])
  case u2 => first | exact h.u2 | (have hh := h.u2; grind [up, upI, Kd])
  case pm => first | exact h.pm | (have hh := h.pm; grind [up, upI, Kd])
  case nm => first | exact h.nm | (have hh := h.nm; grind [up, upI, Kd])
  case bz => first | exact h.bz | (have hh := h.bz; grind [up, upI, Kd])
set_option maxHeartbeats 1000000 in
theorem AQ.clear (h : AQ n M s sp nd ot r F N U nq ow T H E) (t : Nat) (ht : t < n) (h0 : s t = 0 ∨ s t = 2) (x : Int) : AQ n M s sp nd (up ot t x) r F N U nq ow T H E := by
  have hs := h.s1 t ht
  have hs3 := h.s3 t ht
  have hs0 := h.s0 t ht
  constructor
  case n8 => first | exact h.n8 | (have hh := h.n8; grind [up, upI, Kd])
  case rg => first | exact h.rg | (have hh := h.rg; grind [up, upI, Kd])
  case s1 => first | exact h.s1 | (have hh := h.s1; grind [up, upI, Kd])
  case s3 => first | exact h.s3 | (have hh := h.s3; grind [up, upI, Kd])
  case s0 => first | exact h.s0 | (have hh := h.s0; grind [up, upI, Kd])
  case hE => first | exact h.hE | (have hh := h.hE; grind [up, upI, Kd])
  case inj => first | exact h.inj | (have hh := h.inj; grind [up, upI, Kd])
  case pos => first | exact h.pos | (have hh := h.pos; grind [up, upI, Kd])
  case t0 => first | exact h.t0 | (have hh := h.t0; grind [up, upI, Kd])
  case t1 => first | exact h.t1 | (have hh := h.t1; grind [up, upI, Kd])
  case nl => first | exact h.nl | (have hh := h.nl; grind [up, upI, Kd])
  case nx => first | exact h.nx | (have hh := h.nx; grind [up, upI, Kd])
  case wt => first | exact h.wt | (have hh := h.wt; grind [up, upI, Kd])
  case w5 => first | exact h.w5 | (have hh := h.w5; grind [up, upI, Kd])
  case wf => first | exact h.wf | (have hh := h.wf; grind [up, upI, Kd])
  case kh => first | exact h.kh | (have hh := h.kh; grind [up, upI, Kd])
  case kk => first | exact h.kk | (have hh := h.kk; grind [up, upI, Kd])
  case kf => first | exact h.kf | (have hh := h.kf; grind [up, upI, Kd])
  case rk => first | exact h.rk | (have hh := h.rk; grind [up, upI, Kd])
  case r0 => first | exact h.r0 | (have hh := h.r0; grind [up, upI, Kd])
  case uq => first | exact h.uq | (have hh := h.uq; grind [up, upI, Kd])
  case cl => first | exact h.cl | (have hh := h.cl; grind [up, upI, Kd])
  case cq => first | exact h.cq | (have hh := h.cq; grind [up, upI, Kd])
  case dq => first | exact h.dq | (have hh := h.dq; grind [up, upI, Kd])
  case du => first | exact h.du | (have hh := h.du; grind [up, upI, Kd])
  case dc => first | exact h.dc | (have hh := h.dc; grind [up, upI, Kd])
  case dd => first | exact h.dd | (have hh := h.dd; grind [up, upI, Kd])
  case u3 => first | exact h.u3 | (have hh := h.u3; grind [up, upI, Kd])
  case u4 => first | exact h.u4 | (have hh := h.u4; grind [up, upI, Kd])
  case u2 => first | exact h.u2 | (have hh := h.u2; grind [up, upI, Kd])
  case pm => first | exact h.pm | (have hh := h.pm; grind [up, upI, Kd])
  case nm => first | exact h.nm | (have hh := h.nm; grind [up, upI, Kd])
  case bz => first | exact h.bz | (have hh := h.bz; grind [up, upI, Kd])
end Go.Proofs.Ytlkpfdboagjaoaa.AbortQ
