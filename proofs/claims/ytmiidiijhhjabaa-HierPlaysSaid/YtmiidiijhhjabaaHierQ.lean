/- The queue lock of queues by value, as functions: nodes, who is ahead, steps, words, where each context stands. -/
import Derived.Test.YtmiidiijhhjabaaSeatP
namespace Go.Proofs.Ytmiidiijhhjabaa.HierQ
open Go
def up (f : Nat → Int) (t : Nat) (v : Int) : Nat → Int := fun u => if u = t then v else f u
def upI (F : Int → Int) (t v : Int) : Int → Int := fun u => if u = t then v else F u
theorem up_eq (f : Nat → Int) (t : Nat) (v : Int) : up f t v t = v := by simp [up]
theorem up_ne (f : Nat → Int) {t u : Nat} (v : Int) (h : u ≠ t) : up f t v u = f u := by simp [up, h]
/-- Who stands in the row of all. -/
def K1 (n : Nat) (cl nd lo r : Nat → Int) (c a : Int) : Prop := ∃ p, p < n ∧ lo p = 2 ∧ cl p = c ∧ a = nd p ∧ ∀ q, q < n → lo q = 2 → cl q = c → r q ≤ r p
def K2 (n : Nat) (cl nd lo : Nat → Int) (F : Int → Int) (c a : Int) : Prop := (∀ q, q < n → lo q = 2 → cl q ≠ c) ∧ (∀ t, t < n → cl t = c → nd t ≠ a) ∧ (F a / 4 ≠ c ∨ F a % 2 = 1) ∧ 1 ≤ a ∧ a ≤ n + 1
def K (n : Nat) (cl nd lo r : Nat → Int) (F : Int → Int) (c a : Int) : Prop := K1 n cl nd lo r c a ∨ K2 n cl nd lo F c a
/-- A leader that has not marked yet. -/
def Ld (s sp : Nat → Int) (t : Nat) : Prop := s t = 1 ∧ (sp t = 5 ∨ sp t = 6)
structure HI (n : Nat) (cl nd ah ls wd sp s lo r : Nat → Int) (F C hu eu : Int → Int) (T H E fr : Int) : Prop where
  n8 : n ≤ 8
  clr : ∀ t, t < n → 0 ≤ cl t ∧ cl t < 8
  ndr : ∀ t, t < n → 1 ≤ nd t ∧ nd t ≤ n + 1
  frr : 1 ≤ fr ∧ fr ≤ n + 1
  inj : ∀ t u, t < n → u < n → nd t = nd u → t = u
  frn : ∀ t, t < n → nd t ≠ fr
  rg : ∀ t, t < n → 0 ≤ s t ∧ s t ≤ 3 ∧ 0 ≤ lo t ∧ lo t ≤ 2
  s0 : ∀ t, t < n → s t = 0 → lo t = 0 ∧ sp t = 0
  s1 : ∀ t, t < n → s t = 1 → 0 ≤ sp t ∧ sp t ≤ 7 ∧ (lo t = 0 ↔ sp t ≤ 1) ∧ (lo t = 1 → 2 ≤ sp t ∧ sp t ≤ 4) ∧ (lo t = 2 → sp t = 2 ∨ 5 ≤ sp t)
  s2 : ∀ t, t < n → s t = 2 → lo t = 2 ∧ r t = H ∧ sp t = 0
  s3 : ∀ t, t < n → s t = 3 → lo t = 2 ∧ r t = H ∧ (sp t = 0 ∨ (sp t = 1 ∧ wd t = F (nd t)))
  hd : ∀ t, t < n → lo t = 1 → sp t ≠ 2 → r t = hu (cl t)
  rO : ∀ t, t < n → lo t = 2 → H ≤ r t ∧ r t < E
  rU : ∀ t, t < n → lo t = 1 → hu (cl t) ≤ r t ∧ r t < eu (cl t)
  jO : ∀ t u, t < n → u < n → lo t = 2 → lo u = 2 → r t = r u → t = u
  jU : ∀ t u, t < n → u < n → lo t = 1 → lo u = 1 → cl t = cl u → r t = r u → t = u
  oO : ∀ x, H ≤ x → x < E → ∃ t, t < n ∧ lo t = 2 ∧ r t = x
  oU : ∀ c x, 0 ≤ c → c < 8 → hu c ≤ x → x < eu c → ∃ t, t < n ∧ lo t = 1 ∧ cl t = c ∧ r t = x
  hE : H ≤ E
  hue : ∀ c, 0 ≤ c → c < 8 → hu c ≤ eu c
  fq : ∀ t, t < n → lo t ≠ 0 → F (nd t) = cl t * 4 + 2 ∨ F (nd t) = cl t * 4 + 3
  fu : ∀ t, t < n → lo t = 1 → F (nd t) = cl t * 4 + 2
  fp : ∀ t, t < n → s t = 1 → sp t = 1 → F (nd t) = cl t * 4 + 2
  ff : F fr / 2 % 2 = 0
  ch : ∀ t, t < n → lo t = 2 → r t = H → ah t = fr
  cO : ∀ t p, t < n → p < n → lo t = 2 → lo p = 2 → r t = r p + 1 → ah t = nd p
  cU : ∀ t p, t < n → p < n → lo t = 1 → lo p = 1 → cl t = cl p → r t = r p + 1 → ah t = nd p
  fol : ∀ t, t < n → lo t = 2 → s t = 1 → sp t = 2 → F (ah t) % 2 = 0 ∧ F (ah t) / 4 = cl t
  t0 : H = E → T = fr
  t1 : ∀ t, t < n → lo t = 2 → r t + 1 = E → T = nd t
  cc : ∀ t, t < n → lo t = 1 → r t + 1 = eu (cl t) → C (cl t) = nd t
  ku : ∀ t, t < n → lo t = 1 → sp t = 2 → r t = hu (cl t) → K n cl nd lo r F (cl t) (ah t)
  kc : ∀ c, 0 ≤ c → c < 8 → hu c = eu c → C c = 0 ∨ K n cl nd lo r F c (C c)
  l4 : ∀ t, t < n → s t = 1 → sp t = 4 → ∃ m, m < n ∧ lo m = 1 ∧ cl m = cl t ∧ ls t = nd m
  l5 : ∀ t, t < n → Ld s sp t → ∃ m, m < n ∧ lo m = 2 ∧ cl m = cl t ∧ r t ≤ r m ∧ ls t = nd m ∧ F (nd m) = cl m * 4 + 2 ∧ ∀ q, q < n → lo q = 2 → s q = 1 → sp q = 2 → ah q ≠ nd m
  l6 : ∀ t, t < n → s t = 1 → sp t = 6 → wd t = F (ls t)
  lj : ∀ t u, t < n → u < n → Ld s sp t → Ld s sp u → ls t = ls u → t = u
  m4 : ∀ t, t < n → lo t = 2 → (∀ q, q < n → lo q = 2 → r q = r t + 1 → ¬ (s q = 1 ∧ sp q = 2)) → F (nd t) % 2 = 1 ∨ ∃ l, l < n ∧ Ld s sp l ∧ lo l = 2 ∧ r l ≤ r t ∧ ls l = nd t
variable {n : Nat} {cl nd ah ls wd sp s lo r : Nat → Int} {F C hu eu : Int → Int} {T H E fr : Int}
theorem HI.ahO (h : HI n cl nd ah ls wd sp s lo r F C hu eu T H E fr) (u : Nat) (hu' : u < n) (hl : lo u = 2) : (r u = H ∧ ah u = fr) ∨ ∃ p, p < n ∧ lo p = 2 ∧ ah u = nd p ∧ r u = r p + 1 := by
  have k := h.rO u hu' hl
  by_cases e : r u = H
  · exact .inl ⟨e, h.ch u hu' hl e⟩
  · obtain ⟨p, hp, hlp, hrp⟩ := h.oO (r u - 1) (by omega) (by omega)
    exact .inr ⟨p, hp, hlp, h.cO u p hu' hp hl hlp (by omega), by omega⟩
theorem HI.ahU (h : HI n cl nd ah ls wd sp s lo r F C hu eu T H E fr) (u : Nat) (hu' : u < n) (hl : lo u = 1) : r u = hu (cl u) ∨ ∃ p, p < n ∧ lo p = 1 ∧ cl p = cl u ∧ ah u = nd p ∧ r u = r p + 1 := by
  have k := h.rU u hu' hl
  have kc := h.clr u hu'
  by_cases e : r u = hu (cl u)
  · exact .inl e
  · obtain ⟨p, hp, hlp, hcp, hrp⟩ := h.oU (cl u) (r u - 1) kc.1 kc.2 (by omega) (by omega)
    exact .inr ⟨p, hp, hlp, hcp, h.cU u p hu' hp hl hlp hcp.symm (by omega), by omega⟩
theorem K.congr {c a : Int} {lo' r' : Nat → Int} (h : K n cl nd lo r F c a) (hl : ∀ u, u < n → (lo' u = 2 ↔ lo u = 2)) (hr : ∀ u, u < n → lo u = 2 → r' u = r u) : K n cl nd lo' r' F c a := by
  rcases h with ⟨p, h1, h2, h3, h4, h5⟩ | ⟨h1, h2⟩
  · refine .inl ⟨p, h1, (hl p h1).2 h2, h3, h4, fun q hq hq2 hqc => ?_⟩
    have := (hl q hq).1 hq2
    rw [hr q hq this, hr p h1 h2]; exact h5 q hq this hqc
  · exact .inr ⟨fun q hq hq2 => h1 q hq ((hl q hq).1 hq2), h2⟩
theorem K.word {c a y v : Int} (h : K n cl nd lo r F c a) (hv : K2 n cl nd lo F c a → a = y → v / 4 ≠ c ∨ v % 2 = 1) : K n cl nd lo r (upI F y v) c a := by
  rcases h with h | h
  · exact .inl h
  · refine .inr ⟨h.1, h.2.1, ?_, h.2.2.2⟩
    unfold upI
    split
    · exact hv h (by assumption)
    · exact h.2.2.1
/-- The words of the rows' nodes. -/
theorem HI.C0 (h : HI n cl nd ah ls wd sp s lo r F C hu eu T H E fr) (c : Int) (h0 : 0 ≤ c) (h1 : c < 8) : hu c = eu c ∨ ∃ m, m < n ∧ lo m = 1 ∧ cl m = c ∧ r m + 1 = eu c ∧ C c = nd m := by
  have k := h.hue c h0 h1
  by_cases e : hu c = eu c
  · exact .inl e
  · obtain ⟨m, hm, hl, hc, hr⟩ := h.oU c (eu c - 1) h0 h1 (by omega) (by omega)
    subst hc
    exact .inr ⟨m, hm, hl, rfl, by omega, h.cc m hm hl (by omega)⟩
theorem HI.T0 (h : HI n cl nd ah ls wd sp s lo r F C hu eu T H E fr) : (H = E ∧ T = fr) ∨ ∃ m, m < n ∧ lo m = 2 ∧ r m + 1 = E ∧ T = nd m := by
  have k := h.hE
  by_cases e : H = E
  · exact .inl ⟨e, h.t0 e⟩
  · obtain ⟨m, hm, hl, hr⟩ := h.oO (E - 1) (by omega) (by omega)
    exact .inr ⟨m, hm, hl, by omega, h.t1 m hm hl (by omega)⟩
/-- Who may have the lock by the one ahead is at the head. -/
theorem HI.grantF_at (h : HI n cl nd ah ls wd sp s lo r F C hu eu T H E fr) (t : Nat) (ht : t < n) (h0 : s t = 1) (hp : sp t = 2) (hF : F (ah t) / 4 = cl t) (hS : F (ah t) % 2 = 0) (hW : F (ah t) / 2 % 2 = 0) : lo t = 2 ∧ r t = H := by
  have k1 := h.s1 t ht h0
  have kr := h.rg t ht
  have hlo : lo t = 1 ∨ lo t = 2 := by omega
  rcases hlo with hlo | hlo
  · exfalso
    rcases h.ahU t ht hlo with e | ⟨p, hp', hl, hc, e, _⟩
    · rcases h.ku t ht hlo hp e with ⟨p, a1, a2, a3, a4, _⟩ | ⟨_, _, a3, _⟩
      · have := h.fq p a1 (by omega); rw [a4] at hW; omega
      · omega
    · have := h.fu p hp' hl; rw [e, this] at hW; omega
  · refine ⟨hlo, ?_⟩
    rcases h.ahO t ht hlo with ⟨e, _⟩ | ⟨p, hp', hl, e, _⟩
    · exact e
    · have := h.fq p hp' (by omega); rw [e] at hW; omega
theorem HI.grantL_at (h : HI n cl nd ah ls wd sp s lo r F C hu eu T H E fr) (t : Nat) (ht : t < n) (h0 : s t = 1) (hp : sp t = 7) (hW : F (ah t) / 2 % 2 = 0) : lo t = 2 ∧ r t = H := by
  have k1 := h.s1 t ht h0
  have kr := h.rg t ht
  have hlo : lo t = 2 := by omega
  refine ⟨hlo, ?_⟩
  rcases h.ahO t ht hlo with ⟨e, _⟩ | ⟨p, hp', hl, e, _⟩
  · exact e
  · have := h.fq p hp' (by omega); rw [e] at hW; omega
theorem HI.lo1 (h : HI n cl nd ah ls wd sp s lo r F C hu eu T H E fr) (t : Nat) (ht : t < n) (hl : lo t = 1) : s t = 1 := by
  have a := h.rg t ht
  have b := h.s0 t ht
  have c := h.s2 t ht
  have d := h.s3 t ht
  rcases (show s t = 0 ∨ s t = 1 ∨ s t = 2 ∨ s t = 3 by omega) with e | e | e | e
  · have := b e; omega
  · exact e
  · have := c e; omega
  · have := d e; omega
theorem HI.ld2 (h : HI n cl nd ah ls wd sp s lo r F C hu eu T H E fr) (t : Nat) (ht : t < n) (hl : Ld s sp t) : lo t = 2 := by
  have a := h.rg t ht
  have b := h.s1 t ht hl.1
  have c := hl.2
  omega
/-- The row's head's word, where the one behind it is of another batch. -/
theorem HI.head_spliced (h : HI n cl nd ah ls wd sp s lo r F C hu eu T H E fr) (t : Nat) (ht : t < n) (h0 : s t = 3) (hc : ∀ q, q < n → lo q = 2 → cl q = cl t → r q ≤ r t) : F (nd t) % 2 = 1 := by
  obtain ⟨k1, k2, k3⟩ := h.s3 t ht h0
  rcases h.m4 t ht k1 (fun q hq hl hr hs => by
    have a1 := h.fol q hq hl hs.1 hs.2
    have a2 := h.cO q t hq ht hl k1 hr
    have a3 := h.fq t ht (by omega)
    rw [a2] at a1
    have := hc q hq hl (by omega)
    omega) with e | ⟨l, hl, hld, hlo, hr, _⟩
  · exact e
  · have := h.rO l hl hlo
    have := h.jO l t hl ht hlo k1 (by omega)
    subst this
    have := hld.1
    omega
theorem HI.K_release (h : HI n cl nd ah ls wd sp s lo r F C hu eu T H E fr) (t : Nat) (ht : t < n) (h0 : s t = 3) (v : Int) (hv : v / 4 = F (nd t) / 4 ∧ v % 2 = F (nd t) % 2) {c a : Int} (hk : K n cl nd lo r F c a) : K n cl (up nd t fr) (up lo t 0) r (upI F (nd t) v) c a := by
  obtain ⟨k1, k2, k3⟩ := h.s3 t ht h0
  rcases hk with ⟨p, a1, a2, a3, a4, a5⟩ | ⟨a1, a2, a3, a4⟩
  · by_cases e : p = t
    · subst e
      have hs := h.head_spliced p ht h0 (fun q hq hl hc => a5 q hq hl (by omega))
      refine .inr ⟨fun q hq hl hc => ?_, fun u hu' hc e => ?_, ?_, ?_⟩
      · have b1 : q ≠ p := fun e => by subst e; rw [up_eq] at hl; omega
        rw [up_ne _ _ b1] at hl
        have := a5 q hq hl hc
        have := h.rO q hq hl
        exact b1 (h.jO q p hq ht hl a2 (by omega))
      · by_cases b : u = p
        · subst b; rw [up_eq] at e; exact h.frn u ht (by omega)
        · rw [up_ne _ _ b] at e; exact b (h.inj u p hu' ht (by omega))
      · have : upI F (nd p) v a = v := by simp [upI, a4]
        rw [this]; omega
      · have := h.ndr p ht; omega
    · refine .inl ⟨p, a1, by rw [up_ne _ _ e]; exact a2, a3, by rw [up_ne _ _ e]; exact a4, fun q hq hl hc => ?_⟩
      have b1 : q ≠ t := fun e => by subst e; rw [up_eq] at hl; omega
      rw [up_ne _ _ b1] at hl
      exact a5 q hq hl hc
  · have hct := a1 t ht k1
    refine .inr ⟨fun q hq hl => ?_, fun u hu' hc => ?_, ?_, a4⟩
    · have b1 : q ≠ t := fun e => by subst e; rw [up_eq] at hl; omega
      rw [up_ne _ _ b1] at hl
      exact a1 q hq hl
    · have b1 : u ≠ t := fun e => by subst e; exact hct hc
      rw [up_ne _ _ b1]; exact a2 u hu' hc
    · unfold upI
      split
      · rename_i e; rw [e] at a3; omega
      · exact a3
/-- Does a context go over with a batch? -/
def Go (cl lo r : Nat → Int) (c x : Int) (u : Nat) : Prop := lo u = 1 ∧ cl u = c ∧ r u ≤ x
instance (cl lo r : Nat → Int) (c x : Int) (u : Nat) : Decidable (Go cl lo r c x u) := by unfold Go; infer_instance
def loS (cl lo r : Nat → Int) (c x : Int) (u : Nat) : Int := if Go cl lo r c x u then 2 else lo u
def rS (cl lo r : Nat → Int) (c x E b : Int) (u : Nat) : Int := if Go cl lo r c x u then E + (r u - b) else r u
theorem loS2 {c x : Int} {u : Nat} : loS cl lo r c x u = 2 ↔ Go cl lo r c x u ∨ lo u = 2 := by unfold loS; split <;> simp [*]
theorem loS1 {c x : Int} {u : Nat} : loS cl lo r c x u = 1 ↔ lo u = 1 ∧ ¬ Go cl lo r c x u := by unfold loS; split <;> simp [*]
theorem rS_go {c x b : Int} {u : Nat} (h : Go cl lo r c x u) : rS cl lo r c x E b u = E + (r u - b) := by unfold rS; rw [if_pos h]
theorem rS_no {c x b : Int} {u : Nat} (h : ¬ Go cl lo r c x u) : rS cl lo r c x E b u = r u := by unfold rS; rw [if_neg h]
theorem go_no2 {c x : Int} {u : Nat} (h : lo u = 2) : ¬ Go cl lo r c x u := fun e => by have := e.1; omega
theorem HI.call (h : HI n cl nd ah ls wd sp s lo r F C hu eu T H E fr) (t : Nat) (ht : t < n) (h0 : s t = 0) : HI n cl nd ah ls wd sp (up s t 1) lo r F C hu eu T H E fr := by
  obtain ⟨k1, k2⟩ := h.s0 t ht h0
  constructor
  case n8 => first | exact h.n8 | (have hh := h.n8; grind [up, upI, Ld]) | (have hh := h.n8; simp only [up] at *; grind) | (have hh := h.n8; simp only [up, Ld] at *; grind)
  case clr => first | exact h.clr | (have hh := h.clr; grind [up, upI, Ld]) | (have hh := h.clr; simp only [up] at *; grind) | (have hh := h.clr; simp only [up, Ld] at *; grind)
  case ndr => first | exact h.ndr | (have hh := h.ndr; grind [up, upI, Ld]) | (have hh := h.ndr; simp only [up] at *; grind) | (have hh := h.ndr; simp only [up, Ld] at *; grind)
  case frr => first | exact h.frr | (have hh := h.frr; grind [up, upI, Ld]) | (have hh := h.frr; simp only [up] at *; grind) | (have hh := h.frr; simp only [up, Ld] at *; grind)
  case inj => first | exact h.inj | (have hh := h.inj; grind [up, upI, Ld]) | (have hh := h.inj; simp only [up] at *; grind) | (have hh := h.inj; simp only [up, Ld] at *; grind)
  case frn => first | exact h.frn | (have hh := h.frn; grind [up, upI, Ld]) | (have hh := h.frn; simp only [up] at *; grind) | (have hh := h.frn; simp only [up, Ld] at *; grind)
  case rg => first | exact h.rg | (have hh := h.rg; grind [up, upI, Ld]) | (have hh := h.rg; simp only [up] at *; grind) | (have hh := h.rg; simp only [up, Ld] at *; grind)
  case s0 => first | exact h.s0 | (have hh := h.s0; grind [up, upI, Ld]) | (have hh := h.s0; simp only [up] at *; grind) | (have hh := h.s0; simp only [up, Ld] at *; grind)
  case s1 => first | exact h.s1 | (have hh := h.s1; grind [up, upI, Ld]) | (have hh := h.s1; simp only [up] at *; grind) | (have hh := h.s1; simp only [up, Ld] at *; grind)
  case s2 => first | exact h.s2 | (have hh := h.s2; grind [up, upI, Ld]) | (have hh := h.s2; simp only [up] at *; grind) | (have hh := h.s2; simp only [up, Ld] at *; grind)
  case s3 => first | exact h.s3 | (have hh := h.s3; grind [up, upI, Ld]) | (have hh := h.s3; simp only [up] at *; grind) | (have hh := h.s3; simp only [up, Ld] at *; grind)
  case hd => first | exact h.hd | (have hh := h.hd; grind [up, upI, Ld]) | (have hh := h.hd; simp only [up] at *; grind) | (have hh := h.hd; simp only [up, Ld] at *; grind)
  case rO => first | exact h.rO | (have hh := h.rO; grind [up, upI, Ld]) | (have hh := h.rO; simp only [up] at *; grind) | (have hh := h.rO; simp only [up, Ld] at *; grind)
  case rU => first | exact h.rU | (have hh := h.rU; grind [up, upI, Ld]) | (have hh := h.rU; simp only [up] at *; grind) | (have hh := h.rU; simp only [up, Ld] at *; grind)
  case jO => first | exact h.jO | (have hh := h.jO; grind [up, upI, Ld]) | (have hh := h.jO; simp only [up] at *; grind) | (have hh := h.jO; simp only [up, Ld] at *; grind)
  case jU => first | exact h.jU | (have hh := h.jU; grind [up, upI, Ld]) | (have hh := h.jU; simp only [up] at *; grind) | (have hh := h.jU; simp only [up, Ld] at *; grind)
  case oO => first | exact h.oO | (have hh := h.oO; grind [up, upI, Ld]) | (have hh := h.oO; simp only [up] at *; grind) | (have hh := h.oO; simp only [up, Ld] at *; grind)
  case oU => first | exact h.oU | (have hh := h.oU; grind [up, upI, Ld]) | (have hh := h.oU; simp only [up] at *; grind) | (have hh := h.oU; simp only [up, Ld] at *; grind)
  case hE => first | exact h.hE | (have hh := h.hE; grind [up, upI, Ld]) | (have hh := h.hE; simp only [up] at *; grind) | (have hh := h.hE; simp only [up, Ld] at *; grind)
  case hue => first | exact h.hue | (have hh := h.hue; grind [up, upI, Ld]) | (have hh := h.hue; simp only [up] at *; grind) | (have hh := h.hue; simp only [up, Ld] at *; grind)
  case fq => first | exact h.fq | (have hh := h.fq; grind [up, upI, Ld]) | (have hh := h.fq; simp only [up] at *; grind) | (have hh := h.fq; simp only [up, Ld] at *; grind)
  case fu => first | exact h.fu | (have hh := h.fu; grind [up, upI, Ld]) | (have hh := h.fu; simp only [up] at *; grind) | (have hh := h.fu; simp only [up, Ld] at *; grind)
  case fp => first | exact h.fp | (have hh := h.fp; grind [up, upI, Ld]) | (have hh := h.fp; simp only [up] at *; grind) | (have hh := h.fp; simp only [up, Ld] at *; grind)
  case ff => first | exact h.ff | (have hh := h.ff; grind [up, upI, Ld]) | (have hh := h.ff; simp only [up] at *; grind) | (have hh := h.ff; simp only [up, Ld] at *; grind)
  case ch => first | exact h.ch | (have hh := h.ch; grind [up, upI, Ld]) | (have hh := h.ch; simp only [up] at *; grind) | (have hh := h.ch; simp only [up, Ld] at *; grind)
  case cO => first | exact h.cO | (have hh := h.cO; grind [up, upI, Ld]) | (have hh := h.cO; simp only [up] at *; grind) | (have hh := h.cO; simp only [up, Ld] at *; grind)
  case cU => first | exact h.cU | (have hh := h.cU; grind [up, upI, Ld]) | (have hh := h.cU; simp only [up] at *; grind) | (have hh := h.cU; simp only [up, Ld] at *; grind)
  case fol => first | exact h.fol | (have hh := h.fol; grind [up, upI, Ld]) | (have hh := h.fol; simp only [up] at *; grind) | (have hh := h.fol; simp only [up, Ld] at *; grind)
  case t0 => first | exact h.t0 | (have hh := h.t0; grind [up, upI, Ld]) | (have hh := h.t0; simp only [up] at *; grind) | (have hh := h.t0; simp only [up, Ld] at *; grind)
  case t1 => first | exact h.t1 | (have hh := h.t1; grind [up, upI, Ld]) | (have hh := h.t1; simp only [up] at *; grind) | (have hh := h.t1; simp only [up, Ld] at *; grind)
  case cc => first | exact h.cc | (have hh := h.cc; grind [up, upI, Ld]) | (have hh := h.cc; simp only [up] at *; grind) | (have hh := h.cc; simp only [up, Ld] at *; grind)
  case ku => first | exact h.ku | (have hh := h.ku; grind [up, upI, Ld]) | (have hh := h.ku; simp only [up] at *; grind) | (have hh := h.ku; simp only [up, Ld] at *; grind)
  case kc => first | exact h.kc | (have hh := h.kc; grind [up, upI, Ld]) | (have hh := h.kc; simp only [up] at *; grind) | (have hh := h.kc; simp only [up, Ld] at *; grind)
  case l4 => first | exact h.l4 | (have hh := h.l4; grind [up, upI, Ld]) | (have hh := h.l4; simp only [up] at *; grind) | (have hh := h.l4; simp only [up, Ld] at *; grind)
  case l5 => first | exact h.l5 | (have hh := h.l5; grind [up, upI, Ld]) | (have hh := h.l5; simp only [up] at *; grind) | (have hh := h.l5; simp only [up, Ld] at *; grind)
  case l6 => first | exact h.l6 | (have hh := h.l6; grind [up, upI, Ld]) | (have hh := h.l6; simp only [up] at *; grind) | (have hh := h.l6; simp only [up, Ld] at *; grind)
  case lj => first | exact h.lj | (have hh := h.lj; grind [up, upI, Ld]) | (have hh := h.lj; simp only [up] at *; grind) | (have hh := h.lj; simp only [up, Ld] at *; grind)
  case m4 => first | exact h.m4 | (have hh := h.m4; grind [up, upI, Ld]) | (have hh := h.m4; simp only [up] at *; grind) | (have hh := h.m4; simp only [up, Ld] at *; grind)

theorem HI.unl (h : HI n cl nd ah ls wd sp s lo r F C hu eu T H E fr) (t : Nat) (ht : t < n) (h0 : s t = 2) : HI n cl nd ah ls wd sp (up s t 3) lo r F C hu eu T H E fr := by
  obtain ⟨k1, k2, k3⟩ := h.s2 t ht h0
  constructor
  case n8 => first | exact h.n8 | (have hh := h.n8; grind [up, upI, Ld]) | (have hh := h.n8; simp only [up] at *; grind) | (have hh := h.n8; simp only [up, Ld] at *; grind)
  case clr => first | exact h.clr | (have hh := h.clr; grind [up, upI, Ld]) | (have hh := h.clr; simp only [up] at *; grind) | (have hh := h.clr; simp only [up, Ld] at *; grind)
  case ndr => first | exact h.ndr | (have hh := h.ndr; grind [up, upI, Ld]) | (have hh := h.ndr; simp only [up] at *; grind) | (have hh := h.ndr; simp only [up, Ld] at *; grind)
  case frr => first | exact h.frr | (have hh := h.frr; grind [up, upI, Ld]) | (have hh := h.frr; simp only [up] at *; grind) | (have hh := h.frr; simp only [up, Ld] at *; grind)
  case inj => first | exact h.inj | (have hh := h.inj; grind [up, upI, Ld]) | (have hh := h.inj; simp only [up] at *; grind) | (have hh := h.inj; simp only [up, Ld] at *; grind)
  case frn => first | exact h.frn | (have hh := h.frn; grind [up, upI, Ld]) | (have hh := h.frn; simp only [up] at *; grind) | (have hh := h.frn; simp only [up, Ld] at *; grind)
  case rg => first | exact h.rg | (have hh := h.rg; grind [up, upI, Ld]) | (have hh := h.rg; simp only [up] at *; grind) | (have hh := h.rg; simp only [up, Ld] at *; grind)
  case s0 => first | exact h.s0 | (have hh := h.s0; grind [up, upI, Ld]) | (have hh := h.s0; simp only [up] at *; grind) | (have hh := h.s0; simp only [up, Ld] at *; grind)
  case s1 => first | exact h.s1 | (have hh := h.s1; grind [up, upI, Ld]) | (have hh := h.s1; simp only [up] at *; grind) | (have hh := h.s1; simp only [up, Ld] at *; grind)
  case s2 => first | exact h.s2 | (have hh := h.s2; grind [up, upI, Ld]) | (have hh := h.s2; simp only [up] at *; grind) | (have hh := h.s2; simp only [up, Ld] at *; grind)
  case s3 => first | exact h.s3 | (have hh := h.s3; grind [up, upI, Ld]) | (have hh := h.s3; simp only [up] at *; grind) | (have hh := h.s3; simp only [up, Ld] at *; grind)
  case hd => first | exact h.hd | (have hh := h.hd; grind [up, upI, Ld]) | (have hh := h.hd; simp only [up] at *; grind) | (have hh := h.hd; simp only [up, Ld] at *; grind)
  case rO => first | exact h.rO | (have hh := h.rO; grind [up, upI, Ld]) | (have hh := h.rO; simp only [up] at *; grind) | (have hh := h.rO; simp only [up, Ld] at *; grind)
  case rU => first | exact h.rU | (have hh := h.rU; grind [up, upI, Ld]) | (have hh := h.rU; simp only [up] at *; grind) | (have hh := h.rU; simp only [up, Ld] at *; grind)
  case jO => first | exact h.jO | (have hh := h.jO; grind [up, upI, Ld]) | (have hh := h.jO; simp only [up] at *; grind) | (have hh := h.jO; simp only [up, Ld] at *; grind)
  case jU => first | exact h.jU | (have hh := h.jU; grind [up, upI, Ld]) | (have hh := h.jU; simp only [up] at *; grind) | (have hh := h.jU; simp only [up, Ld] at *; grind)
  case oO => first | exact h.oO | (have hh := h.oO; grind [up, upI, Ld]) | (have hh := h.oO; simp only [up] at *; grind) | (have hh := h.oO; simp only [up, Ld] at *; grind)
  case oU => first | exact h.oU | (have hh := h.oU; grind [up, upI, Ld]) | (have hh := h.oU; simp only [up] at *; grind) | (have hh := h.oU; simp only [up, Ld] at *; grind)
  case hE => first | exact h.hE | (have hh := h.hE; grind [up, upI, Ld]) | (have hh := h.hE; simp only [up] at *; grind) | (have hh := h.hE; simp only [up, Ld] at *; grind)
  case hue => first | exact h.hue | (have hh := h.hue; grind [up, upI, Ld]) | (have hh := h.hue; simp only [up] at *; grind) | (have hh := h.hue; simp only [up, Ld] at *; grind)
  case fq => first | exact h.fq | (have hh := h.fq; grind [up, upI, Ld]) | (have hh := h.fq; simp only [up] at *; grind) | (have hh := h.fq; simp only [up, Ld] at *; grind)
  case fu => first | exact h.fu | (have hh := h.fu; grind [up, upI, Ld]) | (have hh := h.fu; simp only [up] at *; grind) | (have hh := h.fu; simp only [up, Ld] at *; grind)
  case fp => first | exact h.fp | (have hh := h.fp; grind [up, upI, Ld]) | (have hh := h.fp; simp only [up] at *; grind) | (have hh := h.fp; simp only [up, Ld] at *; grind)
  case ff => first | exact h.ff | (have hh := h.ff; grind [up, upI, Ld]) | (have hh := h.ff; simp only [up] at *; grind) | (have hh := h.ff; simp only [up, Ld] at *; grind)
  case ch => first | exact h.ch | (have hh := h.ch; grind [up, upI, Ld]) | (have hh := h.ch; simp only [up] at *; grind) | (have hh := h.ch; simp only [up, Ld] at *; grind)
  case cO => first | exact h.cO | (have hh := h.cO; grind [up, upI, Ld]) | (have hh := h.cO; simp only [up] at *; grind) | (have hh := h.cO; simp only [up, Ld] at *; grind)
  case cU => first | exact h.cU | (have hh := h.cU; grind [up, upI, Ld]) | (have hh := h.cU; simp only [up] at *; grind) | (have hh := h.cU; simp only [up, Ld] at *; grind)
  case fol => first | exact h.fol | (have hh := h.fol; grind [up, upI, Ld]) | (have hh := h.fol; simp only [up] at *; grind) | (have hh := h.fol; simp only [up, Ld] at *; grind)
  case t0 => first | exact h.t0 | (have hh := h.t0; grind [up, upI, Ld]) | (have hh := h.t0; simp only [up] at *; grind) | (have hh := h.t0; simp only [up, Ld] at *; grind)
  case t1 => first | exact h.t1 | (have hh := h.t1; grind [up, upI, Ld]) | (have hh := h.t1; simp only [up] at *; grind) | (have hh := h.t1; simp only [up, Ld] at *; grind)
  case cc => first | exact h.cc | (have hh := h.cc; grind [up, upI, Ld]) | (have hh := h.cc; simp only [up] at *; grind) | (have hh := h.cc; simp only [up, Ld] at *; grind)
  case ku => first | exact h.ku | (have hh := h.ku; grind [up, upI, Ld]) | (have hh := h.ku; simp only [up] at *; grind) | (have hh := h.ku; simp only [up, Ld] at *; grind)
  case kc => first | exact h.kc | (have hh := h.kc; grind [up, upI, Ld]) | (have hh := h.kc; simp only [up] at *; grind) | (have hh := h.kc; simp only [up, Ld] at *; grind)
  case l4 => first | exact h.l4 | (have hh := h.l4; grind [up, upI, Ld]) | (have hh := h.l4; simp only [up] at *; grind) | (have hh := h.l4; simp only [up, Ld] at *; grind)
  case l5 => first | exact h.l5 | (have hh := h.l5; grind [up, upI, Ld]) | (have hh := h.l5; simp only [up] at *; grind) | (have hh := h.l5; simp only [up, Ld] at *; grind)
  case l6 => first | exact h.l6 | (have hh := h.l6; grind [up, upI, Ld]) | (have hh := h.l6; simp only [up] at *; grind) | (have hh := h.l6; simp only [up, Ld] at *; grind)
  case lj => first | exact h.lj | (have hh := h.lj; grind [up, upI, Ld]) | (have hh := h.lj; simp only [up] at *; grind) | (have hh := h.lj; simp only [up, Ld] at *; grind)
  case m4 => first | exact h.m4 | (have hh := h.m4; grind [up, upI, Ld]) | (have hh := h.m4; simp only [up] at *; grind) | (have hh := h.m4; simp only [up, Ld] at *; grind)

theorem HI.raise (h : HI n cl nd ah ls wd sp s lo r F C hu eu T H E fr) (t : Nat) (ht : t < n) (h0 : s t = 1) (hp : sp t = 0) : HI n cl nd ah ls wd (up sp t 1) s lo r (upI F (nd t) (cl t * 4 + 2)) C hu eu T H E fr := by
  have k1 := h.s1 t ht h0
  have hlo : lo t = 0 := by grind
  have hi := h.inj t
  have hf := h.frn t ht
  have hc := h.clr t ht
  have key : ∀ u, u < n → u ≠ t → nd u ≠ nd t := fun u hu' e => by have := h.inj u t hu' ht; grind
  constructor
  case n8 => first | exact h.n8 | (have hh := h.n8; grind [up, upI, Ld]) | (have hh := h.n8; simp only [up] at *; grind) | (have hh := h.n8; simp only [up, Ld] at *; grind)
  case clr => first | exact h.clr | (have hh := h.clr; grind [up, upI, Ld]) | (have hh := h.clr; simp only [up] at *; grind) | (have hh := h.clr; simp only [up, Ld] at *; grind)
  case ndr => first | exact h.ndr | (have hh := h.ndr; grind [up, upI, Ld]) | (have hh := h.ndr; simp only [up] at *; grind) | (have hh := h.ndr; simp only [up, Ld] at *; grind)
  case frr => first | exact h.frr | (have hh := h.frr; grind [up, upI, Ld]) | (have hh := h.frr; simp only [up] at *; grind) | (have hh := h.frr; simp only [up, Ld] at *; grind)
  case inj => first | exact h.inj | (have hh := h.inj; grind [up, upI, Ld]) | (have hh := h.inj; simp only [up] at *; grind) | (have hh := h.inj; simp only [up, Ld] at *; grind)
  case frn => first | exact h.frn | (have hh := h.frn; grind [up, upI, Ld]) | (have hh := h.frn; simp only [up] at *; grind) | (have hh := h.frn; simp only [up, Ld] at *; grind)
  case rg => first | exact h.rg | (have hh := h.rg; grind [up, upI, Ld]) | (have hh := h.rg; simp only [up] at *; grind) | (have hh := h.rg; simp only [up, Ld] at *; grind)
  case s0 => first | exact h.s0 | (have hh := h.s0; grind [up, upI, Ld]) | (have hh := h.s0; simp only [up] at *; grind) | (have hh := h.s0; simp only [up, Ld] at *; grind)
  case s1 => first | exact h.s1 | (have hh := h.s1; grind [up, upI, Ld]) | (have hh := h.s1; simp only [up] at *; grind) | (have hh := h.s1; simp only [up, Ld] at *; grind)
  case s2 => first | exact h.s2 | (have hh := h.s2; grind [up, upI, Ld]) | (have hh := h.s2; simp only [up] at *; grind) | (have hh := h.s2; simp only [up, Ld] at *; grind)
  case s3 => first | exact h.s3 | (have hh := h.s3; grind [up, upI, Ld]) | (have hh := h.s3; simp only [up] at *; grind) | (have hh := h.s3; simp only [up, Ld] at *; grind)
  case hd => first | exact h.hd | (have hh := h.hd; grind [up, upI, Ld]) | (have hh := h.hd; simp only [up] at *; grind) | (have hh := h.hd; simp only [up, Ld] at *; grind)
  case rO => first | exact h.rO | (have hh := h.rO; grind [up, upI, Ld]) | (have hh := h.rO; simp only [up] at *; grind) | (have hh := h.rO; simp only [up, Ld] at *; grind)
  case rU => first | exact h.rU | (have hh := h.rU; grind [up, upI, Ld]) | (have hh := h.rU; simp only [up] at *; grind) | (have hh := h.rU; simp only [up, Ld] at *; grind)
  case jO => first | exact h.jO | (have hh := h.jO; grind [up, upI, Ld]) | (have hh := h.jO; simp only [up] at *; grind) | (have hh := h.jO; simp only [up, Ld] at *; grind)
  case jU => first | exact h.jU | (have hh := h.jU; grind [up, upI, Ld]) | (have hh := h.jU; simp only [up] at *; grind) | (have hh := h.jU; simp only [up, Ld] at *; grind)
  case oO => first | exact h.oO | (have hh := h.oO; grind [up, upI, Ld]) | (have hh := h.oO; simp only [up] at *; grind) | (have hh := h.oO; simp only [up, Ld] at *; grind)
  case oU => first | exact h.oU | (have hh := h.oU; grind [up, upI, Ld]) | (have hh := h.oU; simp only [up] at *; grind) | (have hh := h.oU; simp only [up, Ld] at *; grind)
  case hE => first | exact h.hE | (have hh := h.hE; grind [up, upI, Ld]) | (have hh := h.hE; simp only [up] at *; grind) | (have hh := h.hE; simp only [up, Ld] at *; grind)
  case hue => first | exact h.hue | (have hh := h.hue; grind [up, upI, Ld]) | (have hh := h.hue; simp only [up] at *; grind) | (have hh := h.hue; simp only [up, Ld] at *; grind)
  case fq => first | exact h.fq | (have hh := h.fq; grind [up, upI, Ld]) | (have hh := h.fq; simp only [up] at *; grind) | (have hh := h.fq; simp only [up, Ld] at *; grind)
  case fu => first | exact h.fu | (have hh := h.fu; grind [up, upI, Ld]) | (have hh := h.fu; simp only [up] at *; grind) | (have hh := h.fu; simp only [up, Ld] at *; grind)
  case fp => first | exact h.fp | (have hh := h.fp; grind [up, upI, Ld]) | (have hh := h.fp; simp only [up] at *; grind) | (have hh := h.fp; simp only [up, Ld] at *; grind)
  case ff => first | exact h.ff | (have hh := h.ff; grind [up, upI, Ld]) | (have hh := h.ff; simp only [up] at *; grind) | (have hh := h.ff; simp only [up, Ld] at *; grind)
  case ch => first | exact h.ch | (have hh := h.ch; grind [up, upI, Ld]) | (have hh := h.ch; simp only [up] at *; grind) | (have hh := h.ch; simp only [up, Ld] at *; grind)
  case cO => first | exact h.cO | (have hh := h.cO; grind [up, upI, Ld]) | (have hh := h.cO; simp only [up] at *; grind) | (have hh := h.cO; simp only [up, Ld] at *; grind)
  case cU => first | exact h.cU | (have hh := h.cU; grind [up, upI, Ld]) | (have hh := h.cU; simp only [up] at *; grind) | (have hh := h.cU; simp only [up, Ld] at *; grind)
  case fol => intro u hu' hl; have hh := h.fol u hu' hl; have ha := h.ahO u hu' hl; grind [up, upI, Ld]
  case t0 => first | exact h.t0 | (have hh := h.t0; grind [up, upI, Ld]) | (have hh := h.t0; simp only [up] at *; grind) | (have hh := h.t0; simp only [up, Ld] at *; grind)
  case t1 => first | exact h.t1 | (have hh := h.t1; grind [up, upI, Ld]) | (have hh := h.t1; simp only [up] at *; grind) | (have hh := h.t1; simp only [up, Ld] at *; grind)
  case cc => first | exact h.cc | (have hh := h.cc; grind [up, upI, Ld]) | (have hh := h.cc; simp only [up] at *; grind) | (have hh := h.cc; simp only [up, Ld] at *; grind)
  case ku => intro u hu' hl hs hr; have hut : u ≠ t := (by grind); rw [up_ne _ _ hut] at hs; exact (h.ku u hu' hl hs hr).word (fun hk e => by have := hk.2.1 t ht; grind)
  case kc => intro c h0' h1' he; rcases h.kc c h0' h1' he with e | e; exact .inl e; exact .inr (e.word (fun hk e => by have := hk.2.1 t ht; grind))
  case l4 => first | exact h.l4 | (have hh := h.l4; grind [up, upI, Ld]) | (have hh := h.l4; simp only [up] at *; grind) | (have hh := h.l4; simp only [up, Ld] at *; grind)
  case l5 => first | exact h.l5 | (have hh := h.l5; grind [up, upI, Ld]) | (have hh := h.l5; simp only [up] at *; grind) | (have hh := h.l5; simp only [up, Ld] at *; grind)
  case l6 => intro u hu' hs hp'; have h6 := h.l6 u hu'; have h5 := h.l5 u hu'; have h1 := h.s1 u hu'; grind [up, upI, Ld]
  case lj => first | exact h.lj | (have hh := h.lj; grind [up, upI, Ld]) | (have hh := h.lj; simp only [up] at *; grind) | (have hh := h.lj; simp only [up, Ld] at *; grind)
  case m4 => first | exact h.m4 | (have hh := h.m4; grind [up, upI, Ld]) | (have hh := h.m4; simp only [up] at *; grind) | (have hh := h.m4; simp only [up, Ld] at *; grind)

theorem HI.queue (h : HI n cl nd ah ls wd sp s lo r F C hu eu T H E fr) (t : Nat) (ht : t < n) (h0 : s t = 1) (hp : sp t = 1) : HI n cl nd (up ah t (C (cl t))) ls wd (up sp t (if C (cl t) = 0 then 3 else 2)) s (up lo t 1) (up r t (eu (cl t))) F (upI C (cl t) (nd t)) hu (upI eu (cl t) (eu (cl t) + 1)) T H E fr := by
  have k1 := h.s1 t ht h0
  have hlo : lo t = 0 := by grind
  have hc := h.clr t ht
  have hfp := h.fp t ht h0 hp
  have hu0 := h.hue (cl t) hc.1 hc.2
  have hC := h.C0 (cl t) hc.1 hc.2
  have hz : C (cl t) = 0 → hu (cl t) = eu (cl t) := fun e => by
    rcases hC with e1 | ⟨m, hm, _, _, _, e1⟩
    · exact e1
    · have := h.ndr m hm; omega
  have lo2 : ∀ u, u < n → (up lo t 1 u = 2 ↔ lo u = 2) := fun u _ => by simp only [up]; split <;> grind
  have r2 : ∀ u, u < n → lo u = 2 → up r t (eu (cl t)) u = r u := fun u _ e => up_ne _ _ (by grind)
  constructor
  case n8 => first | exact h.n8 | (have hh := h.n8; grind [up, upI, Ld]) | (have hh := h.n8; simp only [up] at *; grind) | (have hh := h.n8; simp only [up, Ld] at *; grind)
  case clr => first | exact h.clr | (have hh := h.clr; grind [up, upI, Ld]) | (have hh := h.clr; simp only [up] at *; grind) | (have hh := h.clr; simp only [up, Ld] at *; grind)
  case ndr => first | exact h.ndr | (have hh := h.ndr; grind [up, upI, Ld]) | (have hh := h.ndr; simp only [up] at *; grind) | (have hh := h.ndr; simp only [up, Ld] at *; grind)
  case frr => first | exact h.frr | (have hh := h.frr; grind [up, upI, Ld]) | (have hh := h.frr; simp only [up] at *; grind) | (have hh := h.frr; simp only [up, Ld] at *; grind)
  case inj => first | exact h.inj | (have hh := h.inj; grind [up, upI, Ld]) | (have hh := h.inj; simp only [up] at *; grind) | (have hh := h.inj; simp only [up, Ld] at *; grind)
  case frn => first | exact h.frn | (have hh := h.frn; grind [up, upI, Ld]) | (have hh := h.frn; simp only [up] at *; grind) | (have hh := h.frn; simp only [up, Ld] at *; grind)
  case rg => first | exact h.rg | (have hh := h.rg; grind [up, upI, Ld]) | (have hh := h.rg; simp only [up] at *; grind) | (have hh := h.rg; simp only [up, Ld] at *; grind)
  case s0 => first | exact h.s0 | (have hh := h.s0; grind [up, upI, Ld]) | (have hh := h.s0; simp only [up] at *; grind) | (have hh := h.s0; simp only [up, Ld] at *; grind)
  case s1 => first | exact h.s1 | (have hh := h.s1; grind [up, upI, Ld]) | (have hh := h.s1; simp only [up] at *; grind) | (have hh := h.s1; simp only [up, Ld] at *; grind)
  case s2 => first | exact h.s2 | (have hh := h.s2; grind [up, upI, Ld]) | (have hh := h.s2; simp only [up] at *; grind) | (have hh := h.s2; simp only [up, Ld] at *; grind)
  case s3 => first | exact h.s3 | (have hh := h.s3; grind [up, upI, Ld]) | (have hh := h.s3; simp only [up] at *; grind) | (have hh := h.s3; simp only [up, Ld] at *; grind)
  case hd => intro u hu' hl hs; have hh := h.hd u hu'; grind [up, upI, Ld]
  case rO => first | exact h.rO | (have hh := h.rO; grind [up, upI, Ld]) | (have hh := h.rO; simp only [up] at *; grind) | (have hh := h.rO; simp only [up, Ld] at *; grind)
  case rU => first | exact h.rU | (have hh := h.rU; grind [up, upI, Ld]) | (have hh := h.rU; simp only [up] at *; grind) | (have hh := h.rU; simp only [up, Ld] at *; grind)
  case jO => first | exact h.jO | (have hh := h.jO; grind [up, upI, Ld]) | (have hh := h.jO; simp only [up] at *; grind) | (have hh := h.jO; simp only [up, Ld] at *; grind)
  case jU => intro u v hu' hv' e1 e2 e3 e4; have hh := h.jU u v hu' hv'; have a1 := h.rU u hu'; have a2 := h.rU v hv'; grind [up, upI, Ld]
  case oO => first | exact h.oO | (have hh := h.oO; grind [up, upI, Ld]) | (have hh := h.oO; simp only [up] at *; grind) | (have hh := h.oO; simp only [up, Ld] at *; grind)
  case oU => first | exact h.oU | (have hh := h.oU; grind [up, upI, Ld]) | (have hh := h.oU; simp only [up] at *; grind) | (have hh := h.oU; simp only [up, Ld] at *; grind)
  case hE => first | exact h.hE | (have hh := h.hE; grind [up, upI, Ld]) | (have hh := h.hE; simp only [up] at *; grind) | (have hh := h.hE; simp only [up, Ld] at *; grind)
  case hue => first | exact h.hue | (have hh := h.hue; grind [up, upI, Ld]) | (have hh := h.hue; simp only [up] at *; grind) | (have hh := h.hue; simp only [up, Ld] at *; grind)
  case fq => first | exact h.fq | (have hh := h.fq; grind [up, upI, Ld]) | (have hh := h.fq; simp only [up] at *; grind) | (have hh := h.fq; simp only [up, Ld] at *; grind)
  case fu => first | exact h.fu | (have hh := h.fu; grind [up, upI, Ld]) | (have hh := h.fu; simp only [up] at *; grind) | (have hh := h.fu; simp only [up, Ld] at *; grind)
  case fp => first | exact h.fp | (have hh := h.fp; grind [up, upI, Ld]) | (have hh := h.fp; simp only [up] at *; grind) | (have hh := h.fp; simp only [up, Ld] at *; grind)
  case ff => first | exact h.ff | (have hh := h.ff; grind [up, upI, Ld]) | (have hh := h.ff; simp only [up] at *; grind) | (have hh := h.ff; simp only [up, Ld] at *; grind)
  case ch => first | exact h.ch | (have hh := h.ch; grind [up, upI, Ld]) | (have hh := h.ch; simp only [up] at *; grind) | (have hh := h.ch; simp only [up, Ld] at *; grind)
  case cO => first | exact h.cO | (have hh := h.cO; grind [up, upI, Ld]) | (have hh := h.cO; simp only [up] at *; grind) | (have hh := h.cO; simp only [up, Ld] at *; grind)
  case cU => intro u v hu' hv' e1 e2 e3 e4; have hh := h.cU u v hu' hv'; have a1 := h.rU u hu'; have a2 := h.rU v hv'; have a3 := h.cc v hv'; grind [up, upI, Ld]
  case fol => first | exact h.fol | (have hh := h.fol; grind [up, upI, Ld]) | (have hh := h.fol; simp only [up] at *; grind) | (have hh := h.fol; simp only [up, Ld] at *; grind)
  case t0 => first | exact h.t0 | (have hh := h.t0; grind [up, upI, Ld]) | (have hh := h.t0; simp only [up] at *; grind) | (have hh := h.t0; simp only [up, Ld] at *; grind)
  case t1 => first | exact h.t1 | (have hh := h.t1; grind [up, upI, Ld]) | (have hh := h.t1; simp only [up] at *; grind) | (have hh := h.t1; simp only [up, Ld] at *; grind)
  case cc => intro u hu' e1 e2; have hh := h.cc u hu'; have a1 := h.rU u hu'; grind [up, upI, Ld]
  case ku => 
    intro u hu' hl hs hr
    by_cases e : u = t
    · subst e
      rw [up_eq] at hs hr ⊢
      have hz' : ¬ C (cl u) = 0 := by grind
      rcases h.kc (cl u) hc.1 hc.2 hr.symm with e | e
      · exact absurd e hz'
      · exact e.congr lo2 r2
    · rw [up_ne _ _ e] at hl hs hr ⊢
      exact (h.ku u hu' hl hs hr).congr lo2 r2
  case kc => 
    intro c h0' h1' he
    by_cases e : c = cl t
    · subst e
      simp only [upI, if_true] at he
      omega
    · have e1 : upI eu (cl t) (eu (cl t) + 1) c = eu c := by simp [upI, e]
      have e2 : upI C (cl t) (nd t) c = C c := by simp [upI, e]
      rw [e1] at he
      rw [e2]
      rcases h.kc c h0' h1' he with e | e
      · exact .inl e
      · exact .inr (e.congr lo2 r2)
  case l4 => first | exact h.l4 | (have hh := h.l4; grind [up, upI, Ld]) | (have hh := h.l4; simp only [up] at *; grind) | (have hh := h.l4; simp only [up, Ld] at *; grind)
  case l5 => first | exact h.l5 | (have hh := h.l5; grind [up, upI, Ld]) | (have hh := h.l5; simp only [up] at *; grind) | (have hh := h.l5; simp only [up, Ld] at *; grind)
  case l6 => first | exact h.l6 | (have hh := h.l6; grind [up, upI, Ld]) | (have hh := h.l6; simp only [up] at *; grind) | (have hh := h.l6; simp only [up, Ld] at *; grind)
  case lj => first | exact h.lj | (have hh := h.lj; grind [up, upI, Ld]) | (have hh := h.lj; simp only [up] at *; grind) | (have hh := h.lj; simp only [up, Ld] at *; grind)
  case m4 => first | exact h.m4 | (have hh := h.m4; grind [up, upI, Ld]) | (have hh := h.m4; simp only [up] at *; grind) | (have hh := h.m4; simp only [up, Ld] at *; grind)

theorem HI.watch3 (h : HI n cl nd ah ls wd sp s lo r F C hu eu T H E fr) (t : Nat) (ht : t < n) (h0 : s t = 1) (hp : sp t = 2) (hF : F (ah t) / 4 ≠ cl t ∨ F (ah t) % 2 = 1) : HI n cl nd ah ls wd (up sp t 3) s lo r F C hu eu T H E fr := by
  have k1 := h.s1 t ht h0
  have hlo : lo t = 1 := by have := h.fol t ht; have := h.rg t ht; grind
  have hr : r t = hu (cl t) := by
    rcases h.ahU t ht hlo with e | ⟨p, hp', hl, hc, e, _⟩
    · exact e
    · have := h.fu p hp' hl; rw [e, this] at hF; omega
  constructor
  case n8 => first | exact h.n8 | (have hh := h.n8; grind [up, upI, Ld]) | (have hh := h.n8; simp only [up] at *; grind) | (have hh := h.n8; simp only [up, Ld] at *; grind)
  case clr => first | exact h.clr | (have hh := h.clr; grind [up, upI, Ld]) | (have hh := h.clr; simp only [up] at *; grind) | (have hh := h.clr; simp only [up, Ld] at *; grind)
  case ndr => first | exact h.ndr | (have hh := h.ndr; grind [up, upI, Ld]) | (have hh := h.ndr; simp only [up] at *; grind) | (have hh := h.ndr; simp only [up, Ld] at *; grind)
  case frr => first | exact h.frr | (have hh := h.frr; grind [up, upI, Ld]) | (have hh := h.frr; simp only [up] at *; grind) | (have hh := h.frr; simp only [up, Ld] at *; grind)
  case inj => first | exact h.inj | (have hh := h.inj; grind [up, upI, Ld]) | (have hh := h.inj; simp only [up] at *; grind) | (have hh := h.inj; simp only [up, Ld] at *; grind)
  case frn => first | exact h.frn | (have hh := h.frn; grind [up, upI, Ld]) | (have hh := h.frn; simp only [up] at *; grind) | (have hh := h.frn; simp only [up, Ld] at *; grind)
  case rg => first | exact h.rg | (have hh := h.rg; grind [up, upI, Ld]) | (have hh := h.rg; simp only [up] at *; grind) | (have hh := h.rg; simp only [up, Ld] at *; grind)
  case s0 => first | exact h.s0 | (have hh := h.s0; grind [up, upI, Ld]) | (have hh := h.s0; simp only [up] at *; grind) | (have hh := h.s0; simp only [up, Ld] at *; grind)
  case s1 => first | exact h.s1 | (have hh := h.s1; grind [up, upI, Ld]) | (have hh := h.s1; simp only [up] at *; grind) | (have hh := h.s1; simp only [up, Ld] at *; grind)
  case s2 => first | exact h.s2 | (have hh := h.s2; grind [up, upI, Ld]) | (have hh := h.s2; simp only [up] at *; grind) | (have hh := h.s2; simp only [up, Ld] at *; grind)
  case s3 => first | exact h.s3 | (have hh := h.s3; grind [up, upI, Ld]) | (have hh := h.s3; simp only [up] at *; grind) | (have hh := h.s3; simp only [up, Ld] at *; grind)
  case hd => first | exact h.hd | (have hh := h.hd; grind [up, upI, Ld]) | (have hh := h.hd; simp only [up] at *; grind) | (have hh := h.hd; simp only [up, Ld] at *; grind)
  case rO => first | exact h.rO | (have hh := h.rO; grind [up, upI, Ld]) | (have hh := h.rO; simp only [up] at *; grind) | (have hh := h.rO; simp only [up, Ld] at *; grind)
  case rU => first | exact h.rU | (have hh := h.rU; grind [up, upI, Ld]) | (have hh := h.rU; simp only [up] at *; grind) | (have hh := h.rU; simp only [up, Ld] at *; grind)
  case jO => first | exact h.jO | (have hh := h.jO; grind [up, upI, Ld]) | (have hh := h.jO; simp only [up] at *; grind) | (have hh := h.jO; simp only [up, Ld] at *; grind)
  case jU => first | exact h.jU | (have hh := h.jU; grind [up, upI, Ld]) | (have hh := h.jU; simp only [up] at *; grind) | (have hh := h.jU; simp only [up, Ld] at *; grind)
  case oO => first | exact h.oO | (have hh := h.oO; grind [up, upI, Ld]) | (have hh := h.oO; simp only [up] at *; grind) | (have hh := h.oO; simp only [up, Ld] at *; grind)
  case oU => first | exact h.oU | (have hh := h.oU; grind [up, upI, Ld]) | (have hh := h.oU; simp only [up] at *; grind) | (have hh := h.oU; simp only [up, Ld] at *; grind)
  case hE => first | exact h.hE | (have hh := h.hE; grind [up, upI, Ld]) | (have hh := h.hE; simp only [up] at *; grind) | (have hh := h.hE; simp only [up, Ld] at *; grind)
  case hue => first | exact h.hue | (have hh := h.hue; grind [up, upI, Ld]) | (have hh := h.hue; simp only [up] at *; grind) | (have hh := h.hue; simp only [up, Ld] at *; grind)
  case fq => first | exact h.fq | (have hh := h.fq; grind [up, upI, Ld]) | (have hh := h.fq; simp only [up] at *; grind) | (have hh := h.fq; simp only [up, Ld] at *; grind)
  case fu => first | exact h.fu | (have hh := h.fu; grind [up, upI, Ld]) | (have hh := h.fu; simp only [up] at *; grind) | (have hh := h.fu; simp only [up, Ld] at *; grind)
  case fp => first | exact h.fp | (have hh := h.fp; grind [up, upI, Ld]) | (have hh := h.fp; simp only [up] at *; grind) | (have hh := h.fp; simp only [up, Ld] at *; grind)
  case ff => first | exact h.ff | (have hh := h.ff; grind [up, upI, Ld]) | (have hh := h.ff; simp only [up] at *; grind) | (have hh := h.ff; simp only [up, Ld] at *; grind)
  case ch => first | exact h.ch | (have hh := h.ch; grind [up, upI, Ld]) | (have hh := h.ch; simp only [up] at *; grind) | (have hh := h.ch; simp only [up, Ld] at *; grind)
  case cO => first | exact h.cO | (have hh := h.cO; grind [up, upI, Ld]) | (have hh := h.cO; simp only [up] at *; grind) | (have hh := h.cO; simp only [up, Ld] at *; grind)
  case cU => first | exact h.cU | (have hh := h.cU; grind [up, upI, Ld]) | (have hh := h.cU; simp only [up] at *; grind) | (have hh := h.cU; simp only [up, Ld] at *; grind)
  case fol => first | exact h.fol | (have hh := h.fol; grind [up, upI, Ld]) | (have hh := h.fol; simp only [up] at *; grind) | (have hh := h.fol; simp only [up, Ld] at *; grind)
  case t0 => first | exact h.t0 | (have hh := h.t0; grind [up, upI, Ld]) | (have hh := h.t0; simp only [up] at *; grind) | (have hh := h.t0; simp only [up, Ld] at *; grind)
  case t1 => first | exact h.t1 | (have hh := h.t1; grind [up, upI, Ld]) | (have hh := h.t1; simp only [up] at *; grind) | (have hh := h.t1; simp only [up, Ld] at *; grind)
  case cc => first | exact h.cc | (have hh := h.cc; grind [up, upI, Ld]) | (have hh := h.cc; simp only [up] at *; grind) | (have hh := h.cc; simp only [up, Ld] at *; grind)
  case ku => first | exact h.ku | (have hh := h.ku; grind [up, upI, Ld]) | (have hh := h.ku; simp only [up] at *; grind) | (have hh := h.ku; simp only [up, Ld] at *; grind)
  case kc => first | exact h.kc | (have hh := h.kc; grind [up, upI, Ld]) | (have hh := h.kc; simp only [up] at *; grind) | (have hh := h.kc; simp only [up, Ld] at *; grind)
  case l4 => first | exact h.l4 | (have hh := h.l4; grind [up, upI, Ld]) | (have hh := h.l4; simp only [up] at *; grind) | (have hh := h.l4; simp only [up, Ld] at *; grind)
  case l5 => first | exact h.l5 | (have hh := h.l5; grind [up, upI, Ld]) | (have hh := h.l5; simp only [up] at *; grind) | (have hh := h.l5; simp only [up, Ld] at *; grind)
  case l6 => first | exact h.l6 | (have hh := h.l6; grind [up, upI, Ld]) | (have hh := h.l6; simp only [up] at *; grind) | (have hh := h.l6; simp only [up, Ld] at *; grind)
  case lj => first | exact h.lj | (have hh := h.lj; grind [up, upI, Ld]) | (have hh := h.lj; simp only [up] at *; grind) | (have hh := h.lj; simp only [up, Ld] at *; grind)
  case m4 => first | exact h.m4 | (have hh := h.m4; grind [up, upI, Ld]) | (have hh := h.m4; simp only [up] at *; grind) | (have hh := h.m4; simp only [up, Ld] at *; grind)

theorem HI.grantF (h : HI n cl nd ah ls wd sp s lo r F C hu eu T H E fr) (t : Nat) (ht : t < n) (h0 : s t = 1) (hp : sp t = 2) (hF : F (ah t) / 4 = cl t) (hS : F (ah t) % 2 = 0) (hW : F (ah t) / 2 % 2 = 0) : HI n cl nd ah ls wd (up sp t 0) (up s t 2) lo r F C hu eu T H E fr := by
  have k1 := h.s1 t ht h0
  obtain ⟨hlo, hr⟩ := h.grantF_at t ht h0 hp hF hS hW
  constructor
  case n8 => first | exact h.n8 | (have hh := h.n8; grind [up, upI, Ld]) | (have hh := h.n8; simp only [up] at *; grind) | (have hh := h.n8; simp only [up, Ld] at *; grind)
  case clr => first | exact h.clr | (have hh := h.clr; grind [up, upI, Ld]) | (have hh := h.clr; simp only [up] at *; grind) | (have hh := h.clr; simp only [up, Ld] at *; grind)
  case ndr => first | exact h.ndr | (have hh := h.ndr; grind [up, upI, Ld]) | (have hh := h.ndr; simp only [up] at *; grind) | (have hh := h.ndr; simp only [up, Ld] at *; grind)
  case frr => first | exact h.frr | (have hh := h.frr; grind [up, upI, Ld]) | (have hh := h.frr; simp only [up] at *; grind) | (have hh := h.frr; simp only [up, Ld] at *; grind)
  case inj => first | exact h.inj | (have hh := h.inj; grind [up, upI, Ld]) | (have hh := h.inj; simp only [up] at *; grind) | (have hh := h.inj; simp only [up, Ld] at *; grind)
  case frn => first | exact h.frn | (have hh := h.frn; grind [up, upI, Ld]) | (have hh := h.frn; simp only [up] at *; grind) | (have hh := h.frn; simp only [up, Ld] at *; grind)
  case rg => first | exact h.rg | (have hh := h.rg; grind [up, upI, Ld]) | (have hh := h.rg; simp only [up] at *; grind) | (have hh := h.rg; simp only [up, Ld] at *; grind)
  case s0 => first | exact h.s0 | (have hh := h.s0; grind [up, upI, Ld]) | (have hh := h.s0; simp only [up] at *; grind) | (have hh := h.s0; simp only [up, Ld] at *; grind)
  case s1 => first | exact h.s1 | (have hh := h.s1; grind [up, upI, Ld]) | (have hh := h.s1; simp only [up] at *; grind) | (have hh := h.s1; simp only [up, Ld] at *; grind)
  case s2 => first | exact h.s2 | (have hh := h.s2; grind [up, upI, Ld]) | (have hh := h.s2; simp only [up] at *; grind) | (have hh := h.s2; simp only [up, Ld] at *; grind)
  case s3 => first | exact h.s3 | (have hh := h.s3; grind [up, upI, Ld]) | (have hh := h.s3; simp only [up] at *; grind) | (have hh := h.s3; simp only [up, Ld] at *; grind)
  case hd => first | exact h.hd | (have hh := h.hd; grind [up, upI, Ld]) | (have hh := h.hd; simp only [up] at *; grind) | (have hh := h.hd; simp only [up, Ld] at *; grind)
  case rO => first | exact h.rO | (have hh := h.rO; grind [up, upI, Ld]) | (have hh := h.rO; simp only [up] at *; grind) | (have hh := h.rO; simp only [up, Ld] at *; grind)
  case rU => first | exact h.rU | (have hh := h.rU; grind [up, upI, Ld]) | (have hh := h.rU; simp only [up] at *; grind) | (have hh := h.rU; simp only [up, Ld] at *; grind)
  case jO => first | exact h.jO | (have hh := h.jO; grind [up, upI, Ld]) | (have hh := h.jO; simp only [up] at *; grind) | (have hh := h.jO; simp only [up, Ld] at *; grind)
  case jU => first | exact h.jU | (have hh := h.jU; grind [up, upI, Ld]) | (have hh := h.jU; simp only [up] at *; grind) | (have hh := h.jU; simp only [up, Ld] at *; grind)
  case oO => first | exact h.oO | (have hh := h.oO; grind [up, upI, Ld]) | (have hh := h.oO; simp only [up] at *; grind) | (have hh := h.oO; simp only [up, Ld] at *; grind)
  case oU => first | exact h.oU | (have hh := h.oU; grind [up, upI, Ld]) | (have hh := h.oU; simp only [up] at *; grind) | (have hh := h.oU; simp only [up, Ld] at *; grind)
  case hE => first | exact h.hE | (have hh := h.hE; grind [up, upI, Ld]) | (have hh := h.hE; simp only [up] at *; grind) | (have hh := h.hE; simp only [up, Ld] at *; grind)
  case hue => first | exact h.hue | (have hh := h.hue; grind [up, upI, Ld]) | (have hh := h.hue; simp only [up] at *; grind) | (have hh := h.hue; simp only [up, Ld] at *; grind)
  case fq => first | exact h.fq | (have hh := h.fq; grind [up, upI, Ld]) | (have hh := h.fq; simp only [up] at *; grind) | (have hh := h.fq; simp only [up, Ld] at *; grind)
  case fu => first | exact h.fu | (have hh := h.fu; grind [up, upI, Ld]) | (have hh := h.fu; simp only [up] at *; grind) | (have hh := h.fu; simp only [up, Ld] at *; grind)
  case fp => first | exact h.fp | (have hh := h.fp; grind [up, upI, Ld]) | (have hh := h.fp; simp only [up] at *; grind) | (have hh := h.fp; simp only [up, Ld] at *; grind)
  case ff => first | exact h.ff | (have hh := h.ff; grind [up, upI, Ld]) | (have hh := h.ff; simp only [up] at *; grind) | (have hh := h.ff; simp only [up, Ld] at *; grind)
  case ch => first | exact h.ch | (have hh := h.ch; grind [up, upI, Ld]) | (have hh := h.ch; simp only [up] at *; grind) | (have hh := h.ch; simp only [up, Ld] at *; grind)
  case cO => first | exact h.cO | (have hh := h.cO; grind [up, upI, Ld]) | (have hh := h.cO; simp only [up] at *; grind) | (have hh := h.cO; simp only [up, Ld] at *; grind)
  case cU => first | exact h.cU | (have hh := h.cU; grind [up, upI, Ld]) | (have hh := h.cU; simp only [up] at *; grind) | (have hh := h.cU; simp only [up, Ld] at *; grind)
  case fol => first | exact h.fol | (have hh := h.fol; grind [up, upI, Ld]) | (have hh := h.fol; simp only [up] at *; grind) | (have hh := h.fol; simp only [up, Ld] at *; grind)
  case t0 => first | exact h.t0 | (have hh := h.t0; grind [up, upI, Ld]) | (have hh := h.t0; simp only [up] at *; grind) | (have hh := h.t0; simp only [up, Ld] at *; grind)
  case t1 => first | exact h.t1 | (have hh := h.t1; grind [up, upI, Ld]) | (have hh := h.t1; simp only [up] at *; grind) | (have hh := h.t1; simp only [up, Ld] at *; grind)
  case cc => first | exact h.cc | (have hh := h.cc; grind [up, upI, Ld]) | (have hh := h.cc; simp only [up] at *; grind) | (have hh := h.cc; simp only [up, Ld] at *; grind)
  case ku => first | exact h.ku | (have hh := h.ku; grind [up, upI, Ld]) | (have hh := h.ku; simp only [up] at *; grind) | (have hh := h.ku; simp only [up, Ld] at *; grind)
  case kc => first | exact h.kc | (have hh := h.kc; grind [up, upI, Ld]) | (have hh := h.kc; simp only [up] at *; grind) | (have hh := h.kc; simp only [up, Ld] at *; grind)
  case l4 => first | exact h.l4 | (have hh := h.l4; grind [up, upI, Ld]) | (have hh := h.l4; simp only [up] at *; grind) | (have hh := h.l4; simp only [up, Ld] at *; grind)
  case l5 => first | exact h.l5 | (have hh := h.l5; grind [up, upI, Ld]) | (have hh := h.l5; simp only [up] at *; grind) | (have hh := h.l5; simp only [up, Ld] at *; grind)
  case l6 => first | exact h.l6 | (have hh := h.l6; grind [up, upI, Ld]) | (have hh := h.l6; simp only [up] at *; grind) | (have hh := h.l6; simp only [up, Ld] at *; grind)
  case lj => first | exact h.lj | (have hh := h.lj; grind [up, upI, Ld]) | (have hh := h.lj; simp only [up] at *; grind) | (have hh := h.lj; simp only [up, Ld] at *; grind)
  case m4 => intro u hu' hl hq; have hm := h.m4 u hu' hl; have a1 := h.rO u hu' hl; grind [up, upI, Ld]

theorem HI.last (h : HI n cl nd ah ls wd sp s lo r F C hu eu T H E fr) (t : Nat) (ht : t < n) (h0 : s t = 1) (hp : sp t = 3) : HI n cl nd ah (up ls t (C (cl t))) wd (up sp t 4) s lo r F C hu eu T H E fr := by
  have k1 := h.s1 t ht h0
  have hlo : lo t = 1 := by have := h.rg t ht; grind
  have hc := h.clr t ht
  have hC : ∃ m, m < n ∧ lo m = 1 ∧ cl m = cl t ∧ C (cl t) = nd m := by
    rcases h.C0 (cl t) hc.1 hc.2 with e | ⟨m, a1, a2, a3, _, a4⟩
    · have := h.rU t ht hlo; omega
    · exact ⟨m, a1, a2, a3, a4⟩
  constructor
  case n8 => first | exact h.n8 | (have hh := h.n8; grind [up, upI, Ld]) | (have hh := h.n8; simp only [up] at *; grind) | (have hh := h.n8; simp only [up, Ld] at *; grind)
  case clr => first | exact h.clr | (have hh := h.clr; grind [up, upI, Ld]) | (have hh := h.clr; simp only [up] at *; grind) | (have hh := h.clr; simp only [up, Ld] at *; grind)
  case ndr => first | exact h.ndr | (have hh := h.ndr; grind [up, upI, Ld]) | (have hh := h.ndr; simp only [up] at *; grind) | (have hh := h.ndr; simp only [up, Ld] at *; grind)
  case frr => first | exact h.frr | (have hh := h.frr; grind [up, upI, Ld]) | (have hh := h.frr; simp only [up] at *; grind) | (have hh := h.frr; simp only [up, Ld] at *; grind)
  case inj => first | exact h.inj | (have hh := h.inj; grind [up, upI, Ld]) | (have hh := h.inj; simp only [up] at *; grind) | (have hh := h.inj; simp only [up, Ld] at *; grind)
  case frn => first | exact h.frn | (have hh := h.frn; grind [up, upI, Ld]) | (have hh := h.frn; simp only [up] at *; grind) | (have hh := h.frn; simp only [up, Ld] at *; grind)
  case rg => first | exact h.rg | (have hh := h.rg; grind [up, upI, Ld]) | (have hh := h.rg; simp only [up] at *; grind) | (have hh := h.rg; simp only [up, Ld] at *; grind)
  case s0 => first | exact h.s0 | (have hh := h.s0; grind [up, upI, Ld]) | (have hh := h.s0; simp only [up] at *; grind) | (have hh := h.s0; simp only [up, Ld] at *; grind)
  case s1 => first | exact h.s1 | (have hh := h.s1; grind [up, upI, Ld]) | (have hh := h.s1; simp only [up] at *; grind) | (have hh := h.s1; simp only [up, Ld] at *; grind)
  case s2 => first | exact h.s2 | (have hh := h.s2; grind [up, upI, Ld]) | (have hh := h.s2; simp only [up] at *; grind) | (have hh := h.s2; simp only [up, Ld] at *; grind)
  case s3 => first | exact h.s3 | (have hh := h.s3; grind [up, upI, Ld]) | (have hh := h.s3; simp only [up] at *; grind) | (have hh := h.s3; simp only [up, Ld] at *; grind)
  case hd => first | exact h.hd | (have hh := h.hd; grind [up, upI, Ld]) | (have hh := h.hd; simp only [up] at *; grind) | (have hh := h.hd; simp only [up, Ld] at *; grind)
  case rO => first | exact h.rO | (have hh := h.rO; grind [up, upI, Ld]) | (have hh := h.rO; simp only [up] at *; grind) | (have hh := h.rO; simp only [up, Ld] at *; grind)
  case rU => first | exact h.rU | (have hh := h.rU; grind [up, upI, Ld]) | (have hh := h.rU; simp only [up] at *; grind) | (have hh := h.rU; simp only [up, Ld] at *; grind)
  case jO => first | exact h.jO | (have hh := h.jO; grind [up, upI, Ld]) | (have hh := h.jO; simp only [up] at *; grind) | (have hh := h.jO; simp only [up, Ld] at *; grind)
  case jU => first | exact h.jU | (have hh := h.jU; grind [up, upI, Ld]) | (have hh := h.jU; simp only [up] at *; grind) | (have hh := h.jU; simp only [up, Ld] at *; grind)
  case oO => first | exact h.oO | (have hh := h.oO; grind [up, upI, Ld]) | (have hh := h.oO; simp only [up] at *; grind) | (have hh := h.oO; simp only [up, Ld] at *; grind)
  case oU => first | exact h.oU | (have hh := h.oU; grind [up, upI, Ld]) | (have hh := h.oU; simp only [up] at *; grind) | (have hh := h.oU; simp only [up, Ld] at *; grind)
  case hE => first | exact h.hE | (have hh := h.hE; grind [up, upI, Ld]) | (have hh := h.hE; simp only [up] at *; grind) | (have hh := h.hE; simp only [up, Ld] at *; grind)
  case hue => first | exact h.hue | (have hh := h.hue; grind [up, upI, Ld]) | (have hh := h.hue; simp only [up] at *; grind) | (have hh := h.hue; simp only [up, Ld] at *; grind)
  case fq => first | exact h.fq | (have hh := h.fq; grind [up, upI, Ld]) | (have hh := h.fq; simp only [up] at *; grind) | (have hh := h.fq; simp only [up, Ld] at *; grind)
  case fu => first | exact h.fu | (have hh := h.fu; grind [up, upI, Ld]) | (have hh := h.fu; simp only [up] at *; grind) | (have hh := h.fu; simp only [up, Ld] at *; grind)
  case fp => first | exact h.fp | (have hh := h.fp; grind [up, upI, Ld]) | (have hh := h.fp; simp only [up] at *; grind) | (have hh := h.fp; simp only [up, Ld] at *; grind)
  case ff => first | exact h.ff | (have hh := h.ff; grind [up, upI, Ld]) | (have hh := h.ff; simp only [up] at *; grind) | (have hh := h.ff; simp only [up, Ld] at *; grind)
  case ch => first | exact h.ch | (have hh := h.ch; grind [up, upI, Ld]) | (have hh := h.ch; simp only [up] at *; grind) | (have hh := h.ch; simp only [up, Ld] at *; grind)
  case cO => first | exact h.cO | (have hh := h.cO; grind [up, upI, Ld]) | (have hh := h.cO; simp only [up] at *; grind) | (have hh := h.cO; simp only [up, Ld] at *; grind)
  case cU => first | exact h.cU | (have hh := h.cU; grind [up, upI, Ld]) | (have hh := h.cU; simp only [up] at *; grind) | (have hh := h.cU; simp only [up, Ld] at *; grind)
  case fol => first | exact h.fol | (have hh := h.fol; grind [up, upI, Ld]) | (have hh := h.fol; simp only [up] at *; grind) | (have hh := h.fol; simp only [up, Ld] at *; grind)
  case t0 => first | exact h.t0 | (have hh := h.t0; grind [up, upI, Ld]) | (have hh := h.t0; simp only [up] at *; grind) | (have hh := h.t0; simp only [up, Ld] at *; grind)
  case t1 => first | exact h.t1 | (have hh := h.t1; grind [up, upI, Ld]) | (have hh := h.t1; simp only [up] at *; grind) | (have hh := h.t1; simp only [up, Ld] at *; grind)
  case cc => first | exact h.cc | (have hh := h.cc; grind [up, upI, Ld]) | (have hh := h.cc; simp only [up] at *; grind) | (have hh := h.cc; simp only [up, Ld] at *; grind)
  case ku => first | exact h.ku | (have hh := h.ku; grind [up, upI, Ld]) | (have hh := h.ku; simp only [up] at *; grind) | (have hh := h.ku; simp only [up, Ld] at *; grind)
  case kc => first | exact h.kc | (have hh := h.kc; grind [up, upI, Ld]) | (have hh := h.kc; simp only [up] at *; grind) | (have hh := h.kc; simp only [up, Ld] at *; grind)
  case l4 => first | exact h.l4 | (have hh := h.l4; grind [up, upI, Ld]) | (have hh := h.l4; simp only [up] at *; grind) | (have hh := h.l4; simp only [up, Ld] at *; grind)
  case l5 => first | exact h.l5 | (have hh := h.l5; grind [up, upI, Ld]) | (have hh := h.l5; simp only [up] at *; grind) | (have hh := h.l5; simp only [up, Ld] at *; grind)
  case l6 => first | exact h.l6 | (have hh := h.l6; grind [up, upI, Ld]) | (have hh := h.l6; simp only [up] at *; grind) | (have hh := h.l6; simp only [up, Ld] at *; grind)
  case lj => first | exact h.lj | (have hh := h.lj; grind [up, upI, Ld]) | (have hh := h.lj; simp only [up] at *; grind) | (have hh := h.lj; simp only [up, Ld] at *; grind)
  case m4 => first | exact h.m4 | (have hh := h.m4; grind [up, upI, Ld]) | (have hh := h.m4; simp only [up] at *; grind) | (have hh := h.m4; simp only [up, Ld] at *; grind)

theorem HI.look (h : HI n cl nd ah ls wd sp s lo r F C hu eu T H E fr) (t : Nat) (ht : t < n) (h0 : s t = 1) (hp : sp t = 5) : HI n cl nd ah ls (up wd t (F (ls t))) (up sp t 6) s lo r F C hu eu T H E fr := by
  have k1 := h.s1 t ht h0
  have hlo : lo t = 2 := by have := h.rg t ht; grind
  constructor
  case n8 => first | exact h.n8 | (have hh := h.n8; grind [up, upI, Ld]) | (have hh := h.n8; simp only [up] at *; grind) | (have hh := h.n8; simp only [up, Ld] at *; grind)
  case clr => first | exact h.clr | (have hh := h.clr; grind [up, upI, Ld]) | (have hh := h.clr; simp only [up] at *; grind) | (have hh := h.clr; simp only [up, Ld] at *; grind)
  case ndr => first | exact h.ndr | (have hh := h.ndr; grind [up, upI, Ld]) | (have hh := h.ndr; simp only [up] at *; grind) | (have hh := h.ndr; simp only [up, Ld] at *; grind)
  case frr => first | exact h.frr | (have hh := h.frr; grind [up, upI, Ld]) | (have hh := h.frr; simp only [up] at *; grind) | (have hh := h.frr; simp only [up, Ld] at *; grind)
  case inj => first | exact h.inj | (have hh := h.inj; grind [up, upI, Ld]) | (have hh := h.inj; simp only [up] at *; grind) | (have hh := h.inj; simp only [up, Ld] at *; grind)
  case frn => first | exact h.frn | (have hh := h.frn; grind [up, upI, Ld]) | (have hh := h.frn; simp only [up] at *; grind) | (have hh := h.frn; simp only [up, Ld] at *; grind)
  case rg => first | exact h.rg | (have hh := h.rg; grind [up, upI, Ld]) | (have hh := h.rg; simp only [up] at *; grind) | (have hh := h.rg; simp only [up, Ld] at *; grind)
  case s0 => first | exact h.s0 | (have hh := h.s0; grind [up, upI, Ld]) | (have hh := h.s0; simp only [up] at *; grind) | (have hh := h.s0; simp only [up, Ld] at *; grind)
  case s1 => first | exact h.s1 | (have hh := h.s1; grind [up, upI, Ld]) | (have hh := h.s1; simp only [up] at *; grind) | (have hh := h.s1; simp only [up, Ld] at *; grind)
  case s2 => first | exact h.s2 | (have hh := h.s2; grind [up, upI, Ld]) | (have hh := h.s2; simp only [up] at *; grind) | (have hh := h.s2; simp only [up, Ld] at *; grind)
  case s3 => first | exact h.s3 | (have hh := h.s3; grind [up, upI, Ld]) | (have hh := h.s3; simp only [up] at *; grind) | (have hh := h.s3; simp only [up, Ld] at *; grind)
  case hd => first | exact h.hd | (have hh := h.hd; grind [up, upI, Ld]) | (have hh := h.hd; simp only [up] at *; grind) | (have hh := h.hd; simp only [up, Ld] at *; grind)
  case rO => first | exact h.rO | (have hh := h.rO; grind [up, upI, Ld]) | (have hh := h.rO; simp only [up] at *; grind) | (have hh := h.rO; simp only [up, Ld] at *; grind)
  case rU => first | exact h.rU | (have hh := h.rU; grind [up, upI, Ld]) | (have hh := h.rU; simp only [up] at *; grind) | (have hh := h.rU; simp only [up, Ld] at *; grind)
  case jO => first | exact h.jO | (have hh := h.jO; grind [up, upI, Ld]) | (have hh := h.jO; simp only [up] at *; grind) | (have hh := h.jO; simp only [up, Ld] at *; grind)
  case jU => first | exact h.jU | (have hh := h.jU; grind [up, upI, Ld]) | (have hh := h.jU; simp only [up] at *; grind) | (have hh := h.jU; simp only [up, Ld] at *; grind)
  case oO => first | exact h.oO | (have hh := h.oO; grind [up, upI, Ld]) | (have hh := h.oO; simp only [up] at *; grind) | (have hh := h.oO; simp only [up, Ld] at *; grind)
  case oU => first | exact h.oU | (have hh := h.oU; grind [up, upI, Ld]) | (have hh := h.oU; simp only [up] at *; grind) | (have hh := h.oU; simp only [up, Ld] at *; grind)
  case hE => first | exact h.hE | (have hh := h.hE; grind [up, upI, Ld]) | (have hh := h.hE; simp only [up] at *; grind) | (have hh := h.hE; simp only [up, Ld] at *; grind)
  case hue => first | exact h.hue | (have hh := h.hue; grind [up, upI, Ld]) | (have hh := h.hue; simp only [up] at *; grind) | (have hh := h.hue; simp only [up, Ld] at *; grind)
  case fq => first | exact h.fq | (have hh := h.fq; grind [up, upI, Ld]) | (have hh := h.fq; simp only [up] at *; grind) | (have hh := h.fq; simp only [up, Ld] at *; grind)
  case fu => first | exact h.fu | (have hh := h.fu; grind [up, upI, Ld]) | (have hh := h.fu; simp only [up] at *; grind) | (have hh := h.fu; simp only [up, Ld] at *; grind)
  case fp => first | exact h.fp | (have hh := h.fp; grind [up, upI, Ld]) | (have hh := h.fp; simp only [up] at *; grind) | (have hh := h.fp; simp only [up, Ld] at *; grind)
  case ff => first | exact h.ff | (have hh := h.ff; grind [up, upI, Ld]) | (have hh := h.ff; simp only [up] at *; grind) | (have hh := h.ff; simp only [up, Ld] at *; grind)
  case ch => first | exact h.ch | (have hh := h.ch; grind [up, upI, Ld]) | (have hh := h.ch; simp only [up] at *; grind) | (have hh := h.ch; simp only [up, Ld] at *; grind)
  case cO => first | exact h.cO | (have hh := h.cO; grind [up, upI, Ld]) | (have hh := h.cO; simp only [up] at *; grind) | (have hh := h.cO; simp only [up, Ld] at *; grind)
  case cU => first | exact h.cU | (have hh := h.cU; grind [up, upI, Ld]) | (have hh := h.cU; simp only [up] at *; grind) | (have hh := h.cU; simp only [up, Ld] at *; grind)
  case fol => first | exact h.fol | (have hh := h.fol; grind [up, upI, Ld]) | (have hh := h.fol; simp only [up] at *; grind) | (have hh := h.fol; simp only [up, Ld] at *; grind)
  case t0 => first | exact h.t0 | (have hh := h.t0; grind [up, upI, Ld]) | (have hh := h.t0; simp only [up] at *; grind) | (have hh := h.t0; simp only [up, Ld] at *; grind)
  case t1 => first | exact h.t1 | (have hh := h.t1; grind [up, upI, Ld]) | (have hh := h.t1; simp only [up] at *; grind) | (have hh := h.t1; simp only [up, Ld] at *; grind)
  case cc => first | exact h.cc | (have hh := h.cc; grind [up, upI, Ld]) | (have hh := h.cc; simp only [up] at *; grind) | (have hh := h.cc; simp only [up, Ld] at *; grind)
  case ku => first | exact h.ku | (have hh := h.ku; grind [up, upI, Ld]) | (have hh := h.ku; simp only [up] at *; grind) | (have hh := h.ku; simp only [up, Ld] at *; grind)
  case kc => first | exact h.kc | (have hh := h.kc; grind [up, upI, Ld]) | (have hh := h.kc; simp only [up] at *; grind) | (have hh := h.kc; simp only [up, Ld] at *; grind)
  case l4 => first | exact h.l4 | (have hh := h.l4; grind [up, upI, Ld]) | (have hh := h.l4; simp only [up] at *; grind) | (have hh := h.l4; simp only [up, Ld] at *; grind)
  case l5 => first | exact h.l5 | (have hh := h.l5; grind [up, upI, Ld]) | (have hh := h.l5; simp only [up] at *; grind) | (have hh := h.l5; simp only [up, Ld] at *; grind)
  case l6 => first | exact h.l6 | (have hh := h.l6; grind [up, upI, Ld]) | (have hh := h.l6; simp only [up] at *; grind) | (have hh := h.l6; simp only [up, Ld] at *; grind)
  case lj => first | exact h.lj | (have hh := h.lj; grind [up, upI, Ld]) | (have hh := h.lj; simp only [up] at *; grind) | (have hh := h.lj; simp only [up, Ld] at *; grind)
  case m4 => first | exact h.m4 | (have hh := h.m4; grind [up, upI, Ld]) | (have hh := h.m4; simp only [up] at *; grind) | (have hh := h.m4; simp only [up, Ld] at *; grind)

theorem HI.mark (h : HI n cl nd ah ls wd sp s lo r F C hu eu T H E fr) (t : Nat) (ht : t < n) (h0 : s t = 1) (hp : sp t = 6) : HI n cl nd ah ls wd (up sp t 7) s lo r (upI F (ls t) (wd t + 1 - wd t % 2)) C hu eu T H E fr := by
  have k1 := h.s1 t ht h0
  have hld : Ld s sp t := ⟨h0, .inr hp⟩
  have hlo := h.ld2 t ht hld
  obtain ⟨m, m1, m2, m3, m4, m5, m6, m7⟩ := h.l5 t ht hld
  have hw : wd t + 1 - wd t % 2 = cl m * 4 + 3 := by rw [h.l6 t ht h0 hp, m5, m6]; omega
  rw [hw, m5]
  have hj := fun u hu' => h.lj u t hu' ht
  have hnm : ∀ u, u < n → nd u = nd m → u = m := fun u hu' e => h.inj u m hu' m1 e
  constructor
  case n8 => first | exact h.n8 | (have hh := h.n8; grind [up, upI, Ld]) | (have hh := h.n8; simp only [up] at *; grind) | (have hh := h.n8; simp only [up, Ld] at *; grind)
  case clr => first | exact h.clr | (have hh := h.clr; grind [up, upI, Ld]) | (have hh := h.clr; simp only [up] at *; grind) | (have hh := h.clr; simp only [up, Ld] at *; grind)
  case ndr => first | exact h.ndr | (have hh := h.ndr; grind [up, upI, Ld]) | (have hh := h.ndr; simp only [up] at *; grind) | (have hh := h.ndr; simp only [up, Ld] at *; grind)
  case frr => first | exact h.frr | (have hh := h.frr; grind [up, upI, Ld]) | (have hh := h.frr; simp only [up] at *; grind) | (have hh := h.frr; simp only [up, Ld] at *; grind)
  case inj => first | exact h.inj | (have hh := h.inj; grind [up, upI, Ld]) | (have hh := h.inj; simp only [up] at *; grind) | (have hh := h.inj; simp only [up, Ld] at *; grind)
  case frn => first | exact h.frn | (have hh := h.frn; grind [up, upI, Ld]) | (have hh := h.frn; simp only [up] at *; grind) | (have hh := h.frn; simp only [up, Ld] at *; grind)
  case rg => first | exact h.rg | (have hh := h.rg; grind [up, upI, Ld]) | (have hh := h.rg; simp only [up] at *; grind) | (have hh := h.rg; simp only [up, Ld] at *; grind)
  case s0 => first | exact h.s0 | (have hh := h.s0; grind [up, upI, Ld]) | (have hh := h.s0; simp only [up] at *; grind) | (have hh := h.s0; simp only [up, Ld] at *; grind)
  case s1 => first | exact h.s1 | (have hh := h.s1; grind [up, upI, Ld]) | (have hh := h.s1; simp only [up] at *; grind) | (have hh := h.s1; simp only [up, Ld] at *; grind)
  case s2 => first | exact h.s2 | (have hh := h.s2; grind [up, upI, Ld]) | (have hh := h.s2; simp only [up] at *; grind) | (have hh := h.s2; simp only [up, Ld] at *; grind)
  case s3 => intro u hu' e; have hh := h.s3 u hu' e; have a1 := h.rO t ht hlo; have a2 := h.jO t u ht hu' hlo hh.1; have a3 := hnm u hu'; have a4 : u ≠ t := (fun e2 => by subst e2; omega); have a5 : m ≠ u := (fun e2 => by subst e2; have := a2 (by omega); omega); grind [up, upI, Ld]
  case hd => first | exact h.hd | (have hh := h.hd; grind [up, upI, Ld]) | (have hh := h.hd; simp only [up] at *; grind) | (have hh := h.hd; simp only [up, Ld] at *; grind)
  case rO => first | exact h.rO | (have hh := h.rO; grind [up, upI, Ld]) | (have hh := h.rO; simp only [up] at *; grind) | (have hh := h.rO; simp only [up, Ld] at *; grind)
  case rU => first | exact h.rU | (have hh := h.rU; grind [up, upI, Ld]) | (have hh := h.rU; simp only [up] at *; grind) | (have hh := h.rU; simp only [up, Ld] at *; grind)
  case jO => first | exact h.jO | (have hh := h.jO; grind [up, upI, Ld]) | (have hh := h.jO; simp only [up] at *; grind) | (have hh := h.jO; simp only [up, Ld] at *; grind)
  case jU => first | exact h.jU | (have hh := h.jU; grind [up, upI, Ld]) | (have hh := h.jU; simp only [up] at *; grind) | (have hh := h.jU; simp only [up, Ld] at *; grind)
  case oO => first | exact h.oO | (have hh := h.oO; grind [up, upI, Ld]) | (have hh := h.oO; simp only [up] at *; grind) | (have hh := h.oO; simp only [up, Ld] at *; grind)
  case oU => first | exact h.oU | (have hh := h.oU; grind [up, upI, Ld]) | (have hh := h.oU; simp only [up] at *; grind) | (have hh := h.oU; simp only [up, Ld] at *; grind)
  case hE => first | exact h.hE | (have hh := h.hE; grind [up, upI, Ld]) | (have hh := h.hE; simp only [up] at *; grind) | (have hh := h.hE; simp only [up, Ld] at *; grind)
  case hue => first | exact h.hue | (have hh := h.hue; grind [up, upI, Ld]) | (have hh := h.hue; simp only [up] at *; grind) | (have hh := h.hue; simp only [up, Ld] at *; grind)
  case fq => first | exact h.fq | (have hh := h.fq; grind [up, upI, Ld]) | (have hh := h.fq; simp only [up] at *; grind) | (have hh := h.fq; simp only [up, Ld] at *; grind)
  case fu => first | exact h.fu | (have hh := h.fu; grind [up, upI, Ld]) | (have hh := h.fu; simp only [up] at *; grind) | (have hh := h.fu; simp only [up, Ld] at *; grind)
  case fp => intro u hu' hs hp'; have hh := h.fp u hu'; have a1 := h.s1 u hu'; grind [up, upI, Ld]
  case ff => have a := h.frn m m1; have b := h.ff; simp only [upI]; rw [if_neg (by omega)]; exact b
  case ch => first | exact h.ch | (have hh := h.ch; grind [up, upI, Ld]) | (have hh := h.ch; simp only [up] at *; grind) | (have hh := h.ch; simp only [up, Ld] at *; grind)
  case cO => first | exact h.cO | (have hh := h.cO; grind [up, upI, Ld]) | (have hh := h.cO; simp only [up] at *; grind) | (have hh := h.cO; simp only [up, Ld] at *; grind)
  case cU => first | exact h.cU | (have hh := h.cU; grind [up, upI, Ld]) | (have hh := h.cU; simp only [up] at *; grind) | (have hh := h.cU; simp only [up, Ld] at *; grind)
  case fol => intro u hu' hl hs hp'; have hh := h.fol u hu' hl; have a1 := m7 u hu' hl; grind [up, upI, Ld]
  case t0 => first | exact h.t0 | (have hh := h.t0; grind [up, upI, Ld]) | (have hh := h.t0; simp only [up] at *; grind) | (have hh := h.t0; simp only [up, Ld] at *; grind)
  case t1 => first | exact h.t1 | (have hh := h.t1; grind [up, upI, Ld]) | (have hh := h.t1; simp only [up] at *; grind) | (have hh := h.t1; simp only [up, Ld] at *; grind)
  case cc => first | exact h.cc | (have hh := h.cc; grind [up, upI, Ld]) | (have hh := h.cc; simp only [up] at *; grind) | (have hh := h.cc; simp only [up, Ld] at *; grind)
  case ku => intro u hu' hl hs hr; have hut : u ≠ t := (by grind); rw [up_ne _ _ hut] at hs; exact (h.ku u hu' hl hs hr).word (fun hk e => .inr (by omega))
  case kc => intro c h0' h1' he; rcases h.kc c h0' h1' he with e | e; exact .inl e; exact .inr (e.word (fun hk e => .inr (by omega)))
  case l4 => first | exact h.l4 | (have hh := h.l4; grind [up, upI, Ld]) | (have hh := h.l4; simp only [up] at *; grind) | (have hh := h.l4; simp only [up, Ld] at *; grind)
  case l5 => 
    intro u hu' hlu
    have hut : u ≠ t := fun e => by subst e; have := hlu.2; rw [up_eq] at this; omega
    have hlu' : Ld s sp u := ⟨hlu.1, by have := hlu.2; rw [up_ne _ _ hut] at this; exact this⟩
    obtain ⟨m', b1, b2, b3, b4, b5, b6, b7⟩ := h.l5 u hu' hlu'
    refine ⟨m', b1, b2, b3, b4, b5, ?_, fun q hq hl hs hp' => ?_⟩
    · have : nd m' ≠ nd m := fun e => hut (hj u hu' hlu' hld (by omega))
      simp only [upI]; rw [if_neg this]; exact b6
    · have hqt : q ≠ t := fun e => by subst e; rw [up_eq] at hp'; omega
      rw [up_ne _ _ hqt] at hp'
      exact b7 q hq hl hs hp'
  case l6 => intro u hu' hs hp'; have h6 := h.l6 u hu'; have h1 := hj u hu'; grind [up, upI, Ld]
  case lj => first | exact h.lj | (have hh := h.lj; grind [up, upI, Ld]) | (have hh := h.lj; simp only [up] at *; grind) | (have hh := h.lj; simp only [up, Ld] at *; grind)
  case m4 => 
    intro u hu' hl hq
    rcases h.m4 u hu' hl (fun q hq' hl' hr' hs' => hq q hq' hl' hr' ⟨hs'.1, by rw [up_ne _ _ (fun e => by subst e; omega)]; exact hs'.2⟩) with e | ⟨l, a1, a2, a3, a4, a5⟩
    · left; simp only [upI]; split <;> omega
    · by_cases e : l = t
      · subst e; left; simp only [upI]; rw [if_pos (by omega)]; omega
      · exact .inr ⟨l, a1, ⟨a2.1, by rw [up_ne _ _ e]; exact a2.2⟩, a3, a4, a5⟩

theorem HI.grantL (h : HI n cl nd ah ls wd sp s lo r F C hu eu T H E fr) (t : Nat) (ht : t < n) (h0 : s t = 1) (hp : sp t = 7) (hW : F (ah t) / 2 % 2 = 0) : HI n cl nd ah ls wd (up sp t 0) (up s t 2) lo r F C hu eu T H E fr := by
  have k1 := h.s1 t ht h0
  obtain ⟨hlo, hr⟩ := h.grantL_at t ht h0 hp hW
  constructor
  case n8 => first | exact h.n8 | (have hh := h.n8; grind [up, upI, Ld]) | (have hh := h.n8; simp only [up] at *; grind) | (have hh := h.n8; simp only [up, Ld] at *; grind)
  case clr => first | exact h.clr | (have hh := h.clr; grind [up, upI, Ld]) | (have hh := h.clr; simp only [up] at *; grind) | (have hh := h.clr; simp only [up, Ld] at *; grind)
  case ndr => first | exact h.ndr | (have hh := h.ndr; grind [up, upI, Ld]) | (have hh := h.ndr; simp only [up] at *; grind) | (have hh := h.ndr; simp only [up, Ld] at *; grind)
  case frr => first | exact h.frr | (have hh := h.frr; grind [up, upI, Ld]) | (have hh := h.frr; simp only [up] at *; grind) | (have hh := h.frr; simp only [up, Ld] at *; grind)
  case inj => first | exact h.inj | (have hh := h.inj; grind [up, upI, Ld]) | (have hh := h.inj; simp only [up] at *; grind) | (have hh := h.inj; simp only [up, Ld] at *; grind)
  case frn => first | exact h.frn | (have hh := h.frn; grind [up, upI, Ld]) | (have hh := h.frn; simp only [up] at *; grind) | (have hh := h.frn; simp only [up, Ld] at *; grind)
  case rg => first | exact h.rg | (have hh := h.rg; grind [up, upI, Ld]) | (have hh := h.rg; simp only [up] at *; grind) | (have hh := h.rg; simp only [up, Ld] at *; grind)
  case s0 => first | exact h.s0 | (have hh := h.s0; grind [up, upI, Ld]) | (have hh := h.s0; simp only [up] at *; grind) | (have hh := h.s0; simp only [up, Ld] at *; grind)
  case s1 => first | exact h.s1 | (have hh := h.s1; grind [up, upI, Ld]) | (have hh := h.s1; simp only [up] at *; grind) | (have hh := h.s1; simp only [up, Ld] at *; grind)
  case s2 => first | exact h.s2 | (have hh := h.s2; grind [up, upI, Ld]) | (have hh := h.s2; simp only [up] at *; grind) | (have hh := h.s2; simp only [up, Ld] at *; grind)
  case s3 => first | exact h.s3 | (have hh := h.s3; grind [up, upI, Ld]) | (have hh := h.s3; simp only [up] at *; grind) | (have hh := h.s3; simp only [up, Ld] at *; grind)
  case hd => first | exact h.hd | (have hh := h.hd; grind [up, upI, Ld]) | (have hh := h.hd; simp only [up] at *; grind) | (have hh := h.hd; simp only [up, Ld] at *; grind)
  case rO => first | exact h.rO | (have hh := h.rO; grind [up, upI, Ld]) | (have hh := h.rO; simp only [up] at *; grind) | (have hh := h.rO; simp only [up, Ld] at *; grind)
  case rU => first | exact h.rU | (have hh := h.rU; grind [up, upI, Ld]) | (have hh := h.rU; simp only [up] at *; grind) | (have hh := h.rU; simp only [up, Ld] at *; grind)
  case jO => first | exact h.jO | (have hh := h.jO; grind [up, upI, Ld]) | (have hh := h.jO; simp only [up] at *; grind) | (have hh := h.jO; simp only [up, Ld] at *; grind)
  case jU => first | exact h.jU | (have hh := h.jU; grind [up, upI, Ld]) | (have hh := h.jU; simp only [up] at *; grind) | (have hh := h.jU; simp only [up, Ld] at *; grind)
  case oO => first | exact h.oO | (have hh := h.oO; grind [up, upI, Ld]) | (have hh := h.oO; simp only [up] at *; grind) | (have hh := h.oO; simp only [up, Ld] at *; grind)
  case oU => first | exact h.oU | (have hh := h.oU; grind [up, upI, Ld]) | (have hh := h.oU; simp only [up] at *; grind) | (have hh := h.oU; simp only [up, Ld] at *; grind)
  case hE => first | exact h.hE | (have hh := h.hE; grind [up, upI, Ld]) | (have hh := h.hE; simp only [up] at *; grind) | (have hh := h.hE; simp only [up, Ld] at *; grind)
  case hue => first | exact h.hue | (have hh := h.hue; grind [up, upI, Ld]) | (have hh := h.hue; simp only [up] at *; grind) | (have hh := h.hue; simp only [up, Ld] at *; grind)
  case fq => first | exact h.fq | (have hh := h.fq; grind [up, upI, Ld]) | (have hh := h.fq; simp only [up] at *; grind) | (have hh := h.fq; simp only [up, Ld] at *; grind)
  case fu => first | exact h.fu | (have hh := h.fu; grind [up, upI, Ld]) | (have hh := h.fu; simp only [up] at *; grind) | (have hh := h.fu; simp only [up, Ld] at *; grind)
  case fp => first | exact h.fp | (have hh := h.fp; grind [up, upI, Ld]) | (have hh := h.fp; simp only [up] at *; grind) | (have hh := h.fp; simp only [up, Ld] at *; grind)
  case ff => first | exact h.ff | (have hh := h.ff; grind [up, upI, Ld]) | (have hh := h.ff; simp only [up] at *; grind) | (have hh := h.ff; simp only [up, Ld] at *; grind)
  case ch => first | exact h.ch | (have hh := h.ch; grind [up, upI, Ld]) | (have hh := h.ch; simp only [up] at *; grind) | (have hh := h.ch; simp only [up, Ld] at *; grind)
  case cO => first | exact h.cO | (have hh := h.cO; grind [up, upI, Ld]) | (have hh := h.cO; simp only [up] at *; grind) | (have hh := h.cO; simp only [up, Ld] at *; grind)
  case cU => first | exact h.cU | (have hh := h.cU; grind [up, upI, Ld]) | (have hh := h.cU; simp only [up] at *; grind) | (have hh := h.cU; simp only [up, Ld] at *; grind)
  case fol => first | exact h.fol | (have hh := h.fol; grind [up, upI, Ld]) | (have hh := h.fol; simp only [up] at *; grind) | (have hh := h.fol; simp only [up, Ld] at *; grind)
  case t0 => first | exact h.t0 | (have hh := h.t0; grind [up, upI, Ld]) | (have hh := h.t0; simp only [up] at *; grind) | (have hh := h.t0; simp only [up, Ld] at *; grind)
  case t1 => first | exact h.t1 | (have hh := h.t1; grind [up, upI, Ld]) | (have hh := h.t1; simp only [up] at *; grind) | (have hh := h.t1; simp only [up, Ld] at *; grind)
  case cc => first | exact h.cc | (have hh := h.cc; grind [up, upI, Ld]) | (have hh := h.cc; simp only [up] at *; grind) | (have hh := h.cc; simp only [up, Ld] at *; grind)
  case ku => first | exact h.ku | (have hh := h.ku; grind [up, upI, Ld]) | (have hh := h.ku; simp only [up] at *; grind) | (have hh := h.ku; simp only [up, Ld] at *; grind)
  case kc => first | exact h.kc | (have hh := h.kc; grind [up, upI, Ld]) | (have hh := h.kc; simp only [up] at *; grind) | (have hh := h.kc; simp only [up, Ld] at *; grind)
  case l4 => first | exact h.l4 | (have hh := h.l4; grind [up, upI, Ld]) | (have hh := h.l4; simp only [up] at *; grind) | (have hh := h.l4; simp only [up, Ld] at *; grind)
  case l5 => first | exact h.l5 | (have hh := h.l5; grind [up, upI, Ld]) | (have hh := h.l5; simp only [up] at *; grind) | (have hh := h.l5; simp only [up, Ld] at *; grind)
  case l6 => first | exact h.l6 | (have hh := h.l6; grind [up, upI, Ld]) | (have hh := h.l6; simp only [up] at *; grind) | (have hh := h.l6; simp only [up, Ld] at *; grind)
  case lj => first | exact h.lj | (have hh := h.lj; grind [up, upI, Ld]) | (have hh := h.lj; simp only [up] at *; grind) | (have hh := h.lj; simp only [up, Ld] at *; grind)
  case m4 => intro u hu' hl hq; have hm := h.m4 u hu' hl; have a1 := h.rO u hu' hl; grind [up, upI, Ld]

theorem HI.un0 (h : HI n cl nd ah ls wd sp s lo r F C hu eu T H E fr) (t : Nat) (ht : t < n) (h0 : s t = 3) : HI n cl nd ah ls (up wd t (F (nd t))) (up sp t 1) s lo r F C hu eu T H E fr := by
  obtain ⟨k1, k2, k3⟩ := h.s3 t ht h0
  constructor
  case n8 => first | exact h.n8 | (have hh := h.n8; grind [up, upI, Ld]) | (have hh := h.n8; simp only [up] at *; grind) | (have hh := h.n8; simp only [up, Ld] at *; grind)
  case clr => first | exact h.clr | (have hh := h.clr; grind [up, upI, Ld]) | (have hh := h.clr; simp only [up] at *; grind) | (have hh := h.clr; simp only [up, Ld] at *; grind)
  case ndr => first | exact h.ndr | (have hh := h.ndr; grind [up, upI, Ld]) | (have hh := h.ndr; simp only [up] at *; grind) | (have hh := h.ndr; simp only [up, Ld] at *; grind)
  case frr => first | exact h.frr | (have hh := h.frr; grind [up, upI, Ld]) | (have hh := h.frr; simp only [up] at *; grind) | (have hh := h.frr; simp only [up, Ld] at *; grind)
  case inj => first | exact h.inj | (have hh := h.inj; grind [up, upI, Ld]) | (have hh := h.inj; simp only [up] at *; grind) | (have hh := h.inj; simp only [up, Ld] at *; grind)
  case frn => first | exact h.frn | (have hh := h.frn; grind [up, upI, Ld]) | (have hh := h.frn; simp only [up] at *; grind) | (have hh := h.frn; simp only [up, Ld] at *; grind)
  case rg => first | exact h.rg | (have hh := h.rg; grind [up, upI, Ld]) | (have hh := h.rg; simp only [up] at *; grind) | (have hh := h.rg; simp only [up, Ld] at *; grind)
  case s0 => first | exact h.s0 | (have hh := h.s0; grind [up, upI, Ld]) | (have hh := h.s0; simp only [up] at *; grind) | (have hh := h.s0; simp only [up, Ld] at *; grind)
  case s1 => first | exact h.s1 | (have hh := h.s1; grind [up, upI, Ld]) | (have hh := h.s1; simp only [up] at *; grind) | (have hh := h.s1; simp only [up, Ld] at *; grind)
  case s2 => first | exact h.s2 | (have hh := h.s2; grind [up, upI, Ld]) | (have hh := h.s2; simp only [up] at *; grind) | (have hh := h.s2; simp only [up, Ld] at *; grind)
  case s3 => first | exact h.s3 | (have hh := h.s3; grind [up, upI, Ld]) | (have hh := h.s3; simp only [up] at *; grind) | (have hh := h.s3; simp only [up, Ld] at *; grind)
  case hd => first | exact h.hd | (have hh := h.hd; grind [up, upI, Ld]) | (have hh := h.hd; simp only [up] at *; grind) | (have hh := h.hd; simp only [up, Ld] at *; grind)
  case rO => first | exact h.rO | (have hh := h.rO; grind [up, upI, Ld]) | (have hh := h.rO; simp only [up] at *; grind) | (have hh := h.rO; simp only [up, Ld] at *; grind)
  case rU => first | exact h.rU | (have hh := h.rU; grind [up, upI, Ld]) | (have hh := h.rU; simp only [up] at *; grind) | (have hh := h.rU; simp only [up, Ld] at *; grind)
  case jO => first | exact h.jO | (have hh := h.jO; grind [up, upI, Ld]) | (have hh := h.jO; simp only [up] at *; grind) | (have hh := h.jO; simp only [up, Ld] at *; grind)
  case jU => first | exact h.jU | (have hh := h.jU; grind [up, upI, Ld]) | (have hh := h.jU; simp only [up] at *; grind) | (have hh := h.jU; simp only [up, Ld] at *; grind)
  case oO => first | exact h.oO | (have hh := h.oO; grind [up, upI, Ld]) | (have hh := h.oO; simp only [up] at *; grind) | (have hh := h.oO; simp only [up, Ld] at *; grind)
  case oU => first | exact h.oU | (have hh := h.oU; grind [up, upI, Ld]) | (have hh := h.oU; simp only [up] at *; grind) | (have hh := h.oU; simp only [up, Ld] at *; grind)
  case hE => first | exact h.hE | (have hh := h.hE; grind [up, upI, Ld]) | (have hh := h.hE; simp only [up] at *; grind) | (have hh := h.hE; simp only [up, Ld] at *; grind)
  case hue => first | exact h.hue | (have hh := h.hue; grind [up, upI, Ld]) | (have hh := h.hue; simp only [up] at *; grind) | (have hh := h.hue; simp only [up, Ld] at *; grind)
  case fq => first | exact h.fq | (have hh := h.fq; grind [up, upI, Ld]) | (have hh := h.fq; simp only [up] at *; grind) | (have hh := h.fq; simp only [up, Ld] at *; grind)
  case fu => first | exact h.fu | (have hh := h.fu; grind [up, upI, Ld]) | (have hh := h.fu; simp only [up] at *; grind) | (have hh := h.fu; simp only [up, Ld] at *; grind)
  case fp => first | exact h.fp | (have hh := h.fp; grind [up, upI, Ld]) | (have hh := h.fp; simp only [up] at *; grind) | (have hh := h.fp; simp only [up, Ld] at *; grind)
  case ff => first | exact h.ff | (have hh := h.ff; grind [up, upI, Ld]) | (have hh := h.ff; simp only [up] at *; grind) | (have hh := h.ff; simp only [up, Ld] at *; grind)
  case ch => first | exact h.ch | (have hh := h.ch; grind [up, upI, Ld]) | (have hh := h.ch; simp only [up] at *; grind) | (have hh := h.ch; simp only [up, Ld] at *; grind)
  case cO => first | exact h.cO | (have hh := h.cO; grind [up, upI, Ld]) | (have hh := h.cO; simp only [up] at *; grind) | (have hh := h.cO; simp only [up, Ld] at *; grind)
  case cU => first | exact h.cU | (have hh := h.cU; grind [up, upI, Ld]) | (have hh := h.cU; simp only [up] at *; grind) | (have hh := h.cU; simp only [up, Ld] at *; grind)
  case fol => first | exact h.fol | (have hh := h.fol; grind [up, upI, Ld]) | (have hh := h.fol; simp only [up] at *; grind) | (have hh := h.fol; simp only [up, Ld] at *; grind)
  case t0 => first | exact h.t0 | (have hh := h.t0; grind [up, upI, Ld]) | (have hh := h.t0; simp only [up] at *; grind) | (have hh := h.t0; simp only [up, Ld] at *; grind)
  case t1 => first | exact h.t1 | (have hh := h.t1; grind [up, upI, Ld]) | (have hh := h.t1; simp only [up] at *; grind) | (have hh := h.t1; simp only [up, Ld] at *; grind)
  case cc => first | exact h.cc | (have hh := h.cc; grind [up, upI, Ld]) | (have hh := h.cc; simp only [up] at *; grind) | (have hh := h.cc; simp only [up, Ld] at *; grind)
  case ku => first | exact h.ku | (have hh := h.ku; grind [up, upI, Ld]) | (have hh := h.ku; simp only [up] at *; grind) | (have hh := h.ku; simp only [up, Ld] at *; grind)
  case kc => first | exact h.kc | (have hh := h.kc; grind [up, upI, Ld]) | (have hh := h.kc; simp only [up] at *; grind) | (have hh := h.kc; simp only [up, Ld] at *; grind)
  case l4 => first | exact h.l4 | (have hh := h.l4; grind [up, upI, Ld]) | (have hh := h.l4; simp only [up] at *; grind) | (have hh := h.l4; simp only [up, Ld] at *; grind)
  case l5 => first | exact h.l5 | (have hh := h.l5; grind [up, upI, Ld]) | (have hh := h.l5; simp only [up] at *; grind) | (have hh := h.l5; simp only [up, Ld] at *; grind)
  case l6 => first | exact h.l6 | (have hh := h.l6; grind [up, upI, Ld]) | (have hh := h.l6; simp only [up] at *; grind) | (have hh := h.l6; simp only [up, Ld] at *; grind)
  case lj => first | exact h.lj | (have hh := h.lj; grind [up, upI, Ld]) | (have hh := h.lj; simp only [up] at *; grind) | (have hh := h.lj; simp only [up, Ld] at *; grind)
  case m4 => first | exact h.m4 | (have hh := h.m4; grind [up, upI, Ld]) | (have hh := h.m4; simp only [up] at *; grind) | (have hh := h.m4; simp only [up, Ld] at *; grind)

theorem HI.release (h : HI n cl nd ah ls wd sp s lo r F C hu eu T H E fr) (t : Nat) (ht : t < n) (h0 : s t = 3) (hp : sp t = 1) : HI n cl (up nd t (ah t)) ah ls wd (up sp t 0) (up s t 0) (up lo t 0) r (upI F (nd t) (wd t - 2 * (wd t / 2 % 2))) C hu eu T (H + 1) E (nd t) := by
  obtain ⟨k1, k2, k3⟩ := h.s3 t ht h0
  have hw : wd t = F (nd t) := by grind
  have hah := h.ch t ht k1 k2
  have hq := h.fq t ht (by omega)
  obtain ⟨v, hv⟩ : ∃ v, wd t - 2 * (wd t / 2 % 2) = v := ⟨_, rfl⟩
  have hv4 : v / 4 = F (nd t) / 4 ∧ v % 2 = F (nd t) % 2 ∧ v / 2 % 2 = 0 := by rw [← hv, hw]; omega
  rw [hv, hah]
  have hnt : ∀ u, u < n → u ≠ t → nd u ≠ nd t := fun u hu' e e2 => e (h.inj u t hu' ht e2)
  have hft := h.frn t ht
  have hkr : ∀ {c a : Int}, K n cl nd lo r F c a → K n cl (up nd t fr) (up lo t 0) r (upI F (nd t) v) c a := fun hk => h.K_release t ht h0 v ⟨hv4.1, hv4.2.1⟩ hk
  have hjt : ∀ u, u < n → lo u = 2 → u ≠ t → H + 1 ≤ r u := fun u hu' hl e => by
    have := h.rO u hu' hl
    by_cases e3 : r u = H
    · exact absurd (h.jO u t hu' ht hl k1 (by omega)) e
    · omega
  have hrt := h.rO t ht k1
  constructor
  case n8 => first | exact h.n8 | (have hh := h.n8; grind [up, upI, Ld]) | (have hh := h.n8; simp only [up] at *; grind) | (have hh := h.n8; simp only [up, Ld] at *; grind)
  case clr => first | exact h.clr | (have hh := h.clr; grind [up, upI, Ld]) | (have hh := h.clr; simp only [up] at *; grind) | (have hh := h.clr; simp only [up, Ld] at *; grind)
  case ndr => intro u hu'; have a := h.ndr u hu'; have b := h.frr; simp only [up]; split <;> omega
  case frr => exact h.ndr t ht
  case inj => intro u v' hu' hv' e; have a := h.inj u v' hu' hv'; have b := h.frn u hu'; have c := h.frn v' hv'; grind [up]
  case frn => intro u hu'; have a := hnt u hu'; simp only [up]; split; exact fun e => hft e.symm; exact a (by assumption)
  case rg => first | exact h.rg | (have hh := h.rg; grind [up, upI, Ld]) | (have hh := h.rg; simp only [up] at *; grind) | (have hh := h.rg; simp only [up, Ld] at *; grind)
  case s0 => first | exact h.s0 | (have hh := h.s0; grind [up, upI, Ld]) | (have hh := h.s0; simp only [up] at *; grind) | (have hh := h.s0; simp only [up, Ld] at *; grind)
  case s1 => intro u hu' e; have a := h.s1 u hu'; simp only [up] at *; grind
  case s2 => intro u hu' e; have a := h.s2 u hu'; have b := hjt u hu'; grind [up]
  case s3 => intro u hu' e; have a := h.s3 u hu'; have b := hjt u hu'; grind [up]
  case hd => first | exact h.hd | (have hh := h.hd; grind [up, upI, Ld]) | (have hh := h.hd; simp only [up] at *; grind) | (have hh := h.hd; simp only [up, Ld] at *; grind)
  case rO => intro u hu' e; have a := h.rO u hu'; have b := hjt u hu'; grind [up]
  case rU => first | exact h.rU | (have hh := h.rU; grind [up, upI, Ld]) | (have hh := h.rU; simp only [up] at *; grind) | (have hh := h.rU; simp only [up, Ld] at *; grind)
  case jO => first | exact h.jO | (have hh := h.jO; grind [up, upI, Ld]) | (have hh := h.jO; simp only [up] at *; grind) | (have hh := h.jO; simp only [up, Ld] at *; grind)
  case jU => first | exact h.jU | (have hh := h.jU; grind [up, upI, Ld]) | (have hh := h.jU; simp only [up] at *; grind) | (have hh := h.jU; simp only [up, Ld] at *; grind)
  case oO => 
    intro x hx0 hx1
    obtain ⟨u, a1, a2, a3⟩ := h.oO x (by omega) hx1
    exact ⟨u, a1, by rw [up_ne _ _ (fun e => by subst e; omega)]; exact a2, a3⟩
  case oU => first | exact h.oU | (have hh := h.oU; grind [up, upI, Ld]) | (have hh := h.oU; simp only [up] at *; grind) | (have hh := h.oU; simp only [up, Ld] at *; grind)
  case hE => omega
  case hue => first | exact h.hue | (have hh := h.hue; grind [up, upI, Ld]) | (have hh := h.hue; simp only [up] at *; grind) | (have hh := h.hue; simp only [up, Ld] at *; grind)
  case fq => intro u hu' e; have a := h.fq u hu'; have b := hnt u hu'; grind [up, upI]
  case fu => intro u hu' e; have a := h.fu u hu'; have b := hnt u hu'; grind [up, upI]
  case fp => intro u hu' e e2; have a := h.fp u hu'; have b := hnt u hu'; grind [up, upI]
  case ff => simp only [upI, if_true]; exact hv4.2.2
  case ch => intro u hu' e e2; have a := h.cO u t hu' ht; grind [up]
  case cO => intro u p hu' hp' e e2 e3; have a := h.cO u p hu' hp'; grind [up]
  case cU => intro u p hu' hp' e e2 e3 e4; have a := h.cU u p hu' hp'; grind [up]
  case fol => intro u hu' e e2 e3; have a := h.fol u hu'; grind [up, upI]
  case t0 => intro e; exact h.t1 t ht k1 (by omega)
  case t1 => intro u hu' e e2; have a := h.t1 u hu'; grind [up]
  case cc => intro u hu' e e2; have a := h.cc u hu'; grind [up]
  case ku => 
    intro u hu' hl hs hr
    have hut : u ≠ t := fun e => by subst e; rw [up_eq] at hl; omega
    rw [up_ne _ _ hut] at hl hs
    exact hkr (h.ku u hu' hl hs hr)
  case kc => intro c h0' h1' he; rcases h.kc c h0' h1' he with e | e; exact .inl e; exact .inr (hkr e)
  case l4 => intro u hu' e e2; have a := h.l4 u hu'; grind [up]
  case l5 => 
    intro u hu' hlu
    have hut : u ≠ t := fun e => by subst e; have := hlu.1; rw [up_eq] at this; omega
    have hlu' : Ld s sp u := ⟨by have := hlu.1; rw [up_ne _ _ hut] at this; exact this, by have := hlu.2; rw [up_ne _ _ hut] at this; exact this⟩
    obtain ⟨m', b1, b2, b3, b4, b5, b6, b7⟩ := h.l5 u hu' hlu'
    have hu2 := h.ld2 u hu' hlu'
    have hm't : m' ≠ t := fun e => by subst e; have := hjt u hu' hu2 hut; omega
    refine ⟨m', b1, by rw [up_ne _ _ hm't]; exact b2, b3, b4, by rw [up_ne _ _ hm't]; exact b5, ?_, fun q hq hl hs hp' => ?_⟩
    · rw [up_ne _ _ hm't]; simp only [upI]; rw [if_neg (hnt m' b1 hm't)]; exact b6
    · have hqt : q ≠ t := fun e => by subst e; rw [up_eq] at hl; omega
      rw [up_ne _ _ hqt] at hl hs hp'
      rw [up_ne _ _ hm't]
      exact b7 q hq hl hs hp'
  case l6 => 
    intro u hu' hs hp'
    have hut : u ≠ t := fun e => by subst e; rw [up_eq] at hs; omega
    rw [up_ne _ _ hut] at hs hp'
    have hlu' : Ld s sp u := ⟨hs, .inr hp'⟩
    obtain ⟨m', b1, b2, b3, b4, b5, b6, b7⟩ := h.l5 u hu' hlu'
    have hm't : m' ≠ t := fun e => by subst e; have := hjt u hu' (h.ld2 u hu' hlu') hut; omega
    simp only [upI]
    rw [if_neg (by rw [b5]; exact hnt m' b1 hm't)]
    exact h.l6 u hu' hs hp'
  case lj => intro u v' hu' hv' e1 e2; have a := h.lj u v' hu' hv'; grind [Ld, up]
  case m4 => 
    intro u hu' hl hq'
    have hut : u ≠ t := fun e => by subst e; rw [up_eq] at hl; omega
    rw [up_ne _ _ hut] at hl
    have hru := hjt u hu' hl hut
    rcases h.m4 u hu' hl (fun q hq1 hl' hr' hs' => by
      have hqt : q ≠ t := fun e => by subst e; omega
      exact hq' q hq1 (by rw [up_ne _ _ hqt]; exact hl') hr' ⟨by rw [up_ne _ _ hqt]; exact hs'.1, by rw [up_ne _ _ hqt]; exact hs'.2⟩) with e | ⟨l, a1, a2, a3, a4, a5⟩
    · left; rw [up_ne _ _ hut]; simp only [upI]; rw [if_neg (hnt u hu' hut)]; exact e
    · have hlt : l ≠ t := fun e => by subst e; have := a2.1; omega
      exact .inr ⟨l, a1, ⟨by rw [up_ne _ _ hlt]; exact a2.1, by rw [up_ne _ _ hlt]; exact a2.2⟩, by rw [up_ne _ _ hlt]; exact a3, a4, by rw [up_ne _ _ hut]; exact a5⟩

theorem HI.splice (h : HI n cl nd ah ls wd sp s lo r F C hu eu T H E fr) (t : Nat) (ht : t < n) (h0 : s t = 1) (hp : sp t = 4) (m : Nat) (m1 : m < n) (m2 : lo m = 1) (m3 : cl m = cl t) (m4 : ls t = nd m) : HI n cl nd (up ah t T) ls wd (up sp t 5) s (loS cl lo r (cl t) (r m)) (rS cl lo r (cl t) (r m) E (hu (cl t))) F C (upI hu (cl t) (r m + 1)) eu (ls t) H (E + (r m - hu (cl t)) + 1) fr := by
  have k1 := h.s1 t ht h0
  have hlo : lo t = 1 := by have := h.rg t ht; omega
  have hr := h.hd t ht hlo (by omega)
  have hc := h.clr t ht
  have hrm := h.rU m m1 m2
  rw [m3] at hrm
  have gt : Go cl lo r (cl t) (r m) t := ⟨hlo, rfl, by omega⟩
  have gm : Go cl lo r (cl t) (r m) m := ⟨m2, m3, by omega⟩
  have hjU : ∀ u, u < n → lo u = 1 → cl u = cl t → r u = hu (cl t) → u = t := fun u hu' a b c => h.jU u t hu' ht a hlo b (by omega)
  have hge : ∀ u, u < n → lo u = 1 → cl u = cl t → hu (cl t) ≤ r u := fun u hu' a b => by have := h.rU u hu' a; rw [b] at this; omega
  have hsp2 : ∀ u, u < n → lo u = 1 → cl u = cl t → u ≠ t → sp u = 2 := fun u hu' a b c => by
    by_cases e : sp u = 2
    · exact e
    · have := h.hd u hu' a e; rw [b] at this; exact absurd (hjU u hu' a b this) c
  have hE := h.hE
  have hne : ∀ u, u < n → Go cl lo r (cl t) (r m) u ∨ lo u = 2 → lo u ≠ 0 := fun u _ e => by rcases e with e | e; have := e.1; omega; omega
  have hupI : ∀ c, c ≠ cl t → upI hu (cl t) (r m + 1) c = hu c := fun c e => by simp [upI, e]
  have hupt : upI hu (cl t) (r m + 1) (cl t) = r m + 1 := by simp [upI]
  have hK1 : ∀ a, a = nd m → K1 n cl nd (loS cl lo r (cl t) (r m)) (rS cl lo r (cl t) (r m) E (hu (cl t))) (cl t) a := fun a ha => ⟨m, m1, loS2.2 (.inl gm), m3, ha, fun q hq e1 e2 => by
    rcases loS2.1 e1 with g | g
    · rw [rS_go g, rS_go gm]; have := g.2.2; omega
    · rw [rS_no (go_no2 g), rS_go gm]; have := h.rO q hq g; omega⟩
  have hK : ∀ c a, c ≠ cl t → K n cl nd lo r F c a → K n cl nd (loS cl lo r (cl t) (r m)) (rS cl lo r (cl t) (r m) E (hu (cl t))) F c a := fun c a hne' hk => by
    rcases hk with ⟨p, a1, a2, a3, a4, a5⟩ | ⟨a1, a2⟩
    · refine .inl ⟨p, a1, loS2.2 (.inr a2), a3, a4, fun q hq e1 e2 => ?_⟩
      rcases loS2.1 e1 with g | g
      · exact absurd (e2.symm.trans g.2.1) hne'
      · rw [rS_no (go_no2 g), rS_no (go_no2 a2)]; exact a5 q hq g e2
    · refine .inr ⟨fun q hq e1 e2 => ?_, a2⟩
      rcases loS2.1 e1 with g | g
      · exact absurd (e2.symm.trans g.2.1) hne'
      · exact a1 q hq g e2
  constructor
  case n8 => first | exact h.n8 | (have hh := h.n8; grind [up, upI, Ld]) | (have hh := h.n8; simp only [up] at *; grind) | (have hh := h.n8; simp only [up, Ld] at *; grind)
  case clr => first | exact h.clr | (have hh := h.clr; grind [up, upI, Ld]) | (have hh := h.clr; simp only [up] at *; grind) | (have hh := h.clr; simp only [up, Ld] at *; grind)
  case ndr => first | exact h.ndr | (have hh := h.ndr; grind [up, upI, Ld]) | (have hh := h.ndr; simp only [up] at *; grind) | (have hh := h.ndr; simp only [up, Ld] at *; grind)
  case frr => first | exact h.frr | (have hh := h.frr; grind [up, upI, Ld]) | (have hh := h.frr; simp only [up] at *; grind) | (have hh := h.frr; simp only [up, Ld] at *; grind)
  case inj => first | exact h.inj | (have hh := h.inj; grind [up, upI, Ld]) | (have hh := h.inj; simp only [up] at *; grind) | (have hh := h.inj; simp only [up, Ld] at *; grind)
  case frn => first | exact h.frn | (have hh := h.frn; grind [up, upI, Ld]) | (have hh := h.frn; simp only [up] at *; grind) | (have hh := h.frn; simp only [up, Ld] at *; grind)
  case rg => intro u hu'; have a := h.rg u hu'; unfold loS; split <;> omega
  case s0 => intro u hu' e; have a := h.s0 u hu' e; have b : u ≠ t := (fun e2 => by subst e2; omega); have g : ¬ Go cl lo r (cl t) (r m) u := (fun g => by have := g.1; omega); unfold loS; rw [if_neg g, up_ne _ _ b]; exact a
  case s1 => 
    intro u hu' e
    have a := h.s1 u hu' e
    by_cases b : u = t
    · subst b; rw [up_eq]; unfold loS; rw [if_pos gt]; omega
    · rw [up_ne _ _ b]
      unfold loS
      split
      · rename_i g; have := hsp2 u hu' g.1 g.2.1 b; omega
      · exact a
  case s2 => intro u hu' e; have a := h.s2 u hu' e; have b : u ≠ t := (fun e2 => by subst e2; omega); have g := go_no2 (cl := cl) (r := r) (c := cl t) (x := r m) a.1; rw [up_ne _ _ b, rS_no g]; exact ⟨loS2.2 (.inr a.1), a.2⟩
  case s3 => intro u hu' e; have a := h.s3 u hu' e; have b : u ≠ t := (fun e2 => by subst e2; omega); have g := go_no2 (cl := cl) (r := r) (c := cl t) (x := r m) a.1; rw [up_ne _ _ b, rS_no g]; exact ⟨loS2.2 (.inr a.1), a.2⟩
  case hd => 
    intro u hu' e e2
    obtain ⟨a, g⟩ := loS1.1 e
    have b : u ≠ t := fun e3 => by subst e3; exact g gt
    rw [up_ne _ _ b] at e2
    have := h.hd u hu' a e2
    by_cases c : cl u = cl t
    · rw [c] at this; exact absurd (hjU u hu' a c this) b
    · rw [rS_no g, hupI _ c]; exact this
  case rO => 
    intro u hu' e
    rcases loS2.1 e with g | g
    · rw [rS_go g]; have := hge u hu' g.1 g.2.1; have := g.2.2; omega
    · rw [rS_no (go_no2 g)]; have := h.rO u hu' g; omega
  case rU => 
    intro u hu' e
    obtain ⟨a, g⟩ := loS1.1 e
    have := h.rU u hu' a
    rw [rS_no g]
    by_cases c : cl u = cl t
    · rw [c, hupt]; rw [c] at this
      have : ¬ r u ≤ r m := fun e3 => g ⟨a, c, e3⟩
      omega
    · rw [hupI _ c]; exact this
  case jO => 
    intro u v hu' hv' e1 e2 e3
    rcases loS2.1 e1 with g | g <;> rcases loS2.1 e2 with g' | g'
    · rw [rS_go g, rS_go g'] at e3; exact h.jU u v hu' hv' g.1 g'.1 (by rw [g.2.1, g'.2.1]) (by omega)
    · rw [rS_go g, rS_no (go_no2 g')] at e3; have := h.rO v hv' g'; have := hge u hu' g.1 g.2.1; omega
    · rw [rS_no (go_no2 g), rS_go g'] at e3; have := h.rO u hu' g; have := hge v hv' g'.1 g'.2.1; omega
    · rw [rS_no (go_no2 g), rS_no (go_no2 g')] at e3; exact h.jO u v hu' hv' g g' e3
  case jU => 
    intro u v hu' hv' e1 e2 e3 e4
    obtain ⟨a, g⟩ := loS1.1 e1
    obtain ⟨a', g'⟩ := loS1.1 e2
    rw [rS_no g, rS_no g'] at e4
    exact h.jU u v hu' hv' a a' e3 e4
  case oO => 
    intro x hx0 hx1
    by_cases c : x < E
    · obtain ⟨u, a1, a2, a3⟩ := h.oO x hx0 c
      exact ⟨u, a1, loS2.2 (.inr a2), by rw [rS_no (go_no2 a2)]; exact a3⟩
    · obtain ⟨u, a1, a2, a3, a4⟩ := h.oU (cl t) (x - E + hu (cl t)) hc.1 hc.2 (by omega) (by omega)
      have g : Go cl lo r (cl t) (r m) u := ⟨a2, a3, by omega⟩
      exact ⟨u, a1, loS2.2 (.inl g), by rw [rS_go g]; omega⟩
  case oU => 
    intro c x h0' h1' hx0 hx1
    by_cases e : c = cl t
    · rw [e, hupt] at hx0
      obtain ⟨u, a1, a2, a3, a4⟩ := h.oU c x h0' h1' (by rw [e]; omega) hx1
      have g : ¬ Go cl lo r (cl t) (r m) u := fun g => by have := g.2.2; omega
      exact ⟨u, a1, loS1.2 ⟨a2, g⟩, a3, by rw [rS_no g]; exact a4⟩
    · rw [hupI _ e] at hx0
      obtain ⟨u, a1, a2, a3, a4⟩ := h.oU c x h0' h1' hx0 hx1
      have g : ¬ Go cl lo r (cl t) (r m) u := fun g => e (by rw [← a3]; exact g.2.1)
      exact ⟨u, a1, loS1.2 ⟨a2, g⟩, a3, by rw [rS_no g]; exact a4⟩
  case hE => omega
  case hue => 
    intro c h0' h1'
    by_cases e : c = cl t
    · rw [e, hupt]; omega
    · rw [hupI _ e]; exact h.hue c h0' h1'
  case fq => intro u hu' e; refine h.fq u hu' (fun e2 => e ?_); unfold loS; rw [if_neg (fun g => by have := g.1; omega)]; exact e2
  case fu => intro u hu' e; exact h.fu u hu' (loS1.1 e).1
  case fp => intro u hu' e e2; have b : u ≠ t := (fun e3 => by subst e3; rw [up_eq] at e2; omega); rw [up_ne _ _ b] at e2; exact h.fp u hu' e e2
  case ff => first | exact h.ff | (have hh := h.ff; grind [up, upI, Ld]) | (have hh := h.ff; simp only [up] at *; grind) | (have hh := h.ff; simp only [up, Ld] at *; grind)
  case ch => 
    intro u hu' e e2
    rcases loS2.1 e with g | g
    · rw [rS_go g] at e2
      have := hge u hu' g.1 g.2.1
      have b := hjU u hu' g.1 g.2.1 (by omega)
      subst b
      rw [up_eq]; exact h.t0 (by omega)
    · rw [rS_no (go_no2 g)] at e2
      rw [up_ne _ _ (fun e3 => by subst e3; omega)]
      exact h.ch u hu' g e2
  case cO => 
    intro u p hu' hp' e1 e2 e3
    rcases loS2.1 e1 with g | g <;> rcases loS2.1 e2 with g' | g'
    · rw [rS_go g, rS_go g'] at e3
      have := hge p hp' g'.1 g'.2.1
      rw [up_ne _ _ (fun e4 => by subst e4; omega)]
      exact h.cU u p hu' hp' g.1 g'.1 (by rw [g.2.1, g'.2.1]) (by omega)
    · rw [rS_go g, rS_no (go_no2 g')] at e3
      have := h.rO p hp' g'
      have := hge u hu' g.1 g.2.1
      have b := hjU u hu' g.1 g.2.1 (by omega)
      subst b
      rw [up_eq]; exact h.t1 p hp' g' (by omega)
    · rw [rS_no (go_no2 g), rS_go g'] at e3
      have := h.rO u hu' g
      have := hge p hp' g'.1 g'.2.1
      omega
    · rw [rS_no (go_no2 g), rS_no (go_no2 g')] at e3
      rw [up_ne _ _ (fun e4 => by subst e4; omega)]
      exact h.cO u p hu' hp' g g' e3
  case cU => 
    intro u p hu' hp' e1 e2 e3 e4
    obtain ⟨a, g⟩ := loS1.1 e1
    obtain ⟨a', g'⟩ := loS1.1 e2
    rw [rS_no g, rS_no g'] at e4
    rw [up_ne _ _ (fun e5 => by subst e5; exact g gt)]
    exact h.cU u p hu' hp' a a' e3 e4
  case fol => 
    intro u hu' e1 e2 e3
    have b : u ≠ t := fun e4 => by subst e4; rw [up_eq] at e3; omega
    rw [up_ne _ _ b] at e3 ⊢
    rcases loS2.1 e1 with g | g
    · rcases h.ahU u hu' g.1 with e | ⟨p, p1, p2, p3, p4, _⟩
      · rw [g.2.1] at e; exact absurd (hjU u hu' g.1 g.2.1 e) b
      · have := h.fu p p1 p2; rw [p4, this]; omega
    · exact h.fol u hu' g e2 e3
  case t0 => intro e; omega
  case t1 => 
    intro u hu' e1 e2
    rcases loS2.1 e1 with g | g
    · rw [rS_go g] at e2
      have := h.jU u m hu' m1 g.1 m2 (by rw [g.2.1, m3]) (by omega)
      subst this; exact m4
    · rw [rS_no (go_no2 g)] at e2; have := h.rO u hu' g; omega
  case cc => intro u hu' e1 e2; obtain ⟨a, g⟩ := loS1.1 e1; rw [rS_no g] at e2; exact h.cc u hu' a e2
  case ku => 
    intro u hu' e1 e2 e3
    obtain ⟨a, g⟩ := loS1.1 e1
    have b : u ≠ t := fun e5 => by subst e5; exact g gt
    rw [up_ne _ _ b] at e2 ⊢
    rw [rS_no g] at e3
    by_cases c : cl u = cl t
    · rw [c, hupt] at e3
      rw [c]
      exact .inl (hK1 _ (h.cU u m hu' m1 a m2 (by rw [c, m3]) (by omega)))
    · rw [hupI _ c] at e3
      exact hK (cl u) _ c (h.ku u hu' a e2 e3)
  case kc => 
    intro c h0' h1' he
    by_cases e : c = cl t
    · rw [e, hupt] at he
      rw [e]
      exact .inr (.inl (hK1 _ (by rw [← m3]; exact h.cc m m1 m2 (by rw [m3]; omega))))
    · rw [hupI _ e] at he
      rcases h.kc c h0' h1' he with e2 | e2
      · exact .inl e2
      · exact .inr (hK c _ e e2)
  case l4 => 
    intro u hu' e1 e2
    have b : u ≠ t := fun e5 => by subst e5; rw [up_eq] at e2; omega
    rw [up_ne _ _ b] at e2
    obtain ⟨m', b1, b2, b3, b4⟩ := h.l4 u hu' e1 e2
    have hlu : lo u = 1 := by have := h.s1 u hu' e1; have := h.rg u hu'; omega
    have c : cl u ≠ cl t := fun c => by have := hsp2 u hu' hlu c b; omega
    exact ⟨m', b1, loS1.2 ⟨b2, fun g => c (by rw [← b3]; exact g.2.1)⟩, b3, b4⟩
  case l5 => 
    intro u hu' hlu
    by_cases b : u = t
    · subst b
      refine ⟨m, m1, loS2.2 (.inl gm), m3, by rw [rS_go gt, rS_go gm]; omega, m4, h.fu m m1 m2, fun q hq e1 e2 e3 e4 => ?_⟩
      have bq : q ≠ u := fun e5 => by subst e5; rw [up_eq] at e3; omega
      rw [up_ne _ _ bq] at e3 e4
      rcases loS2.1 e1 with g | g
      · rcases h.ahU q hq g.1 with e | ⟨p, p1, p2, p3, p4, p5⟩
        · rw [g.2.1] at e; exact bq (hjU q hq g.1 g.2.1 e)
        · have := h.inj p m p1 m1 (by omega); subst this; have := g.2.2; omega
      · rcases h.ahO q hq g with ⟨_, e⟩ | ⟨p, p1, p2, p3, p4⟩
        · have := h.frn m m1; omega
        · have := h.inj p m p1 m1 (by omega); subst this; omega
    · have hlu' : Ld s sp u := ⟨hlu.1, by have := hlu.2; rw [up_ne _ _ b] at this; exact this⟩
      obtain ⟨m', b1, b2, b3, b4, b5, b6, b7⟩ := h.l5 u hu' hlu'
      refine ⟨m', b1, loS2.2 (.inr b2), b3, by rw [rS_no (go_no2 (h.ld2 u hu' hlu')), rS_no (go_no2 b2)]; exact b4, b5, b6, fun q hq e1 e2 e3 e4 => ?_⟩
      have bq : q ≠ t := fun e5 => by subst e5; rw [up_eq] at e3; omega
      rw [up_ne _ _ bq] at e3 e4
      rcases loS2.1 e1 with g | g
      · rcases h.ahU q hq g.1 with e | ⟨p, p1, p2, p3, p4, p5⟩
        · rw [g.2.1] at e; exact bq (hjU q hq g.1 g.2.1 e)
        · have := h.inj p m' p1 b1 (by omega); subst this; omega
      · exact b7 q hq g e2 e3 e4
  case l6 => intro u hu' e1 e2; have b : u ≠ t := (fun e5 => by subst e5; rw [up_eq] at e2; omega); rw [up_ne _ _ b] at e2; exact h.l6 u hu' e1 e2
  case lj => 
    intro u v hu' hv' e1 e2 e3
    have key : ∀ v, v < n → v ≠ t → Ld s (up sp t 5) v → ls t ≠ ls v := fun v hv' b hl e => by
      have hlu' : Ld s sp v := ⟨hl.1, by have := hl.2; rw [up_ne _ _ b] at this; exact this⟩
      obtain ⟨m', b1, b2, b3, b4, b5, _⟩ := h.l5 v hv' hlu'
      have := h.inj m m' m1 b1 (by omega)
      subst this; omega
    by_cases b : u = t
    · by_cases b' : v = t
      · omega
      · subst b; exact absurd e3 (key v hv' b' e2)
    · by_cases b' : v = t
      · subst b'; exact absurd e3.symm (key u hu' b e1)
      · exact h.lj u v hu' hv' ⟨e1.1, by have := e1.2; rw [up_ne _ _ b] at this; exact this⟩ ⟨e2.1, by have := e2.2; rw [up_ne _ _ b'] at this; exact this⟩ e3
  case m4 => 
    intro u hu' e1 e2
    have hLt : Ld s (up sp t 5) t := ⟨h0, .inl (up_eq _ _ _)⟩
    rcases loS2.1 e1 with g | g
    · by_cases e : r u = r m
      · have := h.jU u m hu' m1 g.1 m2 (by rw [g.2.1, m3]) e
        subst this
        exact .inr ⟨t, ht, hLt, loS2.2 (.inl gt), by rw [rS_go gt, rS_go g]; omega, m4⟩
      · exfalso
        have g2 := g.2.2
        have gg := hge u hu' g.1 g.2.1
        obtain ⟨q, q1, q2, q3, q4⟩ := h.oU (cl t) (r u + 1) hc.1 hc.2 (by omega) (by omega)
        have gq : Go cl lo r (cl t) (r m) q := ⟨q2, q3, by omega⟩
        have bq : q ≠ t := fun e5 => by subst e5; omega
        exact e2 q q1 (loS2.2 (.inl gq)) (by rw [rS_go gq, rS_go g]; omega) ⟨h.lo1 q q1 q2, by rw [up_ne _ _ bq]; exact hsp2 q q1 q2 q3 bq⟩
    · rcases h.m4 u hu' g (fun q hq hl hr' hs' => by
        have bq : q ≠ t := fun e5 => by subst e5; omega
        exact e2 q hq (loS2.2 (.inr hl)) (by rw [rS_no (go_no2 hl), rS_no (go_no2 g)]; exact hr') ⟨hs'.1, by rw [up_ne _ _ bq]; exact hs'.2⟩) with e | ⟨l, a1, a2, a3, a4, a5⟩
      · exact .inl e
      · have bl : l ≠ t := fun e5 => by subst e5; omega
        exact .inr ⟨l, a1, ⟨a2.1, by rw [up_ne _ _ bl]; exact a2.2⟩, loS2.2 (.inr a3), by rw [rS_no (go_no2 a3), rS_no (go_no2 g)]; exact a4, a5⟩

theorem HI.congr (h : HI n cl nd ah ls wd sp s lo r F C hu eu T H E fr) {F' C' : Int → Int} (eF : ∀ y : Int, 1 ≤ y → y ≤ n + 1 → F' y = F y) (eC : ∀ c : Int, 0 ≤ c → c < 8 → C' c = C c) : HI n cl nd ah ls wd sp s lo r F' C' hu eu T H E fr := by
  have eN : ∀ t, t < n → F' (nd t) = F (nd t) := fun t ht => eF _ (by have := h.ndr t ht; omega) (by have := h.ndr t ht; omega)
  have eR : F' fr = F fr := eF _ (by have := h.frr; omega) (by have := h.frr; omega)
  have eA : ∀ t, t < n → lo t = 2 → F' (ah t) = F (ah t) := fun t ht hl => by
    rcases h.ahO t ht hl with ⟨_, e⟩ | ⟨p, p1, _, e, _⟩
    · rw [e, eR]
    · rw [e, eN p p1]
  have eK : ∀ {c a : Int}, K n cl nd lo r F c a → K n cl nd lo r F' c a := fun hk => by
    rcases hk with e | ⟨a1, a2, a3, a4, a5⟩
    · exact .inl e
    · exact .inr ⟨a1, a2, by rw [eF _ (by omega) (by omega)]; exact a3, a4, a5⟩
  constructor
  case n8 => exact h.n8
  case clr => exact h.clr
  case ndr => exact h.ndr
  case frr => exact h.frr
  case inj => exact h.inj
  case frn => exact h.frn
  case rg => exact h.rg
  case s0 => exact h.s0
  case s1 => exact h.s1
  case s2 => exact h.s2
  case s3 => intro t ht e; rw [eN t ht]; exact h.s3 t ht e
  case hd => exact h.hd
  case rO => exact h.rO
  case rU => exact h.rU
  case jO => exact h.jO
  case jU => exact h.jU
  case oO => exact h.oO
  case oU => exact h.oU
  case hE => exact h.hE
  case hue => exact h.hue
  case fq => intro t ht e; rw [eN t ht]; exact h.fq t ht e
  case fu => intro t ht e; rw [eN t ht]; exact h.fu t ht e
  case fp => intro t ht e e2; rw [eN t ht]; exact h.fp t ht e e2
  case ff => rw [eR]; exact h.ff
  case ch => exact h.ch
  case cO => exact h.cO
  case cU => exact h.cU
  case fol => intro t ht e e2 e3; rw [eA t ht e]; exact h.fol t ht e e2 e3
  case t0 => exact h.t0
  case t1 => exact h.t1
  case cc => intro t ht e e2; have := h.clr t ht; rw [eC _ this.1 this.2]; exact h.cc t ht e e2
  case ku => intro t ht e e2 e3; exact eK (h.ku t ht e e2 e3)
  case kc => intro c c0 c1 e; rw [eC c c0 c1]; rcases h.kc c c0 c1 e with e2 | e2; exact .inl e2; exact .inr (eK e2)
  case l4 => exact h.l4
  case l5 => intro t ht e; obtain ⟨m, a1, a2, a3, a4, a5, a6, a7⟩ := h.l5 t ht e; exact ⟨m, a1, a2, a3, a4, a5, by rw [eN m a1]; exact a6, a7⟩
  case l6 => intro t ht e e2; obtain ⟨m, a1, _, _, _, a5, _⟩ := h.l5 t ht ⟨e, .inr e2⟩; rw [a5, eN m a1, ← a5]; exact h.l6 t ht e e2
  case lj => exact h.lj
  case m4 => intro t ht e e2; rw [eN t ht]; exact h.m4 t ht e e2

/-- At the beginning. -/
theorem HI.start (n : Nat) (n8 : n ≤ 8) (cl : Nat → Int) (hcl : ∀ t, t < n → 0 ≤ cl t ∧ cl t < 8) (nd ah ls wd sp s : Nat → Int) (F C : Int → Int) (T : Int) (hnd : ∀ t, t < n → nd t = t + 1) (hsp : ∀ t, t < n → sp t = 0) (hs : ∀ t, t < n → s t = 0) (hF : F (n + 1) / 2 % 2 = 0) (hC : ∀ c, 0 ≤ c → c < 8 → C c = 0) (hT : T = n + 1) :
    HI n cl nd ah ls wd sp s (fun _ => 0) (fun _ => 0) F C (fun _ => 0) (fun _ => 0) T 0 0 (n + 1) := by
  have no : ∀ t, t < n → ¬ Ld s sp t := fun t ht e => by have := hs t ht; have := e.1; omega
  constructor
  case n8 => exact n8
  case clr => exact hcl
  case ndr => intro t ht; rw [hnd t ht]; omega
  case frr => omega
  case inj => intro t u ht hu' e; rw [hnd t ht, hnd u hu'] at e; omega
  case frn => intro t ht; rw [hnd t ht]; omega
  case rg => intro t ht; rw [hs t ht]; omega
  case s0 => intro t ht _; exact ⟨rfl, hsp t ht⟩
  case s1 => intro t ht e; rw [hs t ht] at e; omega
  case s2 => intro t ht e; rw [hs t ht] at e; omega
  case s3 => intro t ht e; rw [hs t ht] at e; omega
  case hd => intro t ht e; omega
  case rO => intro t ht e; omega
  case rU => intro t ht e; omega
  case jO => intro t u _ _ e; omega
  case jU => intro t u _ _ e; omega
  case oO => intro x a b; omega
  case oU => intro c x _ _ a b; omega
  case hE => omega
  case hue => intro c _ _; omega
  case fq => intro t ht e; exact absurd rfl e
  case fu => intro t ht e; omega
  case fp => intro t ht e; rw [hs t ht] at e; omega
  case ff => exact hF
  case ch => intro t ht e; omega
  case cO => intro t u _ _ e; omega
  case cU => intro t u _ _ e; omega
  case fol => intro t ht e; omega
  case t0 => intro _; exact hT
  case t1 => intro t ht e; omega
  case cc => intro t ht e; omega
  case ku => intro t ht e; omega
  case kc => intro c c0 c1 _; exact .inl (hC c c0 c1)
  case l4 => intro t ht e; rw [hs t ht] at e; omega
  case l5 => intro t ht e; exact absurd e (no t ht)
  case l6 => intro t ht e; rw [hs t ht] at e; omega
  case lj => intro t u ht _ e; exact absurd e (no t ht)
  case m4 => intro t ht e; omega

end Go.Proofs.Ytmiidiijhhjabaa.HierQ
