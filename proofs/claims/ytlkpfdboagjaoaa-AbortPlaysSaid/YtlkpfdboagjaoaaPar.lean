/- A drawn region whose operations each make something new, in whatever order: one law for all orders. -/
import Derived.Test.YtlkpfdboagjaoaaHeap
import Derived.RegionTactic
namespace Go.Proofs.Ytlkpfdboagjaoaa.Par
open Go Go.RowKit Go.Proofs.Ytlkpfdboagjaoaa.Heap
/-- A function, turned at one place. -/
def upd {α : Type} (vs : Nat → α) (i : Nat) (v : α) : Nat → α := fun j => if j = i then v else vs j
theorem upd_at {α : Type} (vs : Nat → α) (i : Nat) (v : α) : upd vs i v i = v := by simp [upd]
theorem upd_ne {α : Type} (vs : Nat → α) {i j : Nat} (v : α) (h : j ≠ i) : upd vs i v j = vs j := by simp [upd, h]
/-- How many of the first k are not done. -/
def cnt : Nat → (Nat → Bool) → Nat
  | 0, _ => 0
  | k + 1, bs => cnt k bs + (if bs k then 0 else 1)
theorem cnt_ext : ∀ (k : Nat) (bs bs' : Nat → Bool), (∀ i, i < k → bs i = bs' i) → cnt k bs = cnt k bs'
  | 0, _, _, _ => rfl
  | k + 1, bs, bs', h => by
    unfold cnt
    rw [cnt_ext k bs bs' (fun i hi => h i (by omega)), h k (by omega)]
theorem cnt_upd : ∀ (k : Nat) (bs : Nat → Bool) (i : Nat), i < k → bs i = false → cnt k (upd bs i true) + 1 = cnt k bs
  | 0, _, i, hi, _ => absurd hi (Nat.not_lt_zero i)
  | k + 1, bs, i, hi, hb => by
    unfold cnt
    by_cases e : i = k
    · subst e
      rw [cnt_ext i (upd bs i true) bs (fun j hj => upd_ne bs true (by omega)), upd_at, hb, if_pos rfl, if_neg (by decide)]
    · have := cnt_upd k bs i (by omega) hb
      rw [upd_ne bs true (fun z : k = i => e z.symm)]
      omega
theorem cnt_zero : ∀ (k : Nat) (bs : Nat → Bool), cnt k bs = 0 → ∀ i, i < k → bs i = true
  | 0, _, _, i, hi => absurd hi (Nat.not_lt_zero i)
  | k + 1, bs, h, i, hi => by
    unfold cnt at h
    by_cases hb : bs k = true
    · rw [if_pos hb] at h
      by_cases e : i = k
      · subst e; exact hb
      · exact cnt_zero k bs (by omega) i (by omega)
    · rw [if_neg hb] at h; omega
theorem cnt_some : ∀ (k : Nat) (bs : Nat → Bool), cnt k bs ≠ 0 → ∃ i, i < k ∧ bs i = false
  | 0, _, h => absurd rfl h
  | k + 1, bs, h => by
    unfold cnt at h
    by_cases hb : bs k = true
    · rw [if_pos hb] at h
      obtain ⟨i, hi, e⟩ := cnt_some k bs (by omega)
      exact ⟨i, by omega, e⟩
    · exact ⟨k, by omega, by simpa using hb⟩
theorem cnt_all : ∀ k : Nat, cnt k (fun _ => false) = k
  | 0 => rfl
  | k + 1 => by unfold cnt; rw [cnt_all k]; rfl
/-- What has been made. -/
structure Made (k : Nat) (G : Nat → Value → World → (Nat → Prop) → Prop) (w0 w : World) (bs : Nat → Bool) (vs : Nat → Value) (F : Nat → Nat → Prop) : Prop where
  bel : Below w0.heap.size w0 w
  good : ∀ i, i < k → bs i = true → G i (vs i) w (F i)
  rng : ∀ i, i < k → bs i = true → ∀ b, F i b → w0.heap.size ≤ b ∧ b < w.heap.size
  dis : ∀ i j, i < k → j < k → bs i = true → bs j = true → i ≠ j → ∀ b, F i b → ¬ F j b
variable {P : Program} {md : Region.Mode} {ops : Array Oper} {Q : Exit → Act → World → Prop}
theorem wpAny_par (k m : Nat) (is : Nat → Nat) (G : Nat → Value → World → (Nat → Prop) → Prop) (L : (Nat → Bool) → Array Bool) (A : (Nat → Value) → Act) (w0 : World)
    (hkeep : ∀ i v w w' F, G i v w F → (∀ b, F b → b < w.heap.size) → Below w.heap.size w w' → G i v w' F)
    (hL : ∀ bs i, i < k → (L bs).setIfInBounds (is i) true = L (upd bs i true))
    (hX : ∀ bs, (∀ i, i < k → bs i = true) → L bs = L fun _ => true)
    (hR : ∀ bs, (∃ i, i < k ∧ bs i = false) → Region.ready md ops (L bs) ≠ [] ∧ ∀ x, x ∈ Region.ready md ops (L bs) → ∃ i, i < k ∧ x = is i ∧ bs i = false)
    (hop : ∀ i, i < k → ∀ vs w K, Below w0.heap.size w0 w → (∀ v w' F, Below w.heap.size w w' → G i v w' F → (∀ b, F b → w.heap.size ≤ b ∧ b < w'.heap.size) → K (A (upd vs i v)) w') → wpOp P ops Q (is i) K (A vs) w)
    (hfin : ∀ vs w F, Made k G w0 w (fun _ => true) vs F → wpAny P md ops Q m (L fun _ => true) (A vs) w) (vs : Nat → Value) :
    wpAny P md ops Q (k + m) (L fun _ => false) (A vs) w0 := by
  have key : ∀ (c : Nat) (bs : Nat → Bool) (vs : Nat → Value) (w : World) (F : Nat → Nat → Prop), cnt k bs = c → Made k G w0 w bs vs F → wpAny P md ops Q (c + m) (L bs) (A vs) w := by
    intro c
    induction c with
    | zero =>
      intro bs vs w F hc hM
      have ha := cnt_zero k bs hc
      rw [hX bs ha, Nat.zero_add]
      exact hfin vs w F ⟨hM.bel, fun i hi _ => hM.good i hi (ha i hi), fun i hi _ => hM.rng i hi (ha i hi), fun i j hi hj _ _ => hM.dis i j hi hj (ha i hi) (ha j hj)⟩
    | succ c ih =>
      intro bs vs w F hc hM
      rw [Nat.add_right_comm]
      obtain ⟨h1, h2⟩ := hR bs (cnt_some k bs (by omega))
      refine ⟨fun e => absurd e h1, fun x hx => ?_⟩
      obtain ⟨i, hi, rfl, hb⟩ := h2 x hx
      refine hop i hi vs w _ hM.bel fun v w' Fn hB hG hF => ?_
      rw [hL bs i hi]
      have hz := hM.bel.size
      refine ih (upd bs i true) (upd vs i v) w' (upd F i Fn) (by have := cnt_upd k bs i hi hb; omega) ⟨hM.bel.trans (hB.mono hz), fun j hj e => ?_, fun j hj e b h => ?_, fun j j' hj hj' e e' hne b h h' => ?_⟩
      · by_cases z : j = i
        · subst z; rw [upd_at, upd_at]; exact hG
        · rw [upd_ne _ _ z] at e
          rw [upd_ne _ _ z, upd_ne _ _ z]
          exact hkeep j _ w w' _ (hM.good j hj e) (fun b h => (hM.rng j hj e b h).2) hB
      · by_cases z : j = i
        · subst z; rw [upd_at] at h; have := hF b h; omega
        · rw [upd_ne _ _ z] at e h
          have := hM.rng j hj e b h
          have := hB.size
          omega
      · by_cases z : j = i
        · subst z
          have z' : j' ≠ j := fun q => hne q.symm
          rw [upd_at] at h
          rw [upd_ne _ _ z'] at e' h'
          have := hM.rng j' hj' e' b h'
          have := hF b h
          omega
        · rw [upd_ne _ _ z] at e h
          by_cases z' : j' = i
          · subst z'
            rw [upd_at] at h'
            have := hM.rng j hj e b h
            have := hF b h'
            omega
          · rw [upd_ne _ _ z'] at e' h'
            exact hM.dis j j' hj hj' e e' hne b h h'
  exact key k (fun _ => false) vs w0 (fun _ _ => False) (cnt_all k) ⟨Below.refl _ _, fun _ _ e => absurd e (by decide), fun _ _ e => absurd e (by decide), fun _ _ _ _ e => absurd e (by decide)⟩
/-- What may come up, where five are to be made. -/
theorem ready5 (j0 j1 j2 j3 j4 : Nat) (L : (Nat → Bool) → Array Bool) (T : Bool → Bool → Bool → Bool → Bool → Array Bool) (hT : ∀ bs, L bs = T (bs 0) (bs 1) (bs 2) (bs 3) (bs 4))
    (hr : ∀ c0 c1 c2 c3 c4 : Bool, (c0 && c1 && c2 && c3 && c4) = false → Region.ready md ops (T c0 c1 c2 c3 c4) = (if c0 then [] else [j0]) ++ ((if c1 then [] else [j1]) ++ ((if c2 then [] else [j2]) ++ ((if c3 then [] else [j3]) ++ (if c4 then [] else [j4]))))) :
    ∀ bs, (∃ i, i < 5 ∧ bs i = false) → Region.ready md ops (L bs) ≠ [] ∧ ∀ x, x ∈ Region.ready md ops (L bs) → ∃ i, i < 5 ∧ x = [j0, j1, j2, j3, j4].getD i 0 ∧ bs i = false := by
  intro bs hb
  rw [hT]
  have hf : (bs 0 && bs 1 && bs 2 && bs 3 && bs 4) = false := by
    obtain ⟨i, hi, e⟩ := hb
    rcases (show i = 0 ∨ i = 1 ∨ i = 2 ∨ i = 3 ∨ i = 4 by omega) with rfl | rfl | rfl | rfl | rfl <;> simp [e]
  rw [hr _ _ _ _ _ hf]
  refine ⟨fun e => ?_, fun x hx => ?_⟩
  · simp only [List.append_eq_nil_iff] at e
    obtain ⟨e0, e1, e2, e3, e4⟩ := e
    have k0 : bs 0 = true := by cases h : bs 0 <;> simp [h] at e0 ⊢
    have k1 : bs 1 = true := by cases h : bs 1 <;> simp [h] at e1 ⊢
    have k2 : bs 2 = true := by cases h : bs 2 <;> simp [h] at e2 ⊢
    have k3 : bs 3 = true := by cases h : bs 3 <;> simp [h] at e3 ⊢
    have k4 : bs 4 = true := by cases h : bs 4 <;> simp [h] at e4 ⊢
    rw [k0, k1, k2, k3, k4] at hf
    exact absurd hf (by decide)
  · simp only [List.mem_append] at hx
    rcases hx with hx | hx | hx | hx | hx
    · cases h : bs 0 <;> simp [h] at hx; exact ⟨0, by decide, hx, h⟩
    · cases h : bs 1 <;> simp [h] at hx; exact ⟨1, by decide, hx, h⟩
    · cases h : bs 2 <;> simp [h] at hx; exact ⟨2, by decide, hx, h⟩
    · cases h : bs 3 <;> simp [h] at hx; exact ⟨3, by decide, hx, h⟩
    · cases h : bs 4 <;> simp [h] at hx; exact ⟨4, by decide, hx, h⟩
/-- What may come up, where four are to be made. -/
theorem ready4 (j0 j1 j2 j3 : Nat) (L : (Nat → Bool) → Array Bool) (T : Bool → Bool → Bool → Bool → Array Bool) (hT : ∀ bs, L bs = T (bs 0) (bs 1) (bs 2) (bs 3))
    (hr : ∀ c0 c1 c2 c3 : Bool, (c0 && c1 && c2 && c3) = false → Region.ready md ops (T c0 c1 c2 c3) = (if c0 then [] else [j0]) ++ ((if c1 then [] else [j1]) ++ ((if c2 then [] else [j2]) ++ (if c3 then [] else [j3])))) :
    ∀ bs, (∃ i, i < 4 ∧ bs i = false) → Region.ready md ops (L bs) ≠ [] ∧ ∀ x, x ∈ Region.ready md ops (L bs) → ∃ i, i < 4 ∧ x = [j0, j1, j2, j3].getD i 0 ∧ bs i = false := by
  intro bs hb
  rw [hT]
  have hf : (bs 0 && bs 1 && bs 2 && bs 3) = false := by
    obtain ⟨i, hi, e⟩ := hb
    rcases (show i = 0 ∨ i = 1 ∨ i = 2 ∨ i = 3 by omega) with rfl | rfl | rfl | rfl <;> simp [e]
  rw [hr _ _ _ _ hf]
  refine ⟨fun e => ?_, fun x hx => ?_⟩
  · simp only [List.append_eq_nil_iff] at e
    obtain ⟨e0, e1, e2, e3⟩ := e
    have k0 : bs 0 = true := by cases h : bs 0 <;> simp [h] at e0 ⊢
    have k1 : bs 1 = true := by cases h : bs 1 <;> simp [h] at e1 ⊢
    have k2 : bs 2 = true := by cases h : bs 2 <;> simp [h] at e2 ⊢
    have k3 : bs 3 = true := by cases h : bs 3 <;> simp [h] at e3 ⊢
    rw [k0, k1, k2, k3] at hf
    exact absurd hf (by decide)
  · simp only [List.mem_append] at hx
    rcases hx with hx | hx | hx | hx
    · cases h : bs 0 <;> simp [h] at hx; exact ⟨0, by decide, hx, h⟩
    · cases h : bs 1 <;> simp [h] at hx; exact ⟨1, by decide, hx, h⟩
    · cases h : bs 2 <;> simp [h] at hx; exact ⟨2, by decide, hx, h⟩
    · cases h : bs 3 <;> simp [h] at hx; exact ⟨3, by decide, hx, h⟩
end Go.Proofs.Ytlkpfdboagjaoaa.Par
