/- Package pool: whose a node is; Take, Give, New. -/
import Derived.Test.YtlkpfdboagjaoaaPool
import Derived.Deep.AppendLies
import Derived.Deep.RegionLaw
namespace Go.Proofs.Ytlkpfdboagjaoaa.Pool
open Go Go.RowKit Go.Proofs.Ytlkpfdboagjaoaa.Heap Go.Proofs.Ytlkpfdboagjaoaa.Open Go.Proofs.Ytlkpfdboagjaoaa.Sl

/-- Block g begins with l; behind it there is r. -/
def RowX (w : World) (g : Nat) (T : TypeId) (r l : List Value) : Prop := w.heap[g]? = some (.cells (l ++ r).toArray T (0, 0))
theorem RowX.lt {w : World} {g : Nat} {T : TypeId} {r l : List Value} (h : RowX w g T r l) : g < w.heap.size := (Array.getElem?_eq_some_iff.1 h).1
theorem RowX.cell {w : World} {g : Nat} {T : TypeId} {r l : List Value} (h : RowX w g T r l) {i : Nat} {v : Value} (hi : l[i]? = some v) : w.cell? ⟨g, i, none⟩ = some v := by
  have hl := (List.getElem?_eq_some_iff.1 hi).1
  unfold RowX at h
  simp [World.cell?, h, List.getElem?_append_left hl, hi]
theorem RowX.frozen {w : World} {g : Nat} {T : TypeId} {r l : List Value} (h : RowX w g T r l) (i : Nat) : w.frozen? ⟨g, i, none⟩ = false := by
  unfold RowX at h; simp [World.frozen?, h]
theorem RowX.set {w : World} {g : Nat} {T : TypeId} {r l : List Value} (h : RowX w g T r l) (i : Nat) (hi : i < l.length) (v : Value) : RowX (w.setCell ⟨g, i, none⟩ v) g T r (l.set i v) := by
  unfold RowX at h ⊢
  simp [World.setCell, Array.getElem?_modify, h, List.set_append_left _ _ hi]
theorem RowX.setCells {g : Nat} {T : TypeId} {r : List Value} (z : Value) : ∀ (n : Nat) (w : World) (a b : List Value), RowX w g T r (a ++ b) → b.length = n → RowX (w.setCells g a.length (List.replicate n z)) g T r (a ++ List.replicate n z)
  | 0, w, a, b, h, hb => by
    have := List.eq_nil_of_length_eq_zero hb
    subst this
    simpa [World.setCells] using h
  | n + 1, w, a, b, h, hb => by
    match b, hb with
    | x :: b, hb =>
      have h1 := h.set a.length (by simp) z
      have e : (a ++ x :: b).set a.length z = (a ++ [z]) ++ b := by simp
      rw [e] at h1
      have h2 := RowX.setCells z n _ (a ++ [z]) b h1 (by simpa using hb)
      simp only [List.length_append, List.length_singleton] at h2
      rw [List.replicate_succ, World.setCells]
      rw [List.append_assoc] at h2
      exact h2
theorem upd_setCells {S : Nat → Prop} {a : World} {g : Nat} (hg : S g) : ∀ (vs : List Value) (o : Nat) (w : World), Upd S a w → Upd S a (w.setCells g o vs)
  | [], _, _, h => h
  | v :: r, o, _, h => upd_setCells hg r (o + 1) _ (Upd.setCell (p := ⟨g, o, none⟩) h (.inl hg) v)

/-- What is kept of the first j. -/
def kept (xs : List Int) (x : Int) (j : Nat) : List Int := (xs.take j).filter (· != x)
theorem kept_le (xs : List Int) (x : Int) (j : Nat) : (kept xs x j).length ≤ j := Nat.le_trans (List.length_filter_le _ _) (List.length_take_le _ _)
theorem kept_len (xs : List Int) (x : Int) (j : Nat) : (kept xs x j).length ≤ xs.length := Nat.le_trans (List.length_filter_le _ _) (by simp; omega)
theorem kept_next (xs : List Int) (x : Int) (j : Nat) (hj : j < xs.length) : kept xs x (j + 1) = kept xs x j ++ (if xs.getD j 0 = x then [] else [xs.getD j 0]) := by
  unfold kept
  rw [List.take_succ_eq_append_getElem hj, List.filter_append, getD_lt _ _ _ hj]
  by_cases h : xs[j] = x
  · rw [if_pos h]; simp [h]
  · rw [if_neg h]; simp [h]
theorem kept_start (xs : List Int) (x : Int) (k : Nat) (hk : k < xs.length) (hB : Before xs x k) (hx : xs.getD k 0 = x) : kept xs x (k + 1) = xs.take k := by
  rw [kept_next xs x k hk, if_pos hx, List.append_nil]
  unfold kept
  rw [List.filter_eq_self]
  intro y hy
  obtain ⟨i, hi, rfl⟩ := List.mem_iff_getElem.1 hy
  simp at hi
  have := hB i (by omega)
  rw [getD_lt _ _ _ (by omega)] at this
  simpa using this
theorem kept_all (xs : List Int) (x : Int) : kept xs x xs.length = xs.filter (· != x) := by unfold kept; rw [List.take_length]
/-- What the row holds meanwhile. -/
def half (xs : List Int) (x : Int) (j : Nat) : List Int := kept xs x j ++ xs.drop (kept xs x j).length
theorem half_len (xs : List Int) (x : Int) (j : Nat) : (half xs x j).length = xs.length := by have := kept_len xs x j; simp [half]; omega
theorem half_get (xs : List Int) (x : Int) (j : Nat) (_ : j < xs.length) : (half xs x j).getD j 0 = xs.getD j 0 := by
  have h := kept_le xs x j
  unfold half
  rw [List.getD, List.getD, List.getElem?_append_right h, List.getElem?_drop, show (kept xs x j).length + (j - (kept xs x j).length) = j by omega]
theorem half_set (xs : List Int) (x : Int) (j : Nat) (hj : j < xs.length) (hx : xs.getD j 0 ≠ x) : (half xs x j).set (kept xs x j).length (xs.getD j 0) = half xs x (j + 1) := by
  have h := kept_le xs x j
  unfold half
  rw [kept_next xs x j hj, if_neg hx, List.set_append_right _ _ (Nat.le_refl _), Nat.sub_self]
  rw [List.drop_eq_getElem_cons (show (kept xs x j).length < xs.length by omega), List.set_cons_zero]
  simp
theorem half_same (xs : List Int) (x : Int) (j : Nat) (hj : j < xs.length) (hx : xs.getD j 0 = x) : half xs x (j + 1) = half xs x j := by
  unfold half
  rw [kept_next xs x j hj, if_pos hx, List.append_nil]
theorem contains_at (xs : List Int) (x : Int) (h : xs.contains x = true) : ∃ k, k < xs.length ∧ xs.getD k 0 = x ∧ Before xs x k := by
  induction xs with
  | nil => simp at h
  | cons y r ih =>
    by_cases e : y = x
    · exact ⟨0, by simp, by simpa using e, Before.zero _ _⟩
    · have hr : r.contains x = true := by
        simp at h ⊢
        rcases h with h | h
        · exact absurd h.symm e
        · exact h
      obtain ⟨k, h1, h2, h3⟩ := ih hr
      refine ⟨k + 1, by simpa using h1, by simpa using h2, ?_⟩
      intro j hj
      cases j with
      | zero => simpa using e
      | succ j => have := h3 j (by omega); simpa using this

end Go.Proofs.Ytlkpfdboagjaoaa.Pool
