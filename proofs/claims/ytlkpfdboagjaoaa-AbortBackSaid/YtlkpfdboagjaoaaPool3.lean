/- Package pool: whose a node is; Take, Give. -/
import Derived.Test.YtlkpfdboagjaoaaPool2
namespace Go.Proofs.Ytlkpfdboagjaoaa.Pool
open Go Go.RowKit Go.Proofs.Ytlkpfdboagjaoaa.Heap Go.Proofs.Ytlkpfdboagjaoaa.Open Go.Proofs.Ytlkpfdboagjaoaa.Sl

/-- Whose a node is; -1: nobody's. -/
def whose : List (List Int) → Int → Int
  | [], _ => -1
  | r :: rs, x => if r.contains x = true then 0 else if whose rs x < 0 then -1 else whose rs x + 1
/-- It is in none of the first k rows. -/
def Nobody (rows : List (List Int)) (x : Int) (k : Nat) : Prop := ∀ j, j < k → (rows.getD j []).contains x = false
theorem whose_hit : ∀ (rows : List (List Int)) (x : Int) (k : Nat), Nobody rows x k → k < rows.length → (rows.getD k []).contains x = true → whose rows x = k
  | [], _, _, _, h, _ => by simp at h
  | y :: r, x, 0, _, _, h => by
    have h : y.contains x = true := h
    unfold whose; rw [if_pos h]; rfl
  | y :: r, x, k + 1, hb, hk, h => by
    have h0 : y.contains x = false := hb 0 (by omega)
    have := whose_hit r x k (fun j hj => hb (j + 1) (by omega)) (by simpa using hk) h
    unfold whose
    rw [if_neg (by rw [h0]; simp), this, if_neg (by omega)]; omega
theorem whose_miss : ∀ (rows : List (List Int)) (x : Int), Nobody rows x rows.length → whose rows x = -1
  | [], _, _ => rfl
  | y :: r, x, hb => by
    have h0 : y.contains x = false := hb 0 (by simp)
    have := whose_miss r x (fun j hj => hb (j + 1) (by simpa using hj))
    unfold whose
    rw [if_neg (by rw [h0]; simp), this, if_pos (by omega)]
theorem whose_cases (rows : List (List Int)) (x : Int) : (whose rows x = -1 ∧ Nobody rows x rows.length) ∨ ∃ k : Nat, whose rows x = k ∧ k < rows.length ∧ (rows.getD k []).contains x = true ∧ Nobody rows x k := by
  induction rows with
  | nil => exact .inl ⟨rfl, fun j hj => by simp at hj⟩
  | cons r rs ih =>
    by_cases h : r.contains x = true
    · exact .inr ⟨0, by unfold whose; rw [if_pos h]; rfl, by simp, h, fun j hj => absurd hj (Nat.not_lt_zero _)⟩
    · have h' : r.contains x = false := by simpa using h
      rcases ih with ⟨h1, h2⟩ | ⟨k, h1, h2, h3, h4⟩
      · refine .inl ⟨by unfold whose; rw [if_neg h, h1]; rfl, fun j hj => ?_⟩
        cases j with
        | zero => exact h'
        | succ j => exact h2 j (by simpa using hj)
      · refine .inr ⟨k + 1, by unfold whose; rw [if_neg h, h1, if_neg (by omega)]; omega, by simpa using h2, h3, fun j hj => ?_⟩
        cases j with
        | zero => exact h'
        | succ j => exact h4 j (by omega)
theorem Nobody.zero (rows : List (List Int)) (x : Int) : Nobody rows x 0 := fun _ h => absurd h (Nat.not_lt_zero _)
theorem Nobody.next {rows : List (List Int)} {x : Int} {k : Nat} (h : Nobody rows x k) (hk : (rows.getD k []).contains x = false) : Nobody rows x (k + 1) := fun j hj => by
  by_cases e : j = k
  · subst e; exact hk
  · exact h j (by omega)

/-- The first of some nodes that isn't out: it, the error, what is out then. -/
def take (out : List Bool) : List Int → (Int × Int) × List Bool
  | [] => ((0, 6), out)
  | x :: r => if out.getD x.toNat false then take out r else ((x, 0), out.set x.toNat true)
theorem take_drop (out : List Bool) : ∀ (xs : List Int) (k : Nat), k < xs.length → out.getD (xs.getD k 0).toNat false = true → take out (xs.drop k) = take out (xs.drop (k + 1)) := by
  intro xs k hk h
  rw [List.drop_eq_getElem_cons hk]
  rw [getD_lt _ _ _ hk] at h
  rw [take, if_pos h]
theorem take_free (out : List Bool) : ∀ (xs : List Int) (k : Nat), k < xs.length → out.getD (xs.getD k 0).toNat false = false → take out (xs.drop k) = ((xs.getD k 0, 0), out.set (xs.getD k 0).toNat true) := by
  intro xs k hk h
  rw [List.drop_eq_getElem_cons hk]
  rw [getD_lt _ _ _ hk] at h ⊢
  rw [take, if_neg (by rw [h]; simp)]
end Go.Proofs.Ytlkpfdboagjaoaa.Pool
