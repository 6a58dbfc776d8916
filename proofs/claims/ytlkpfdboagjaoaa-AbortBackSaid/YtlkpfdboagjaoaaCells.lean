/- Rows of places of so many cells each, whatever the place. -/
import Derived.Test.YtlkpfdboagjaoaaStepU
namespace Go.Proofs.Ytlkpfdboagjaoaa.Cells
open Go
variable {α : Type} (f : α → List Value) (m : Nat)
def cellsOf : List α → List Value
  | [] => []
  | x :: r => f x ++ cellsOf r
variable (hf : ∀ x, (f x).length = m)
include hf
theorem co_len : ∀ l : List α, (cellsOf f l).length = l.length * m
  | [] => by simp [cellsOf]
  | x :: r => by
    have := co_len r
    simp [cellsOf, hf, this, Nat.add_mul]; omega
theorem co_get (d : α) : ∀ (l : List α) (t i : Nat), t < l.length → i < m → (cellsOf f l)[t * m + i]? = (f (l.getD t d))[i]?
  | x :: r, 0, i, _, hi => by
    have : i < (f x).length := by rw [hf]; exact hi
    simp [cellsOf, List.getElem?_append_left this]
  | x :: r, t + 1, i, h, hi => by
    have ih := co_get d r t i (by simpa using h) hi
    have e : (t + 1) * m + i = (f x).length + (t * m + i) := by rw [hf, Nat.add_mul]; omega
    rw [e]
    show (f x ++ cellsOf f r)[(f x).length + (t * m + i)]? = _
    rw [List.getElem?_append_right (Nat.le_add_right _ _), Nat.add_sub_cancel_left, ih]
    simp [List.getD]
theorem co_set (d : α) (v : Value) (y : α) : ∀ (l : List α) (t i : Nat), t < l.length → i < m → f y = (f (l.getD t d)).set i v → (cellsOf f l).set (t * m + i) v = cellsOf f (l.set t y)
  | x :: r, 0, i, _, hi, hy => by
    have hl : i < (f x).length := by rw [hf]; exact hi
    have hy' : f y = (f x).set i v := hy
    show (f x ++ cellsOf f r).set (0 * m + i) v = f y ++ cellsOf f r
    rw [Nat.zero_mul, Nat.zero_add, hy', List.set_append_left _ _ hl]
  | x :: r, t + 1, i, h, hi, hy => by
    have ih := co_set d v y r t i (by simpa using h) hi (by simpa [List.getD] using hy)
    have e : (t + 1) * m + i = (f x).length + (t * m + i) := by rw [hf, Nat.add_mul]; omega
    show (f x ++ cellsOf f r).set ((t + 1) * m + i) v = f x ++ cellsOf f (r.set t y)
    rw [e, List.set_append_right _ _ (Nat.le_add_right _ _), Nat.add_sub_cancel_left, ih]
omit hf in
theorem co_append (a b : List α) : cellsOf f (a ++ b) = cellsOf f a ++ cellsOf f b := by
  induction a with
  | nil => rfl
  | cons x r ih => show f x ++ cellsOf f (r ++ b) = (f x ++ cellsOf f r) ++ cellsOf f b; rw [ih, List.append_assoc]
end Go.Proofs.Ytlkpfdboagjaoaa.Cells
