/- A word of 32 bits as its three parts. Plain Lean over the contracts' own words. -/
import Derived.Test.YtobodplkdojjdaaPack
namespace Go.Proofs.Ytobodplkdojjdaa.Pack
open Go

theorem parts4 (x : Int) (h0 : 0 ≤ x) (h1 : x < 4294967296) : ∃ (c : Int) (a b : Bool), 0 ≤ c ∧ c ≤ 1073741823 ∧ x = c * 4 + b2 a * 2 + b2 b := by
  refine ⟨x / 4, decide (x / 2 % 2 = 1), decide (x % 2 = 1), by omega, by omega, ?_⟩
  unfold b2
  by_cases p : x / 2 % 2 = 1 <;> by_cases q : x % 2 = 1 <;> simp [p, q] <;> omega
theorem b2_b (a : Bool) : 0 ≤ b2 a ∧ b2 a ≤ 1 := by cases a <;> decide
theorem b2_or (a : Bool) : b2 a = 0 ∨ b2 a = 1 := by cases a <;> decide
theorem clamp_in (c : Int) (h0 : 0 ≤ c) (h1 : c ≤ 1073741823) : clamp c = c := by unfold clamp; rw [if_neg (by omega), if_neg (by omega)]

end Go.Proofs.Ytobodplkdojjdaa.Pack
