/- Layer 6 (pool): the laws' own helper, walked; what taking by turns does. -/
import Derived.Test.YtnmldhagdgghoaaPool5
namespace Go.Proofs.Ytnmldhagdgghoaa.Law06
open Go Go.RowKit Go.Proofs.Ytnmldhagdgghoaa.Heap Go.Proofs.Ytnmldhagdgghoaa.Open Go.Proofs.Ytnmldhagdgghoaa.Sl Go.Proofs.Ytnmldhagdgghoaa.Pool

/-- What is out: of so many nodes those of which f tells it. -/
def outs (nk : Nat) (f : Nat → Bool) : List Bool := (List.range (1 + nk)).map f
theorem outs_len (nk : Nat) (f : Nat → Bool) : (outs nk f).length = 1 + nk := by simp [outs]
theorem outs_get (nk : Nat) (f : Nat → Bool) (i : Nat) (h : i < 1 + nk) : (outs nk f).getD i false = f i := by simp [outs, List.getD, h]
theorem outs_congr (nk : Nat) (f g : Nat → Bool) (h : ∀ i, i < 1 + nk → f i = g i) : outs nk f = outs nk g := by
  unfold outs
  apply List.map_congr_left
  intro i hi
  exact h i (by simpa using hi)
theorem outs_set (nk : Nat) (f : Nat → Bool) (i : Nat) (b : Bool) : (outs nk f).set i b = outs nk (fun j => if j = i then b else f j) := by
  unfold outs
  apply List.ext_getElem
  · simp
  · intro j h1 h2
    by_cases e : i = j
    · subst e; simp
    · rw [List.getElem_set_ne e]; simp [Ne.symm e]
theorem outs_none (nk : Nat) : List.replicate (1 + nk) false = outs nk (fun _ => false) := by
  apply List.ext_getElem
  · simp [outs]
  · intro j h1 h2; simp [outs]
/-- The first m nodes are out. -/
def outA (nk m : Nat) : List Bool := outs nk fun i => decide (1 ≤ i ∧ i ≤ m)
/-- All but the first m are. -/
def outB (nk m : Nat) : List Bool := outs nk fun i => decide (m < i)
theorem outA_none (nk : Nat) : List.replicate (1 + nk) false = outA nk 0 := by
  rw [outs_none]; exact outs_congr _ _ _ fun i _ => by simp; omega
theorem outA_all (nk : Nat) : outA nk nk = outB nk 0 := outs_congr _ _ _ fun i hi => decide_eq_decide.2 (by omega)
theorem outB_all (nk : Nat) : outB nk nk = outA nk 0 := outs_congr _ _ _ fun i hi => decide_eq_decide.2 (by omega)
theorem rowOf_new (n k t : Nat) (ht : t < n) : rowOf (newRows n k (n * k)) (t : Int) = (List.range k).map fun j => ((t * k + j + 1 : Nat) : Int) := by
  unfold rowOf
  rw [if_pos ⟨by omega, by rw [newRows_len]; omega⟩, Int.toNat_natCast, newRows_row n k _ t ht]
  have : (t + 1) * k ≤ n * k := Nat.mul_le_mul_right _ ht
  rw [Nat.add_mul] at this
  rw [show min k (n * k - t * k) = k by omega]
theorem take_skip (out : List Bool) (xs : List Int) (j : Nat) (hj : j ≤ xs.length) (h : ∀ i, i < j → out.getD (xs.getD i 0).toNat false = true) : take out xs = take out (xs.drop j) := by
  induction j with
  | zero => rfl
  | succ j ih => rw [ih (by omega) (fun i hi => h i (by omega)), take_drop out xs j (by omega) (h j (by omega))]
theorem row_get (k t i : Nat) (h : i < k) : ((List.range k).map fun j => ((t * k + j + 1 : Nat) : Int)).getD i 0 = ((t * k + i + 1 : Nat) : Int) := by simp [List.getD, h]
theorem take_next (n k t j : Nat) (ht : t < n) (hj : j < k) : take (outA (n * k) (t * k + j)) (rowOf (newRows n k (n * k)) (t : Int)) = ((((t * k + j + 1 : Nat) : Int), 0), outA (n * k) (t * k + j + 1)) := by
  have hle : (t + 1) * k ≤ n * k := Nat.mul_le_mul_right _ ht
  rw [Nat.add_mul] at hle
  rw [rowOf_new n k t ht, take_skip _ _ j (by simp; omega) (fun i hi => by
    rw [row_get k t i (by omega), Int.toNat_natCast]; unfold outA; rw [outs_get _ _ _ (by omega)]; simp; omega)]
  rw [take_free _ _ j (by simpa using hj) (by rw [row_get k t j hj, Int.toNat_natCast]; unfold outA; rw [outs_get _ _ _ (by omega)]; simp), row_get k t j hj, Int.toNat_natCast]
  unfold outA
  rw [outs_set]
  congr 1
  exact outs_congr _ _ _ fun i _ => by
    by_cases e : i = t * k + j + 1
    · rw [if_pos e]; simp; omega
    · rw [if_neg e, decide_eq_decide]; omega
theorem take_full (n k t : Nat) (ht : t < n) : take (outA (n * k) (t * k + k)) (rowOf (newRows n k (n * k)) (t : Int)) = ((0, 6), outA (n * k) (t * k + k)) := by
  have hle : (t + 1) * k ≤ n * k := Nat.mul_le_mul_right _ ht
  rw [Nat.add_mul] at hle
  rw [rowOf_new n k t ht, take_skip _ _ k (by simp) (fun i hi => by
    rw [row_get k t i (by omega), Int.toNat_natCast]; unfold outA; rw [outs_get _ _ _ (by omega)]; simp; omega), List.drop_of_length_le (by simp)]
  rfl
theorem whose_new (n k t j : Nat) (ht : t < n) (hj : j < k) : whose (newRows n k (n * k)) ((t * k + j + 1 : Nat) : Int) = t := by
  have g : ∀ u, u < n → (newRows n k (n * k)).getD u [] = (List.range k).map fun j => ((u * k + j + 1 : Nat) : Int) := fun u hu => by
    have := rowOf_new n k u hu
    unfold rowOf at this
    rw [if_pos ⟨by omega, by rw [newRows_len]; omega⟩, Int.toNat_natCast] at this
    exact this
  refine whose_hit _ _ t (fun u hu => ?_) (by rw [newRows_len]; exact ht) ?_
  · rw [g u (by omega)]
    rw [Bool.eq_false_iff]
    intro h
    have h := List.contains_iff_mem.1 h
    obtain ⟨i, hi, e⟩ := List.mem_map.1 h
    simp at hi
    have hle : (u + 1) * k ≤ t * k := Nat.mul_le_mul_right _ hu
    rw [Nat.add_mul] at hle
    omega
  · rw [g t ht]
    exact List.contains_iff_mem.2 (List.mem_map.2 ⟨j, by simpa using hj, rfl⟩)
theorem isOut_next (nk m : Nat) (h : m < nk) : isOut (outA nk (m + 1)) ((m + 1 : Nat) : Int) = true := by
  unfold isOut
  rw [isNode_mk (by omega) (by unfold outA; rw [outs_len]; omega), Int.toNat_natCast]
  unfold outA
  rw [outs_get _ _ _ (by omega)]; simp
theorem back_next (nk m : Nat) (h : m < nk) : back (outB nk m) ((m + 1 : Nat) : Int) = (0, outB nk (m + 1)) := by
  unfold back
  rw [if_pos (isNode_mk (by omega) (by unfold outB; rw [outs_len]; omega)), Int.toNat_natCast, if_pos (by unfold outB; rw [outs_get _ _ _ (by omega)]; simp)]
  unfold outB
  rw [outs_set]
  congr 1
  exact outs_congr _ _ _ fun i _ => by
    by_cases e : i = m + 1
    · rw [if_pos e]; simp; omega
    · rw [if_neg e, decide_eq_decide]; omega
theorem isOut_back (nk m : Nat) (h : m < nk) : isOut (outB nk (m + 1)) ((m + 1 : Nat) : Int) = false := by
  unfold isOut
  rw [isNode_mk (by omega) (by unfold outB; rw [outs_len]; omega), Int.toNat_natCast]
  unfold outB
  rw [outs_get _ _ _ (by omega)]; simp

set_option maxHeartbeats 1000000 in
theorem awake (w : World) : Calls Try.prog 12 #[] w fun e w' => e = .returned (.bool true) ∧ Below w.heap.size w w' := by
  go_enter Try.func12, Try.ntmps12
  go_wp2_with fail
  refine (new_yes _ 2 2 (by omega) (by omega) (by omega) (by omega)).mono ?_
  rintro e w1 ⟨p, rfl, hO, hB⟩
  go_wp2_with fail
  refine (row_all _ _ _ _ _ hO 1).mono ?_
  rintro e w2 ⟨v, rfl, ho, hB2⟩
  have hO2 := hO.below hB2
  have hB3 := hB.trans (hB2.mono hB.size)
  rw [show rowOf (newRows 2 2 (2 * 2)) 1 = [3, 4] by decide +kernel] at ho
  obtain ⟨g, cap, rfl, _, hr⟩ := owned ho (by decide)
  have c0 := hr.cell (i := 0) rfl
  have c1 := hr.cell (i := 1) rfl
  have LL := len_all _ _ _ _ _ hO2
  rw [show (((List.replicate (1 + 2 * 2) false).length : Nat) : Int) - 1 = 4 by decide +kernel] at LL
  have HL := Lib.hid LL
  clear LL ho hr hB2 hO hB
  go_wp2_with (go_at_call 11; refine HL.out.mono ?_; rintro e w3 ⟨rfl, rfl⟩)
  go_ret
  exact ⟨rfl, hB3⟩
end Go.Proofs.Ytnmldhagdgghoaa.Law06
