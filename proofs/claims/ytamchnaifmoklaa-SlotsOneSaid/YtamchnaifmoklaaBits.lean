/- Bits of a word of 32 bits, in quotients and remainders. Plain Lean: no program in sight. -/
import Derived.Laws.BitsLemmas
import Derived.OpenShut
namespace Go.Proofs.Ytamchnaifmoklaa.Bits
open Go

theorem wraps_u32 (n : Int) (h0 : 0 ≤ n) (h1 : n < 2 ^ 32) : IntKind.u32.wrap n = n := by rw [IntKind.wrap_u32]; omega

theorem nat_and1 (a : Nat) : a &&& 1 = a % 2 := Nat.and_one_is_mod a
theorem nat_and2 (a : Nat) : a &&& 2 = 2 * (a / 2 % 2) := by
  have h1 : (a &&& 2) % 2 ^ 2 = (a % 2 ^ 2) &&& (2 % 2 ^ 2) := Nat.and_mod_two_pow
  have h2 : a &&& 2 ≤ 2 := Nat.and_le_right
  have h3 : a % 2 ^ 2 = 0 ∨ a % 2 ^ 2 = 1 ∨ a % 2 ^ 2 = 2 ∨ a % 2 ^ 2 = 3 := by omega
  rcases h3 with h | h | h | h <;> rw [h] at h1 <;> simp at h1 <;> omega
theorem nat_or1 (a : Nat) : a ||| 1 = a + 1 - a % 2 := by
  have h1 : (a ||| 1) % 2 ^ 1 = a % 2 ^ 1 ||| 1 % 2 ^ 1 := Nat.or_mod_two_pow
  have h2 : (a ||| 1) / 2 ^ 1 = a / 2 ^ 1 ||| 1 / 2 ^ 1 := Nat.or_div_two_pow
  have e1 : 1 / 2 ^ 1 = 0 := by decide
  rw [e1, Nat.or_zero] at h2
  have h3 : a % 2 ^ 1 = 0 ∨ a % 2 ^ 1 = 1 := by omega
  rcases h3 with h | h
  · rw [h, show 0 ||| 1 % 2 ^ 1 = 1 by decide] at h1; omega
  · rw [h, show 1 ||| 1 % 2 ^ 1 = 1 by decide] at h1; omega
theorem nat_or2 (a : Nat) : a ||| 2 = a + 2 - 2 * (a / 2 % 2) := by
  have h1 : (a ||| 2) % 2 ^ 2 = a % 2 ^ 2 ||| 2 % 2 ^ 2 := Nat.or_mod_two_pow
  have h2 : (a ||| 2) / 2 ^ 2 = a / 2 ^ 2 ||| 2 / 2 ^ 2 := Nat.or_div_two_pow
  have h3 : a % 2 ^ 2 = 0 ∨ a % 2 ^ 2 = 1 ∨ a % 2 ^ 2 = 2 ∨ a % 2 ^ 2 = 3 := by omega
  rcases h3 with h | h | h | h <;> rw [h] at h1 <;> simp at h1 h2 <;> omega
theorem nat_andNot2 (a : Nat) (h : a < 2 ^ 32) : a &&& 4294967293 = a - 2 * (a / 2 % 2) := by
  have h1 : (a &&& 4294967293) % 2 ^ 2 = (a % 2 ^ 2) &&& (4294967293 % 2 ^ 2) := Nat.and_mod_two_pow
  have h2 : (a &&& 4294967293) / 2 ^ 2 = a / 2 ^ 2 &&& 4294967293 / 2 ^ 2 := Nat.and_div_two_pow
  have h4 : a / 2 ^ 2 &&& 4294967293 / 2 ^ 2 = (a / 2 ^ 2) % 2 ^ 30 := by
    have := Nat.and_two_pow_sub_one_eq_mod (a / 2 ^ 2) 30
    simpa using this
  have h3 : a % 2 ^ 2 = 0 ∨ a % 2 ^ 2 = 1 ∨ a % 2 ^ 2 = 2 ∨ a % 2 ^ 2 = 3 := by omega
  rcases h3 with h | h | h | h <;> rw [h] at h1 <;> simp at h1 h2 h4 <;> omega

theorem and_u32 (x : Int) (m : Nat) (h0 : 0 ≤ x) (h1 : x < 2 ^ 32) (hm : m < 2 ^ 32) : bits .and .u32 x m = ((x.toNat &&& m : Nat) : Int) := by
  obtain ⟨a, rfl⟩ := Int.eq_ofNat_of_zero_le h0
  exact (bits_nat .u32 32 (by decide) wraps_u32 a m (by omega) hm).1
theorem or_u32 (x : Int) (m : Nat) (h0 : 0 ≤ x) (h1 : x < 2 ^ 32) (hm : m < 2 ^ 32) : bits .or .u32 x m = ((x.toNat ||| m : Nat) : Int) := by
  obtain ⟨a, rfl⟩ := Int.eq_ofNat_of_zero_le h0
  exact (bits_nat .u32 32 (by decide) wraps_u32 a m (by omega) hm).2

theorem and1 (x : Int) (h0 : 0 ≤ x) (h1 : x < 4294967296) : bits .and .u32 x 1 = x % 2 := by
  have := and_u32 x 1 h0 (by omega) (by decide)
  rw [nat_and1] at this
  rw [show (1 : Int) = ((1 : Nat) : Int) from rfl, this]; omega
theorem and2 (x : Int) (h0 : 0 ≤ x) (h1 : x < 4294967296) : bits .and .u32 x 2 = 2 * (x / 2 % 2) := by
  have := and_u32 x 2 h0 (by omega) (by decide)
  rw [nat_and2] at this
  rw [show bits .and .u32 x 2 = bits .and .u32 x ((2 : Nat) : Int) from rfl, this]; omega
theorem or1 (x : Int) (h0 : 0 ≤ x) (h1 : x < 4294967296) : bits .or .u32 x 1 = x + 1 - x % 2 := by
  have := or_u32 x 1 h0 (by omega) (by decide)
  rw [nat_or1] at this
  rw [show bits .or .u32 x 1 = bits .or .u32 x ((1 : Nat) : Int) from rfl, this]; omega
theorem or2 (x : Int) (h0 : 0 ≤ x) (h1 : x < 4294967296) : bits .or .u32 x 2 = x + 2 - 2 * (x / 2 % 2) := by
  have := or_u32 x 2 h0 (by omega) (by decide)
  rw [nat_or2] at this
  rw [show bits .or .u32 x 2 = bits .or .u32 x ((2 : Nat) : Int) from rfl, this]; omega
theorem andNot2 (x : Int) (h0 : 0 ≤ x) (h1 : x < 4294967296) : bits .andNot .u32 x 2 = x - 2 * (x / 2 % 2) := by
  obtain ⟨a, rfl⟩ := Int.eq_ofNat_of_zero_le h0
  have ha : a < 2 ^ 32 := by omega
  have e : bits .andNot .u32 (a : Int) 2 = IntKind.u32.wrap (((a &&& 4294967293 : Nat)) : Int) := by
    unfold bits
    simp only [BitVec.ofInt_natCast]
    congr 2
    rw [BitVec.toNat_and]
    have e1 : (BitVec.ofNat IntKind.u32.bits a).toNat = a := by rw [BitVec.toNat_ofNat]; exact Nat.mod_eq_of_lt ha
    have e2 : (~~~ (BitVec.ofInt IntKind.u32.bits 2)).toNat = 4294967293 := by decide
    rw [e1, e2]
  rw [e, nat_andNot2 a ha, wraps_u32 _ (by omega) (by omega)]; omega

/-- A mask of low bits. -/
theorem mask (x : Int) (i : Nat) (hi : i ≤ 32) (h0 : 0 ≤ x) (h1 : x < 4294967296) : bits .and .u32 x (2 ^ i - 1) = x % 2 ^ i :=
  bits_mask .u32 32 (by decide) wraps_u32 i hi x h0 (by omega)

end Go.Proofs.Ytamchnaifmoklaa.Bits
