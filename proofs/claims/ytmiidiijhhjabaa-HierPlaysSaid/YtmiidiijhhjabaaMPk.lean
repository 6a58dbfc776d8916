/- Bits of a word of 32 bits, in quotients and remainders. Plain Lean: no program in sight. -/
import Derived.Laws.BitsLemmas
import Derived.OpenShut
import Derived.Test.YtmiidiijhhjabaaProg
import Derived.WalkKit
import Derived.BigQuiet
import Derived.Lib.Hide
import Derived.Deep.QuietTactic
namespace Go.Proofs.Ytmiidiijhhjabaa.Bits
open Go

theorem wraps_u32 (n : Int) (h0 : 0 ≤ n) (h1 : n < 2 ^ 32) : IntKind.u32.wrap n = n := by rw [IntKind.wrap_u32]; omega

theorem nat_and1 (a : Nat) : a &&& 1 = a % 2 := Nat.and_one_is_mod a
theorem nat_and2 (a : Nat) : a &&& 2 = 2 * (a / 2 % 2) := by
  have h1 : (a &&& 2) % 2 ^ 2 = (a % 2 ^ 2) &&& (2 % 2 ^ 2) := Nat.and_mod_two_pow
  have h2 : a &&& 2 ≤ 2 := Nat.and_le_right
  have h3 : a % 2 ^ 2 = 0 ∨ a % 2 ^ 2 = 1 ∨ a % 2 ^ 2 = 2 ∨ a % 2 ^ 2 = 3 := by omega
  rcases h3 with h | h | h | h <;> rw [h] at h1 <;> simp at h1 <;> omega
theorem nat_or1 (a : Nat) : a ||| 1 = a + 1 - a % 2 := by
  have h1 : (a ||| 1) % 2 ^ 1 = a % 2 ^ 1 ||| 1 % 2 ^ 1 := Nat.or_mod_two_pow
  have h2 : (a ||| 1) / 2 ^ 1 = a / 2 ^ 1 ||| 1 / 2 ^ 1 := Nat.or_div_two_pow
  have e1 : 1 / 2 ^ 1 = 0 := by decide
  rw [e1, Nat.or_zero] at h2
  have h3 : a % 2 ^ 1 = 0 ∨ a % 2 ^ 1 = 1 := by omega
  rcases h3 with h | h
  · rw [h, show 0 ||| 1 % 2 ^ 1 = 1 by decide] at h1; omega
  · rw [h, show 1 ||| 1 % 2 ^ 1 = 1 by decide] at h1; omega
theorem nat_or2 (a : Nat) : a ||| 2 = a + 2 - 2 * (a / 2 % 2) := by
  have h1 : (a ||| 2) % 2 ^ 2 = a % 2 ^ 2 ||| 2 % 2 ^ 2 := Nat.or_mod_two_pow
  have h2 : (a ||| 2) / 2 ^ 2 = a / 2 ^ 2 ||| 2 / 2 ^ 2 := Nat.or_div_two_pow
  have h3 : a % 2 ^ 2 = 0 ∨ a % 2 ^ 2 = 1 ∨ a % 2 ^ 2 = 2 ∨ a % 2 ^ 2 = 3 := by omega
  rcases h3 with h | h | h | h <;> rw [h] at h1 <;> simp at h1 h2 <;> omega
theorem nat_andNot2 (a : Nat) (h : a < 2 ^ 32) : a &&& 4294967293 = a - 2 * (a / 2 % 2) := by
  have h1 : (a &&& 4294967293) % 2 ^ 2 = (a % 2 ^ 2) &&& (4294967293 % 2 ^ 2) := Nat.and_mod_two_pow
  have h2 : (a &&& 4294967293) / 2 ^ 2 = a / 2 ^ 2 &&& 4294967293 / 2 ^ 2 := Nat.and_div_two_pow
  have h4 : a / 2 ^ 2 &&& 4294967293 / 2 ^ 2 = (a / 2 ^ 2) % 2 ^ 30 := by
    have := Nat.and_two_pow_sub_one_eq_mod (a / 2 ^ 2) 30
    simpa using this
  have h3 : a % 2 ^ 2 = 0 ∨ a % 2 ^ 2 = 1 ∨ a % 2 ^ 2 = 2 ∨ a % 2 ^ 2 = 3 := by omega
  rcases h3 with h | h | h | h <;> rw [h] at h1 <;> simp at h1 h2 h4 <;> omega

theorem and_u32 (x : Int) (m : Nat) (h0 : 0 ≤ x) (h1 : x < 2 ^ 32) (hm : m < 2 ^ 32) : bits .and .u32 x m = ((x.toNat &&& m : Nat) : Int) := by
  obtain ⟨a, rfl⟩ := Int.eq_ofNat_of_zero_le h0
  exact (bits_nat .u32 32 (by decide) wraps_u32 a m (by omega) hm).1
theorem or_u32 (x : Int) (m : Nat) (h0 : 0 ≤ x) (h1 : x < 2 ^ 32) (hm : m < 2 ^ 32) : bits .or .u32 x m = ((x.toNat ||| m : Nat) : Int) := by
  obtain ⟨a, rfl⟩ := Int.eq_ofNat_of_zero_le h0
  exact (bits_nat .u32 32 (by decide) wraps_u32 a m (by omega) hm).2

theorem and1 (x : Int) (h0 : 0 ≤ x) (h1 : x < 4294967296) : bits .and .u32 x 1 = x % 2 := by
  have := and_u32 x 1 h0 (by omega) (by decide)
  rw [nat_and1] at this
  rw [show (1 : Int) = ((1 : Nat) : Int) from rfl, this]; omega
theorem and2 (x : Int) (h0 : 0 ≤ x) (h1 : x < 4294967296) : bits .and .u32 x 2 = 2 * (x / 2 % 2) := by
  have := and_u32 x 2 h0 (by omega) (by decide)
  rw [nat_and2] at this
  rw [show bits .and .u32 x 2 = bits .and .u32 x ((2 : Nat) : Int) from rfl, this]; omega
theorem or1 (x : Int) (h0 : 0 ≤ x) (h1 : x < 4294967296) : bits .or .u32 x 1 = x + 1 - x % 2 := by
  have := or_u32 x 1 h0 (by omega) (by decide)
  rw [nat_or1] at this
  rw [show bits .or .u32 x 1 = bits .or .u32 x ((1 : Nat) : Int) from rfl, this]; omega
theorem or2 (x : Int) (h0 : 0 ≤ x) (h1 : x < 4294967296) : bits .or .u32 x 2 = x + 2 - 2 * (x / 2 % 2) := by
  have := or_u32 x 2 h0 (by omega) (by decide)
  rw [nat_or2] at this
  rw [show bits .or .u32 x 2 = bits .or .u32 x ((2 : Nat) : Int) from rfl, this]; omega
theorem andNot2 (x : Int) (h0 : 0 ≤ x) (h1 : x < 4294967296) : bits .andNot .u32 x 2 = x - 2 * (x / 2 % 2) := by
  obtain ⟨a, rfl⟩ := Int.eq_ofNat_of_zero_le h0
  have ha : a < 2 ^ 32 := by omega
  have e : bits .andNot .u32 (a : Int) 2 = IntKind.u32.wrap (((a &&& 4294967293 : Nat)) : Int) := by
    unfold bits
    simp only [BitVec.ofInt_natCast]
    congr 2
    rw [BitVec.toNat_and]
    have e1 : (BitVec.ofNat IntKind.u32.bits a).toNat = a := by rw [BitVec.toNat_ofNat]; exact Nat.mod_eq_of_lt ha
    have e2 : (~~~ (BitVec.ofInt IntKind.u32.bits 2)).toNat = 4294967293 := by decide
    rw [e1, e2]
  rw [e, nat_andNot2 a ha, wraps_u32 _ (by omega) (by omega)]; omega

/-- A mask of low bits. -/
theorem mask (x : Int) (i : Nat) (hi : i ≤ 32) (h0 : 0 ≤ x) (h1 : x < 4294967296) : bits .and .u32 x (2 ^ i - 1) = x % 2 ^ i :=
  bits_mask .u32 32 (by decide) wraps_u32 i hi x h0 (by omega)

end Go.Proofs.Ytmiidiijhhjabaa.Bits

namespace Go.Proofs.Ytmiidiijhhjabaa.Pack
open Go Go.RowKit Go.Proofs.Ytmiidiijhhjabaa.Bits

theorem ret_bool {a b : Bool} (h : a = b) : Ending.returned (.bool a) = .returned (.bool b) := by rw [h]
theorem ret_int {k : IntKind} {a b : Int} (h : a = b) : Ending.returned (.int k a) = .returned (.int k b) := by rw [h]

def clamp (c : Int) : Int := if c < 0 then 0 else if 1073741823 < c then 1073741823 else c
theorem clamp_b (c : Int) : 0 ≤ clamp c ∧ clamp c ≤ 1073741823 := by unfold clamp; (repeat' split) <;> omega
def b2 (a : Bool) : Int := if a then 1 else 0

set_option maxHeartbeats 1000000 in
theorem pack_to (c : Int) (a b : Bool) (w : World) (r : Int) (hr : r = clamp c * 4 + b2 a * 2 + b2 b) : Calls Try.prog 33 #[.int .i64 c, .bool a, .bool b] w fun e w' => e = .returned (.int .u32 r) ∧ w = w' := by
  have hm := clamp_b c
  obtain ⟨m, hm'⟩ : ∃ m, clamp c = m := ⟨_, rfl⟩
  rw [hm'] at hm hr
  have o1 : bits .or .u32 (m * 4) 1 = m * 4 + 1 := by rw [or1 _ (by omega) (by omega)]; omega
  have o2 : bits .or .u32 (m * 4) 2 = m * 4 + 2 := by rw [or2 _ (by omega) (by omega)]; omega
  have o3 : bits .or .u32 (m * 4 + 2) 1 = m * 4 + 3 := by rw [or1 _ (by omega) (by omega)]; omega
  have HR := Lib.hid hr
  clear hr
  have e1 : IntKind.u32.wrap m = m := wraps_u32 _ (by omega) (by omega)
  have e2 : IntKind.u32.wrap (m * 4) = m * 4 := wraps_u32 _ (by omega) (by omega)
  have hcase : (c < 0 ∧ m = 0) ∨ (1073741823 < c ∧ m = 1073741823) ∨ (0 ≤ c ∧ c ≤ 1073741823 ∧ m = c) := by
    unfold clamp at hm'
    by_cases c1 : c < 0
    · rw [if_pos c1] at hm'; omega
    · rw [if_neg c1] at hm'
      by_cases c2 : 1073741823 < c
      · rw [if_pos c2] at hm'; omega
      · rw [if_neg c2] at hm'; omega
  clear hm'
  rcases hcase with ⟨c1, rfl⟩ | ⟨c1, rfl⟩ | ⟨c1, c2, rfl⟩
  all_goals
    cases a <;> cases b
    all_goals
      go_enter Try.func33, Try.ntmps33
      go_wp2
      go_ret
      exact ⟨ret_int (by rw [HR.out]; first | decide +kernel | (simp [b2]; done) | (simp [b2]; omega)), rfl⟩

theorem cluster_to (x : Int) (w : World) (r : Int) (h0 : 0 ≤ x) (h1 : x < 4294967296) (hr : r = x / 4) : Calls Try.prog 53 #[.int .u32 x] w fun e w' => e = .returned (.int .i64 r) ∧ w = w' := by
  have HR := Lib.hid hr
  clear hr
  go_enter Try.func53, Try.ntmps53
  go_wp2
  go_ret
  exact ⟨ret_int (by rw [HR.out]), rfl⟩
theorem waits_to (x : Int) (w : World) (r : Bool) (h0 : 0 ≤ x) (h1 : x < 4294967296) (hr : b2 r = x / 2 % 2) : Calls Try.prog 55 #[.int .u32 x] w fun e w' => e = .returned (.bool r) ∧ w = w' := by
  have HR : Hid ((bits .and .u32 x 2 != 0) = r) := by
    rw [and2 x h0 h1]; unfold Hid; cases r <;> simp [b2] at hr ⊢ <;> omega
  clear hr
  go_enter Try.func55, Try.ntmps55
  go_wp2
  go_ret
  exact ⟨ret_bool (by rw [← HR.out]), rfl⟩
theorem spliced_to (x : Int) (w : World) (r : Bool) (h0 : 0 ≤ x) (h1 : x < 4294967296) (hr : b2 r = x % 2) : Calls Try.prog 54 #[.int .u32 x] w fun e w' => e = .returned (.bool r) ∧ w = w' := by
  have HR : Hid ((bits .and .u32 x 1 != 0) = r) := by
    rw [and1 x h0 h1]; unfold Hid; cases r <;> simp [b2] at hr ⊢ <;> omega
  clear hr
  go_enter Try.func54, Try.ntmps54
  go_wp2
  go_ret
  exact ⟨ret_bool (by rw [← HR.out]), rfl⟩
theorem free_to (x : Int) (w : World) (r : Int) (h0 : 0 ≤ x) (h1 : x < 4294967296) (hr : r = x - 2 * (x / 2 % 2)) : Calls Try.prog 59 #[.int .u32 x] w fun e w' => e = .returned (.int .u32 r) ∧ w = w' := by
  have HR : Hid (bits .andNot .u32 x 2 = r) := by rw [andNot2 x h0 h1]; exact hr.symm
  clear hr
  go_enter Try.func59, Try.ntmps59
  go_wp2
  go_ret
  exact ⟨ret_int (by rw [← HR.out]), rfl⟩
theorem splice_to (x : Int) (w : World) (r : Int) (h0 : 0 ≤ x) (h1 : x < 4294967296) (hr : r = x + 1 - x % 2) : Calls Try.prog 58 #[.int .u32 x] w fun e w' => e = .returned (.int .u32 r) ∧ w = w' := by
  have HR : Hid (bits .or .u32 x 1 = r) := by rw [or1 x h0 h1]; exact hr.symm
  clear hr
  go_enter Try.func58, Try.ntmps58
  go_wp2
  go_ret
  exact ⟨ret_int (by rw [← HR.out]), rfl⟩

end Go.Proofs.Ytmiidiijhhjabaa.Pack
