/- Package pack, and the document's answer for it: what each function returns. -/
import Derived.Test.YtobodplkdojjdaaProg
import Derived.Test.YtobodplkdojjdaaBits
import Derived.WalkKit
import Derived.BigQuiet
import Derived.Lib.Hide
import Derived.Deep.QuietTactic
namespace Go.Proofs.Ytobodplkdojjdaa.Pack
open Go Go.RowKit Go.Proofs.Ytobodplkdojjdaa.Bits

theorem ret_bool {a b : Bool} (h : a = b) : Ending.returned (.bool a) = .returned (.bool b) := by rw [h]
theorem ret_int {k : IntKind} {a b : Int} (h : a = b) : Ending.returned (.int k a) = .returned (.int k b) := by rw [h]

def clamp (c : Int) : Int := if c < 0 then 0 else if 1073741823 < c then 1073741823 else c
theorem clamp_b (c : Int) : 0 ≤ clamp c ∧ clamp c ≤ 1073741823 := by unfold clamp; (repeat' split) <;> omega
def b2 (a : Bool) : Int := if a then 1 else 0

set_option maxHeartbeats 1000000 in
theorem pack_to (c : Int) (a b : Bool) (w : World) (r : Int) (hr : r = clamp c * 4 + b2 a * 2 + b2 b) : Calls Try.prog 9 #[.int .i64 c, .bool a, .bool b] w fun e w' => e = .returned (.int .u32 r) ∧ w = w' := by
  have hm := clamp_b c
  obtain ⟨m, hm'⟩ : ∃ m, clamp c = m := ⟨_, rfl⟩
  rw [hm'] at hm hr
  have o1 : bits .or .u32 (m * 4) 1 = m * 4 + 1 := by rw [or1 _ (by omega) (by omega)]; omega
  have o2 : bits .or .u32 (m * 4) 2 = m * 4 + 2 := by rw [or2 _ (by omega) (by omega)]; omega
  have o3 : bits .or .u32 (m * 4 + 2) 1 = m * 4 + 3 := by rw [or1 _ (by omega) (by omega)]; omega
  have HR := Lib.hid hr
  clear hr
  have e1 : IntKind.u32.wrap m = m := wraps_u32 _ (by omega) (by omega)
  have e2 : IntKind.u32.wrap (m * 4) = m * 4 := wraps_u32 _ (by omega) (by omega)
  have hcase : (c < 0 ∧ m = 0) ∨ (1073741823 < c ∧ m = 1073741823) ∨ (0 ≤ c ∧ c ≤ 1073741823 ∧ m = c) := by
    unfold clamp at hm'
    by_cases c1 : c < 0
    · rw [if_pos c1] at hm'; omega
    · rw [if_neg c1] at hm'
      by_cases c2 : 1073741823 < c
      · rw [if_pos c2] at hm'; omega
      · rw [if_neg c2] at hm'; omega
  clear hm'
  rcases hcase with ⟨c1, rfl⟩ | ⟨c1, rfl⟩ | ⟨c1, c2, rfl⟩
  all_goals
    cases a <;> cases b
    all_goals
      go_enter Try.func9, Try.ntmps9
      go_wp2
      go_ret
      exact ⟨ret_int (by rw [HR.out]; first | decide +kernel | (simp [b2]; done) | (simp [b2]; omega)), rfl⟩

theorem cluster_to (x : Int) (w : World) (r : Int) (h0 : 0 ≤ x) (h1 : x < 4294967296) (hr : r = x / 4) : Calls Try.prog 13 #[.int .u32 x] w fun e w' => e = .returned (.int .i64 r) ∧ w = w' := by
  have HR := Lib.hid hr
  clear hr
  go_enter Try.func13, Try.ntmps13
  go_wp2
  go_ret
  exact ⟨ret_int (by rw [HR.out]), rfl⟩
theorem waits_to (x : Int) (w : World) (r : Bool) (h0 : 0 ≤ x) (h1 : x < 4294967296) (hr : b2 r = x / 2 % 2) : Calls Try.prog 14 #[.int .u32 x] w fun e w' => e = .returned (.bool r) ∧ w = w' := by
  have HR : Hid ((bits .and .u32 x 2 != 0) = r) := by
    rw [and2 x h0 h1]; unfold Hid; cases r <;> simp [b2] at hr ⊢ <;> omega
  clear hr
  go_enter Try.func14, Try.ntmps14
  go_wp2
  go_ret
  exact ⟨ret_bool (by rw [← HR.out]), rfl⟩
theorem spliced_to (x : Int) (w : World) (r : Bool) (h0 : 0 ≤ x) (h1 : x < 4294967296) (hr : b2 r = x % 2) : Calls Try.prog 15 #[.int .u32 x] w fun e w' => e = .returned (.bool r) ∧ w = w' := by
  have HR : Hid ((bits .and .u32 x 1 != 0) = r) := by
    rw [and1 x h0 h1]; unfold Hid; cases r <;> simp [b2] at hr ⊢ <;> omega
  clear hr
  go_enter Try.func15, Try.ntmps15
  go_wp2
  go_ret
  exact ⟨ret_bool (by rw [← HR.out]), rfl⟩
theorem free_to (x : Int) (w : World) (r : Int) (h0 : 0 ≤ x) (h1 : x < 4294967296) (hr : r = x - 2 * (x / 2 % 2)) : Calls Try.prog 17 #[.int .u32 x] w fun e w' => e = .returned (.int .u32 r) ∧ w = w' := by
  have HR : Hid (bits .andNot .u32 x 2 = r) := by rw [andNot2 x h0 h1]; exact hr.symm
  clear hr
  go_enter Try.func17, Try.ntmps17
  go_wp2
  go_ret
  exact ⟨ret_int (by rw [← HR.out]), rfl⟩
theorem splice_to (x : Int) (w : World) (r : Int) (h0 : 0 ≤ x) (h1 : x < 4294967296) (hr : r = x + 1 - x % 2) : Calls Try.prog 18 #[.int .u32 x] w fun e w' => e = .returned (.int .u32 r) ∧ w = w' := by
  have HR : Hid (bits .or .u32 x 1 = r) := by rw [or1 x h0 h1]; exact hr.symm
  clear hr
  go_enter Try.func18, Try.ntmps18
  go_wp2
  go_ret
  exact ⟨ret_int (by rw [← HR.out]), rfl⟩

theorem one_to (a : Bool) (w : World) : Calls Try.prog 11 #[.bool a] w fun e w' => e = .returned (.int .i64 (b2 a)) ∧ w = w' := by
  cases a
  all_goals
    go_enter Try.func11, Try.ntmps11
    go_wp2
    go_ret
    exact ⟨rfl, rfl⟩
set_option maxHeartbeats 1000000 in
theorem word_to (c : Int) (x y : Int) (hx : x = 0 ∨ x = 1) (hy : y = 0 ∨ y = 1) (w : World) (r : Int) (hr : r = clamp c * 4 + x * 2 + y) : Calls Try.prog 10 #[.int .i64 c, .int .i64 x, .int .i64 y] w fun e w' => e = .returned (.int .u32 r) ∧ w = w' := by
  have hcase : (c < 0 ∧ clamp c = 0) ∨ (1073741823 < c ∧ clamp c = 1073741823) ∨ (0 ≤ c ∧ c ≤ 1073741823 ∧ clamp c = c) := by
    unfold clamp; (repeat' split) <;> omega
  have e1 : ∀ z : Int, 0 ≤ z → z ≤ 4294967295 → IntKind.u32.wrap z = z := fun z a b => wraps_u32 z a (by omega)
  have HE := Lib.hid e1
  clear e1
  rcases hcase with ⟨c1, e⟩ | ⟨c1, e⟩ | ⟨c1, c2, e⟩ <;> rcases hx with rfl | rfl <;> rcases hy with rfl | rfl
  all_goals
    rw [e] at hr
    clear e
    have HR := Lib.hid hr
    clear hr
    go_enter Try.func10, Try.ntmps10
    go_wp2
    all_goals
      go_ret
      exact ⟨ret_int (by rw [HR.out]; first | decide +kernel | (show IntKind.u32.wrap _ = _; rw [HE.out _ (by omega) (by omega)]; omega) | (show _ = _; omega)), rfl⟩
theorem parts_to (x : Int) (w : World) (h0 : 0 ≤ x) (h1 : x < 4294967296) (a b c : Int) (ha : a = x / 4) (hb : b = x / 2 % 2) (hc : c = x % 2) :
    Calls Try.prog 12 #[.int .u32 x] w fun e w' => e = .returned (.tuple #[.int .i64 a, .int .i64 b, .int .i64 c]) ∧ w = w' := by
  have HA := Lib.hid ha; have HB := Lib.hid hb; have HC := Lib.hid hc
  clear ha hb hc
  go_enter Try.func12, Try.ntmps12
  go_wp2
  go_ret3
  rw [HA.out, HB.out, HC.out]
  exact ⟨rfl, rfl⟩
theorem awake (w : World) : Calls Try.prog 16 #[] w fun e w' => e = .returned (.bool true) ∧ w = w' := by
  go_enter Try.func16, Try.ntmps16
  go_wp2_with (go_at_call 9; refine (pack_to _ _ _ _ 14 (by decide)).mono ?_; rintro e w' ⟨rfl, rfl⟩)
  go_ret
  exact ⟨rfl, rfl⟩
end Go.Proofs.Ytobodplkdojjdaa.Pack
