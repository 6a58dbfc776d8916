/- The document's Word and Parts, by value. -/
import Derived.Test.YtmiidiijhhjabaaMPk
namespace Go.Proofs.Ytmiidiijhhjabaa.Pack
open Go Go.RowKit Go.Proofs.Ytmiidiijhhjabaa.Bits
set_option maxHeartbeats 1000000 in
theorem word_to (c : Int) (x y : Int) (hx : x = 0 ∨ x = 1) (hy : y = 0 ∨ y = 1) (w : World) (r : Int) (hr : r = clamp c * 4 + x * 2 + y) : Calls Try.prog 46 #[.int .i64 c, .int .i64 x, .int .i64 y] w fun e w' => e = .returned (.int .u32 r) ∧ w = w' := by
  have hcase : (c < 0 ∧ clamp c = 0) ∨ (1073741823 < c ∧ clamp c = 1073741823) ∨ (0 ≤ c ∧ c ≤ 1073741823 ∧ clamp c = c) := by
    unfold clamp; (repeat' split) <;> omega
  have e1 : ∀ z : Int, 0 ≤ z → z ≤ 4294967295 → IntKind.u32.wrap z = z := fun z a b => wraps_u32 z a (by omega)
  have HE := Lib.hid e1
  clear e1
  rcases hcase with ⟨c1, e⟩ | ⟨c1, e⟩ | ⟨c1, c2, e⟩ <;> rcases hx with rfl | rfl <;> rcases hy with rfl | rfl
  all_goals
    rw [e] at hr
    clear e
    have HR := Lib.hid hr
    clear hr
    go_enter Try.func46, Try.ntmps46
    go_wp2
    all_goals
      go_ret
      exact ⟨ret_int (by rw [HR.out]; first | decide +kernel | (show IntKind.u32.wrap _ = _; rw [HE.out _ (by omega) (by omega)]; omega) | (show _ = _; omega)), rfl⟩
theorem parts_to (x : Int) (w : World) (h0 : 0 ≤ x) (h1 : x < 4294967296) (a b c : Int) (ha : a = x / 4) (hb : b = x / 2 % 2) (hc : c = x % 2) :
    Calls Try.prog 111 #[.int .u32 x] w fun e w' => e = .returned (.tuple #[.int .i64 a, .int .i64 b, .int .i64 c]) ∧ w = w' := by
  have HA := Lib.hid ha; have HB := Lib.hid hb; have HC := Lib.hid hc
  clear ha hb hc
  go_enter Try.func111, Try.ntmps111
  go_wp2
  go_ret3
  rw [HA.out, HB.out, HC.out]
  exact ⟨rfl, rfl⟩
end Go.Proofs.Ytmiidiijhhjabaa.Pack
