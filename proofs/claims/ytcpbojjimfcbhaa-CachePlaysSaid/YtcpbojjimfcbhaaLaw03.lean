/- Layer 3 (cache): the laws' own helpers, walked. -/
import Derived.Test.YtcpbojjimfcbhaaCache
import Derived.Deep.QuietTactic
namespace Go.Proofs.Ytcpbojjimfcbhaa.Law03
open Go Go.RowKit Go.Proofs.Ytcpbojjimfcbhaa.Heap Go.Proofs.Ytcpbojjimfcbhaa.Cache

set_option maxHeartbeats 1000000 in
theorem awake (w : World) : Calls Try.prog 8 #[] w fun e w' => e = .returned (.bool true) ∧ Below w.heap.size w w' := by
  go_enter Try.func8, Try.ntmps8
  go_wp2_with fail
  refine (new_yes _ 2 1 (by omega) (by omega) (by omega)).mono ?_
  rintro e w1 ⟨c, cb, mb, rfl, h1, b1, b2, b3, u1⟩
  go_wp2_with fail
  refine (touch_to _ _ _ _ _ _ h1 _ _ _ 0 0 rfl rfl (by decide) (by decide) (by decide) (by decide) true [1] [1, 0] (by decide +kernel) (by decide +kernel) (by decide +kernel)).mono ?_
  rintro e w2 ⟨rfl, h2, u2⟩
  go_wp2_with fail
  refine (touch_to _ _ _ _ _ _ h2 _ _ _ 1 0 rfl rfl (by decide) (by decide) (by decide) (by decide) true [3] [1, 1] (by decide +kernel) (by decide +kernel) (by decide +kernel)).mono ?_
  rintro e w3 ⟨rfl, h3, u3⟩
  go_wp2_with fail
  refine (touch_to _ _ _ _ _ _ h3 _ _ _ 0 0 rfl rfl (by decide) (by decide) (by decide) (by decide) true [1] [2, 1] (by decide +kernel) (by decide +kernel) (by decide +kernel)).mono ?_
  rintro e w4 ⟨rfl, h4, u4⟩
  go_wp2_with fail
  refine (touch_to _ _ _ _ _ _ h4 _ _ _ 1 0 rfl rfl (by decide) (by decide) (by decide) (by decide) true [3] [2, 2] (by decide +kernel) (by decide +kernel) (by decide +kernel)).mono ?_
  rintro e w5 ⟨rfl, h5, u5⟩
  go_wp2_with fail
  refine (total_all _ _ _ _ _ _ h5 (by decide)).mono ?_
  rintro e w6 ⟨rfl, rfl⟩
  rw [show total [2, 2] = 4 from by decide +kernel]
  go_wp2
  go_ret
  refine ⟨rfl, ?_⟩
  have hs := u1.size
  have f : ∀ i, i < w.heap.size → (i = cb ∨ i = mb) → False := by omega
  exact ((((u1.then u2 f).then u3 f).then u4 f).then u5 f).none
end Go.Proofs.Ytcpbojjimfcbhaa.Law03
