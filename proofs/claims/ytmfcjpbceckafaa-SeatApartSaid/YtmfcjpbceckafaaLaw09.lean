/- Layer 9 (seat): the laws' own helper, walked. -/
import Derived.Test.YtmfcjpbceckafaaSeat
import Derived.Deep.QuietTactic
namespace Go.Proofs.Ytmfcjpbceckafaa.Law09
open Go Go.RowKit Go.Proofs.Ytmfcjpbceckafaa.Heap Go.Proofs.Ytmfcjpbceckafaa.Seat

set_option maxHeartbeats 1000000 in
theorem awake (w : World) : Calls Try.prog 7 #[] w fun e w' => e = .returned (.bool true) ∧ Below w.heap.size w w' := by
  go_enter Try.func7, Try.ntmps7
  go_wp2_with fail
  refine (new_yes _ 2 false false (by omega) (by omega)).mono ?_
  rintro e w1 ⟨s, lb, rfl, h1, b1, b2, u1⟩
  go_wp2_with fail
  refine (lock_all _ _ _ _ _ _ h1 0 (-1)).mono ?_
  rintro e w2 ⟨rfl, h2, u2⟩
  have e2 : lock (List.replicate 2 (0, -1)) false 0 (-1) = (0, [(1, -1), (0, -1)]) := by decide +kernel
  rw [e2] at h2 ⊢
  go_wp2_with fail
  refine (lock_all _ _ _ _ _ _ h2 0 (-1)).mono ?_
  rintro e w3 ⟨rfl, h3, u3⟩
  have e3 : lock [(1, -1), (0, -1)] false 0 (-1) = (2, [(1, -1), (0, -1)]) := by decide +kernel
  rw [e3] at h3 ⊢
  go_wp2_with fail
  refine (unlock_all _ _ _ _ _ _ h3 1).mono ?_
  rintro e w4 ⟨rfl, h4, u4⟩
  have e4 : turn [(1, -1), (0, -1)] 1 3 = (3, [(1, -1), (0, -1)]) := by decide +kernel
  rw [e4] at h4 ⊢
  go_wp2_with fail
  refine (state_all _ _ _ _ _ _ h4 0).mono ?_
  rintro e w5 ⟨rfl, rfl⟩
  rw [show state [(1, -1), (0, -1)] 0 = 1 from by decide +kernel]
  go_wp2
  go_ret
  refine ⟨rfl, ?_⟩
  have c2 := u2.below u1 u1.size (fun i h => by omega)
  have c3 := u3.below c2 c2.size (fun i h => by omega)
  exact u4.below c3 c3.size (fun i h => by omega)
end Go.Proofs.Ytmfcjpbceckafaa.Law09
