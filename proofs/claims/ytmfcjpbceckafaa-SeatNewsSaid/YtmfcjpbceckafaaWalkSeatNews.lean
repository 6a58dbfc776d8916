/- The law SeatNews, walked: there are seats for just as many contexts as there may be. -/
import Derived.Test.YtmfcjpbceckafaaLaw09
namespace Go.Proofs.Ytmfcjpbceckafaa.WalkSeatNews
open Go Go.RowKit Go.Proofs.Ytmfcjpbceckafaa.Heap Go.Proofs.Ytmfcjpbceckafaa.Seat Go.Proofs.Ytmfcjpbceckafaa.Law09

set_option maxHeartbeats 1000000 in
theorem no (n : Int) (w : World) (h : n < 1 ∨ 64 < n) :
    Calls Try.prog 3 #[.int .i64 n] w fun e w' => e = .returned (.bool true) ∧ Below w.heap.size w w' := by
  go_enter Try.func3, Try.ntmps3
  go_wp2_with (first
    | (go_at_call 6; refine (new_no _ _ _ _ h).mono ?_; rintro e w1 ⟨rfl, rfl⟩)
    | (go_at_call 7; refine (awake _).mono ?_; rintro e w1 ⟨rfl, u1⟩))
  all_goals
    go_ret
    exact ⟨rfl, by assumption⟩

set_option maxHeartbeats 1000000 in
theorem yes (n : Nat) (w : World) (h1 : 1 ≤ n) (h2 : n ≤ 64) :
    Calls Try.prog 3 #[.int .i64 n] w fun e w' => e = .returned (.bool true) ∧ Below w.heap.size w w' := by
  have g : ∀ k, k < n → (List.replicate n ((0 : Int), (-1 : Int))).getD k (0, -1) = (0, -1) := fun k hk => by
    rw [getD_lt _ _ _ (by simpa using hk)]; exact List.getElem_replicate _
  have hs : state (List.replicate n (0, -1)) ((n : Int) - 1) = 0 := by
    unfold state
    rw [show ((n : Int) - 1).toNat = n - 1 by omega, g (n - 1) (by omega)]; simp
  have hd : deadline (List.replicate n (0, -1)) 0 = -1 := by
    unfold deadline
    rw [show (0 : Int).toNat = 0 by rfl, g 0 (by omega)]; simp
  have HS := Lib.hid hs; have HD := Lib.hid hd
  clear hs hd g
  go_enter Try.func3, Try.ntmps3
  go_wp2_with fail
  refine (new_yes _ n _ _ h1 h2).mono ?_
  rintro e w1 ⟨s, lb, rfl, hc, b1, b2, u1⟩
  have hl : ((List.replicate n ((0 : Int), (-1 : Int))).length : Int) = n := by simp
  go_wp2_with fail
  refine (len_all _ _ _ _ _ _ hc).mono ?_
  rintro e w2 ⟨rfl, rfl⟩
  rw [hl]
  go_wp2_with fail
  refine (state_all _ _ _ _ _ _ hc _).mono ?_
  rintro e w3 ⟨rfl, rfl⟩
  rw [HS.out]
  go_wp2_with fail
  refine (deadline_all _ _ _ _ _ _ hc _).mono ?_
  rintro e w3 ⟨rfl, rfl⟩
  rw [HD.out]
  go_wp2_with fail
  refine (awake _).mono ?_
  rintro e w4 ⟨rfl, u4⟩
  go_wp2
  go_ret
  exact ⟨rfl, u1.trans (u4.mono u1.size)⟩
theorem walk (n : Int) (w : World) : Calls Try.prog 3 #[.int .i64 n] w fun e w' => e = .returned (.bool true) ∧ Below w.heap.size w w' := by
  by_cases h : n < 1 ∨ 64 < n
  · exact no n w h
  · obtain ⟨k, rfl⟩ := Int.eq_ofNat_of_zero_le (show 0 ≤ n by omega)
    exact yes k w (by omega) (by omega)
end Go.Proofs.Ytmfcjpbceckafaa.WalkSeatNews
