/- The law CacheNews, walked: there are caches of just the numbers that may be. -/
import Derived.Test.YtcpbojjimfcbhaaLaw03
namespace Go.Proofs.Ytcpbojjimfcbhaa.WalkCacheNews
open Go Go.RowKit Go.Proofs.Ytcpbojjimfcbhaa.Heap Go.Proofs.Ytcpbojjimfcbhaa.Cache Go.Proofs.Ytcpbojjimfcbhaa.Law03

set_option maxHeartbeats 1000000 in
theorem no (t n : Int) (w : World) (h : t < 1 ∨ 64 < t ∨ n < 0 ∨ 4096 < n) :
    Calls Try.prog 3 #[.int .i64 t, .int .i64 n] w fun e w' => e = .returned (.bool true) ∧ Below w.heap.size w w' := by
  go_enter Try.func3, Try.ntmps3
  go_wp2_with (first
    | (go_at_call 7; refine (new_no _ _ _ h).mono ?_; rintro e w1 ⟨rfl, rfl⟩)
    | (go_at_call 8; refine (awake _).mono ?_; rintro e w1 ⟨rfl, u1⟩))
  all_goals
    go_ret
    exact ⟨rfl, by assumption⟩

set_option maxHeartbeats 1000000 in
theorem yes (k n : Nat) (w : World) (h1 : 1 ≤ k) (h2 : k ≤ 64) (h3 : n ≤ 4096) :
    Calls Try.prog 3 #[.int .i64 k, .int .i64 n] w fun e w' => e = .returned (.bool true) ∧ Below w.heap.size w w' := by
  have hz : has (List.replicate n 0) (List.replicate k (0 : Int)).length 0 0 = false := by
    unfold has
    by_cases e : 0 < n
    · have : ((List.replicate n 0).getD (0 : Int).toNat 0) = 0 := by
        rw [Int.toNat_zero, getD_lt _ _ _ (by simpa using e)]; exact List.getElem_replicate _
      rw [this]; simp
    · simp [inB]; omega
  have hs : total (List.replicate k 0) = 0 := by
    clear h1 h2 hz
    induction k with
    | zero => rfl
    | succ k ih => unfold total at ih ⊢; rw [List.replicate_succ, List.foldl_cons, show wrap64 (0 + 0) = 0 from by decide +kernel]; exact ih
  go_enter Try.func3, Try.ntmps3
  go_wp2_with fail
  refine (new_yes _ k n h1 h2 h3).mono ?_
  rintro e w1 ⟨c, cb, mb, rfl, hc, b1, b2, b3, u1⟩
  have hn := u1.none
  go_wp2_with fail
  refine (total_all _ _ _ _ _ _ hc (by simpa using h2)).mono ?_
  rintro e w2 ⟨rfl, rfl⟩
  rw [hs]
  go_wp2_with fail
  refine (has_all _ _ _ _ _ _ hc _ _ (by simpa using h2) (by intro x hx; rw [List.eq_of_mem_replicate hx]; decide)).mono ?_
  rintro e w3 ⟨rfl, rfl⟩
  rw [hz]
  go_wp2_with fail
  refine (awake _).mono ?_
  rintro e w4 ⟨rfl, u4⟩
  go_wp2
  go_ret
  exact ⟨rfl, hn.trans (u4.mono hn.size)⟩
theorem walk (t n : Int) (w : World) : Calls Try.prog 3 #[.int .i64 t, .int .i64 n] w fun e w' => e = .returned (.bool true) ∧ Below w.heap.size w w' := by
  by_cases h : t < 1 ∨ 64 < t ∨ n < 0 ∨ 4096 < n
  · exact no t n w h
  · obtain ⟨k, rfl⟩ := Int.eq_ofNat_of_zero_le (show 0 ≤ t by omega)
    obtain ⟨m, rfl⟩ := Int.eq_ofNat_of_zero_le (show 0 ≤ n by omega)
    exact yes k m w (by omega) (by omega) (by omega)
end Go.Proofs.Ytcpbojjimfcbhaa.WalkCacheNews
