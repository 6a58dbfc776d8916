/- Package port: what New refuses. -/
import Derived.Test.YtlkpfdboagjaoaaPortO
namespace Go.Proofs.Ytlkpfdboagjaoaa.Port
open Go Go.RowKit Go.Proofs.Ytlkpfdboagjaoaa.Heap Go.Proofs.Ytlkpfdboagjaoaa.Open Go.Proofs.Ytlkpfdboagjaoaa.Has

theorem newP_no (w : World) (k : Int) (a1 a2 : Option Addr) (n1 c1 n2 c2 : Nat) (hn : k < 1 ∨ 64 < k ∨ n1 ≠ n2) :
    Calls Try.prog 53 #[.int .i64 k, .slice a1 n1 c1, .slice a2 n2 c2] w fun e w' => e = .returned (.tuple #[.pointer none, .int .i64 1]) ∧ w = w' := by
  by_cases g1 : k < 1
  · clear hn
    go_enter Try.func53, Try.ntmps53
    go_wp2
    go_ret2
    exact ⟨rfl, rfl⟩
  have g1' : 1 ≤ k := by omega
  by_cases g2 : 64 < k
  · clear hn
    go_enter Try.func53, Try.ntmps53
    go_wp2
    go_ret2
    exact ⟨rfl, rfl⟩
  have g2' : k ≤ 64 := by omega
  have g3 : n1 ≠ n2 := by omega
  have g4 : ((n1 : Int) != (n2 : Int)) = true := by simp; omega
  have g5 : (n1 == n2) = false := by simpa using g3
  clear hn g1 g2
  go_enter Try.func53, Try.ntmps53
  go_wp2
  go_ret2
  exact ⟨rfl, rfl⟩
theorem newP_bad (w : World) (k : Int) (v1 v2 : Value) (hs xs : List Int) (h1 : Src1 w v1 .i64 hs) (h2 : Src1 w v2 .u32 xs) (hl : hs.length = xs.length) (hx : xs.length ≤ 4096) (hok : Mem.homesOk hs = false) (k1 : 1 ≤ k) (k2 : k ≤ 64) :
    Calls Try.prog 53 #[.int .i64 k, v1, v2] w fun e w' => e = .returned (.tuple #[.pointer none, .int .i64 1]) ∧ w = w' := by
  have KN := Mem.new_arg w v1 hs h1 (by omega) hok
  obtain ⟨a1, cap1, rfl, -, -⟩ := h1
  obtain ⟨a2, cap2, rfl, -, -⟩ := h2
  obtain ⟨n, hn⟩ : ∃ n, xs.length = n := ⟨_, rfl⟩
  rw [hl] at KN ⊢
  rw [hn] at KN hx ⊢
  have HN := Lib.hid (KN.mono fun e w' ⟨he, hw⟩ => (⟨he, hw.symm⟩ : e = _ ∧ w = w'))
  clear KN hl hn hok
  go_enter Try.func53, Try.ntmps53
  go_wp2_with fail
  refine HN.out.mono ?_
  rintro e w1 ⟨rfl, rfl⟩
  go_wp2
  go_ret2
  exact ⟨rfl, rfl⟩
theorem newP_big (w : World) (k : Int) (v1 v2 : Value) (hs xs : List Int) (h1 : Src1 w v1 .i64 hs) (h2 : Src1 w v2 .u32 xs) (hl : hs.length = xs.length) (hx : 4096 < xs.length) (k1 : 1 ≤ k) (k2 : k ≤ 64) :
    Calls Try.prog 53 #[.int .i64 k, v1, v2] w fun e w' => e = .returned (.tuple #[.pointer none, .int .i64 5]) ∧ w = w' := by
  have KN := Mem.new_big w v1 hs h1 (by omega)
  obtain ⟨a1, cap1, rfl, -, -⟩ := h1
  obtain ⟨a2, cap2, rfl, -, -⟩ := h2
  obtain ⟨n, hn⟩ : ∃ n, xs.length = n := ⟨_, rfl⟩
  rw [hl] at KN ⊢
  rw [hn] at KN hx ⊢
  have HN := Lib.hid KN
  clear KN hl hn
  go_enter Try.func53, Try.ntmps53
  go_wp2_with fail
  refine HN.out.mono ?_
  rintro e w1 ⟨rfl, rfl⟩
  go_wp2
  go_ret2
  exact ⟨rfl, rfl⟩
end Go.Proofs.Ytlkpfdboagjaoaa.Port
