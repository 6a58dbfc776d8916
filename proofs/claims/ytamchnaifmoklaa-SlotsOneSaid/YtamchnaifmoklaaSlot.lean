/- pack.Slot, and which numbers of slots there may be. -/
import Derived.Test.YtamchnaifmoklaaPack
namespace Go.Proofs.Ytamchnaifmoklaa.Pack
open Go Go.RowKit Go.Proofs.Ytamchnaifmoklaa.Bits

/-- The numbers of slots that there may be. -/
def IsSize (n : Int) : Prop := n = 1 ∨ n = 2 ∨ n = 4 ∨ n = 8 ∨ n = 16 ∨ n = 32 ∨ n = 64
theorem not_pow : ∀ n : Fin 65, 1 ≤ n.val → ¬ IsSize (n.val : Int) → (bits .and .i64 (n.val : Int) ((n.val : Int) - 1) != 0) = true := by
  unfold IsSize; decide +kernel

set_option maxHeartbeats 1000000 in
theorem slot_no (n of : Int) (w : World) (h : ¬ IsSize of) : Calls Try.prog 38 #[.int .u32 n, .int .i64 of] w fun e w' => e = .returned (.int .i64 0) ∧ w = w' := by
  by_cases c1 : of < 1
  · go_enter Try.func38, Try.ntmps38
    go_wp2
    all_goals (go_ret; exact ⟨rfl, rfl⟩)
  by_cases c2 : 64 < of
  · go_enter Try.func38, Try.ntmps38
    go_wp2
    all_goals (go_ret; exact ⟨rfl, rfl⟩)
  have e : (bits .and .i64 of (of - 1) != 0) = true := by
    obtain ⟨k, rfl⟩ := Int.eq_ofNat_of_zero_le (show 0 ≤ of by omega)
    exact not_pow ⟨k, by omega⟩ (by simp; omega) h
  have h1 : 1 ≤ of := by omega
  have h2 : of ≤ 64 := by omega
  clear c1 c2 h
  go_enter Try.func38, Try.ntmps38
  go_wp2
  all_goals (go_ret; exact ⟨rfl, rfl⟩)
set_option maxHeartbeats 2000000 in
theorem slot_yes (n of : Int) (w : World) (h : IsSize of) (h0 : 0 ≤ n) (h1 : n < 4294967296) (r : Int) (hr : r = n % of) : Calls Try.prog 38 #[.int .u32 n, .int .i64 of] w fun e w' => e = .returned (.int .i64 r) ∧ w = w' := by
  rcases h with rfl | rfl | rfl | rfl | rfl | rfl | rfl
  · have e : bits .and .u32 n 0 = r := by have := mask n 0 (by decide) h0 h1; rw [hr]; exact this
    have r0 : 0 ≤ r := by omega
    have r1 : r < 1 := by omega
    clear hr
    go_enter Try.func38, Try.ntmps38
    go_wp2
    all_goals (go_ret; exact ⟨rfl, rfl⟩)
  · have e : bits .and .u32 n 1 = r := by have := mask n 1 (by decide) h0 h1; rw [hr]; exact this
    have r0 : 0 ≤ r := by omega
    have r1 : r < 2 := by omega
    clear hr
    go_enter Try.func38, Try.ntmps38
    go_wp2
    all_goals (go_ret; exact ⟨rfl, rfl⟩)
  · have e : bits .and .u32 n 3 = r := by have := mask n 2 (by decide) h0 h1; rw [hr]; exact this
    have r0 : 0 ≤ r := by omega
    have r1 : r < 4 := by omega
    clear hr
    go_enter Try.func38, Try.ntmps38
    go_wp2
    all_goals (go_ret; exact ⟨rfl, rfl⟩)
  · have e : bits .and .u32 n 7 = r := by have := mask n 3 (by decide) h0 h1; rw [hr]; exact this
    have r0 : 0 ≤ r := by omega
    have r1 : r < 8 := by omega
    clear hr
    go_enter Try.func38, Try.ntmps38
    go_wp2
    all_goals (go_ret; exact ⟨rfl, rfl⟩)
  · have e : bits .and .u32 n 15 = r := by have := mask n 4 (by decide) h0 h1; rw [hr]; exact this
    have r0 : 0 ≤ r := by omega
    have r1 : r < 16 := by omega
    clear hr
    go_enter Try.func38, Try.ntmps38
    go_wp2
    all_goals (go_ret; exact ⟨rfl, rfl⟩)
  · have e : bits .and .u32 n 31 = r := by have := mask n 5 (by decide) h0 h1; rw [hr]; exact this
    have r0 : 0 ≤ r := by omega
    have r1 : r < 32 := by omega
    clear hr
    go_enter Try.func38, Try.ntmps38
    go_wp2
    all_goals (go_ret; exact ⟨rfl, rfl⟩)
  · have e : bits .and .u32 n 63 = r := by have := mask n 6 (by decide) h0 h1; rw [hr]; exact this
    have r0 : 0 ≤ r := by omega
    have r1 : r < 64 := by omega
    clear hr
    go_enter Try.func38, Try.ntmps38
    go_wp2
    all_goals (go_ret; exact ⟨rfl, rfl⟩)

/-- The same as a truth. -/
def sizeB (n : Int) : Bool := n == 1 || n == 2 || n == 4 || n == 8 || n == 16 || n == 32 || n == 64
theorem sizeB_iff (n : Int) : sizeB n = true ↔ IsSize n := by simp [sizeB, IsSize, or_assoc]
/-- The round's number, and what is known of n by then. -/
def At (n : Int) (p : Int) : Prop := (p = 1) ∨ (p = 2 ∧ n ≠ 1) ∨ (p = 4 ∧ n ≠ 1 ∧ n ≠ 2) ∨ (p = 8 ∧ n ≠ 1 ∧ n ≠ 2 ∧ n ≠ 4) ∨ (p = 16 ∧ n ≠ 1 ∧ n ≠ 2 ∧ n ≠ 4 ∧ n ≠ 8) ∨
  (p = 32 ∧ n ≠ 1 ∧ n ≠ 2 ∧ n ≠ 4 ∧ n ≠ 8 ∧ n ≠ 16) ∨ (p = 64 ∧ n ≠ 1 ∧ n ≠ 2 ∧ n ≠ 4 ∧ n ≠ 8 ∧ n ≠ 16 ∧ n ≠ 32) ∨ (p = 128 ∧ ¬ IsSize n)
theorem At.bd {n p : Int} (h : At n p) : 1 ≤ p ∧ p ≤ 128 := by unfold At at h; omega
theorem At.hit {n p : Int} (h : At n p) (hp : p ≤ 64) (e : p = n) : sizeB n = true := by rw [sizeB_iff]; unfold At at h; unfold IsSize; omega
theorem At.next {n p : Int} (h : At n p) (hp : p ≤ 64) (e : p ≠ n) : At n (p * 2) := by unfold At IsSize at *; omega
theorem At.out {n p : Int} (h : At n p) (hp : ¬ p ≤ 64) : sizeB n = false := by
  rw [← Bool.not_eq_true, sizeB_iff]; unfold At at h; unfold IsSize at *; omega
set_option maxHeartbeats 1000000 in
theorem size_all (n : Int) (w : World) : Calls Try.prog 14 #[.int .i64 n] w fun e w' => e = .returned (.bool (sizeB n)) ∧ w = w' := by
  go_enter Try.func14, Try.ntmps14
  go_wp2
  go_loop [3] (fun v => ∃ p : Int, At n p ∧ v = .int .i64 p) (fun v => (200 - intOf v).toNat)
  case atStart => exact ⟨1, .inl rfl, rfl⟩
  case round =>
    obtain ⟨p, hp, rfl⟩ := hrel
    obtain ⟨b1, b2⟩ := hp.bd
    by_cases c1 : p ≤ 64
    · by_cases c2 : p = n
      · have R := Lib.hid (hp.hit c1 c2)
        subst c2
        clear hp
        go_wp2
        all_goals (go_ret; exact ⟨ret_bool (by rw [R.out]), rfl⟩)
      · have R := hp.next c1 c2
        clear hp
        go_wp2
        go_round
        case rel => exact ⟨p * 2, R, rfl⟩
        case measure => simp [intOf]; omega
    · have R := Lib.hid (hp.out c1)
      clear hp
      go_wp2
      all_goals (go_ret; exact ⟨ret_bool (by rw [R.out]), rfl⟩)
end Go.Proofs.Ytamchnaifmoklaa.Pack
