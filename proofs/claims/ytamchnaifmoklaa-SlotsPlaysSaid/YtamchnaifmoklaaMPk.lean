/- Bits of a word of 32 bits, in quotients and remainders. Plain Lean: no program in sight. -/
import Derived.Laws.BitsLemmas
import Derived.OpenShut
import Derived.Test.YtamchnaifmoklaaProg
import Derived.WalkKit
import Derived.BigQuiet
import Derived.Lib.Hide
import Derived.Deep.QuietTactic
import Derived.Test.YtamchnaifmoklaaSrc
import Derived.Lib.SliceRun
namespace Go.Proofs.Ytamchnaifmoklaa.Bits
open Go

theorem wraps_u32 (n : Int) (h0 : 0 ≤ n) (h1 : n < 2 ^ 32) : IntKind.u32.wrap n = n := by rw [IntKind.wrap_u32]; omega

theorem nat_and1 (a : Nat) : a &&& 1 = a % 2 := Nat.and_one_is_mod a
theorem nat_and2 (a : Nat) : a &&& 2 = 2 * (a / 2 % 2) := by
  have h1 : (a &&& 2) % 2 ^ 2 = (a % 2 ^ 2) &&& (2 % 2 ^ 2) := Nat.and_mod_two_pow
  have h2 : a &&& 2 ≤ 2 := Nat.and_le_right
  have h3 : a % 2 ^ 2 = 0 ∨ a % 2 ^ 2 = 1 ∨ a % 2 ^ 2 = 2 ∨ a % 2 ^ 2 = 3 := by omega
  rcases h3 with h | h | h | h <;> rw [h] at h1 <;> simp at h1 <;> omega
theorem nat_or1 (a : Nat) : a ||| 1 = a + 1 - a % 2 := by
  have h1 : (a ||| 1) % 2 ^ 1 = a % 2 ^ 1 ||| 1 % 2 ^ 1 := Nat.or_mod_two_pow
  have h2 : (a ||| 1) / 2 ^ 1 = a / 2 ^ 1 ||| 1 / 2 ^ 1 := Nat.or_div_two_pow
  have e1 : 1 / 2 ^ 1 = 0 := by decide
  rw [e1, Nat.or_zero] at h2
  have h3 : a % 2 ^ 1 = 0 ∨ a % 2 ^ 1 = 1 := by omega
  rcases h3 with h | h
  · rw [h, show 0 ||| 1 % 2 ^ 1 = 1 by decide] at h1; omega
  · rw [h, show 1 ||| 1 % 2 ^ 1 = 1 by decide] at h1; omega
theorem nat_or2 (a : Nat) : a ||| 2 = a + 2 - 2 * (a / 2 % 2) := by
  have h1 : (a ||| 2) % 2 ^ 2 = a % 2 ^ 2 ||| 2 % 2 ^ 2 := Nat.or_mod_two_pow
  have h2 : (a ||| 2) / 2 ^ 2 = a / 2 ^ 2 ||| 2 / 2 ^ 2 := Nat.or_div_two_pow
  have h3 : a % 2 ^ 2 = 0 ∨ a % 2 ^ 2 = 1 ∨ a % 2 ^ 2 = 2 ∨ a % 2 ^ 2 = 3 := by omega
  rcases h3 with h | h | h | h <;> rw [h] at h1 <;> simp at h1 h2 <;> omega
theorem nat_andNot2 (a : Nat) (h : a < 2 ^ 32) : a &&& 4294967293 = a - 2 * (a / 2 % 2) := by
  have h1 : (a &&& 4294967293) % 2 ^ 2 = (a % 2 ^ 2) &&& (4294967293 % 2 ^ 2) := Nat.and_mod_two_pow
  have h2 : (a &&& 4294967293) / 2 ^ 2 = a / 2 ^ 2 &&& 4294967293 / 2 ^ 2 := Nat.and_div_two_pow
  have h4 : a / 2 ^ 2 &&& 4294967293 / 2 ^ 2 = (a / 2 ^ 2) % 2 ^ 30 := by
    have := Nat.and_two_pow_sub_one_eq_mod (a / 2 ^ 2) 30
    simpa using this
  have h3 : a % 2 ^ 2 = 0 ∨ a % 2 ^ 2 = 1 ∨ a % 2 ^ 2 = 2 ∨ a % 2 ^ 2 = 3 := by omega
  rcases h3 with h | h | h | h <;> rw [h] at h1 <;> simp at h1 h2 h4 <;> omega

theorem and_u32 (x : Int) (m : Nat) (h0 : 0 ≤ x) (h1 : x < 2 ^ 32) (hm : m < 2 ^ 32) : bits .and .u32 x m = ((x.toNat &&& m : Nat) : Int) := by
  obtain ⟨a, rfl⟩ := Int.eq_ofNat_of_zero_le h0
  exact (bits_nat .u32 32 (by decide) wraps_u32 a m (by omega) hm).1
theorem or_u32 (x : Int) (m : Nat) (h0 : 0 ≤ x) (h1 : x < 2 ^ 32) (hm : m < 2 ^ 32) : bits .or .u32 x m = ((x.toNat ||| m : Nat) : Int) := by
  obtain ⟨a, rfl⟩ := Int.eq_ofNat_of_zero_le h0
  exact (bits_nat .u32 32 (by decide) wraps_u32 a m (by omega) hm).2

theorem and1 (x : Int) (h0 : 0 ≤ x) (h1 : x < 4294967296) : bits .and .u32 x 1 = x % 2 := by
  have := and_u32 x 1 h0 (by omega) (by decide)
  rw [nat_and1] at this
  rw [show (1 : Int) = ((1 : Nat) : Int) from rfl, this]; omega
theorem and2 (x : Int) (h0 : 0 ≤ x) (h1 : x < 4294967296) : bits .and .u32 x 2 = 2 * (x / 2 % 2) := by
  have := and_u32 x 2 h0 (by omega) (by decide)
  rw [nat_and2] at this
  rw [show bits .and .u32 x 2 = bits .and .u32 x ((2 : Nat) : Int) from rfl, this]; omega
theorem or1 (x : Int) (h0 : 0 ≤ x) (h1 : x < 4294967296) : bits .or .u32 x 1 = x + 1 - x % 2 := by
  have := or_u32 x 1 h0 (by omega) (by decide)
  rw [nat_or1] at this
  rw [show bits .or .u32 x 1 = bits .or .u32 x ((1 : Nat) : Int) from rfl, this]; omega
theorem or2 (x : Int) (h0 : 0 ≤ x) (h1 : x < 4294967296) : bits .or .u32 x 2 = x + 2 - 2 * (x / 2 % 2) := by
  have := or_u32 x 2 h0 (by omega) (by decide)
  rw [nat_or2] at this
  rw [show bits .or .u32 x 2 = bits .or .u32 x ((2 : Nat) : Int) from rfl, this]; omega
theorem andNot2 (x : Int) (h0 : 0 ≤ x) (h1 : x < 4294967296) : bits .andNot .u32 x 2 = x - 2 * (x / 2 % 2) := by
  obtain ⟨a, rfl⟩ := Int.eq_ofNat_of_zero_le h0
  have ha : a < 2 ^ 32 := by omega
  have e : bits .andNot .u32 (a : Int) 2 = IntKind.u32.wrap (((a &&& 4294967293 : Nat)) : Int) := by
    unfold bits
    simp only [BitVec.ofInt_natCast]
    congr 2
    rw [BitVec.toNat_and]
    have e1 : (BitVec.ofNat IntKind.u32.bits a).toNat = a := by rw [BitVec.toNat_ofNat]; exact Nat.mod_eq_of_lt ha
    have e2 : (~~~ (BitVec.ofInt IntKind.u32.bits 2)).toNat = 4294967293 := by decide
    rw [e1, e2]
  rw [e, nat_andNot2 a ha, wraps_u32 _ (by omega) (by omega)]; omega

/-- A mask of low bits. -/
theorem mask (x : Int) (i : Nat) (hi : i ≤ 32) (h0 : 0 ≤ x) (h1 : x < 4294967296) : bits .and .u32 x (2 ^ i - 1) = x % 2 ^ i :=
  bits_mask .u32 32 (by decide) wraps_u32 i hi x h0 (by omega)

end Go.Proofs.Ytamchnaifmoklaa.Bits

namespace Go.Proofs.Ytamchnaifmoklaa.Pack
open Go Go.RowKit Go.Proofs.Ytamchnaifmoklaa.Bits

theorem ret_bool {a b : Bool} (h : a = b) : Ending.returned (.bool a) = .returned (.bool b) := by rw [h]
theorem ret_int {k : IntKind} {a b : Int} (h : a = b) : Ending.returned (.int k a) = .returned (.int k b) := by rw [h]

def clamp (c : Int) : Int := if c < 0 then 0 else if 1073741823 < c then 1073741823 else c
theorem clamp_b (c : Int) : 0 ≤ clamp c ∧ clamp c ≤ 1073741823 := by unfold clamp; (repeat' split) <;> omega
def b2 (a : Bool) : Int := if a then 1 else 0



end Go.Proofs.Ytamchnaifmoklaa.Pack

namespace Go.Proofs.Ytamchnaifmoklaa.Pack
open Go Go.RowKit Go.Proofs.Ytamchnaifmoklaa.Bits

/-- The numbers of slots that there may be. -/
def IsSize (n : Int) : Prop := n = 1 ∨ n = 2 ∨ n = 4 ∨ n = 8 ∨ n = 16 ∨ n = 32 ∨ n = 64
theorem not_pow : ∀ n : Fin 65, 1 ≤ n.val → ¬ IsSize (n.val : Int) → (bits .and .i64 (n.val : Int) ((n.val : Int) - 1) != 0) = true := by
  unfold IsSize; decide +kernel

set_option maxHeartbeats 1000000 in
theorem slot_no (n of : Int) (w : World) (h : ¬ IsSize of) : Calls Try.prog 38 #[.int .u32 n, .int .i64 of] w fun e w' => e = .returned (.int .i64 0) ∧ w = w' := by
  by_cases c1 : of < 1
  · go_enter Try.func38, Try.ntmps38
    go_wp2
    all_goals (go_ret; exact ⟨rfl, rfl⟩)
  by_cases c2 : 64 < of
  · go_enter Try.func38, Try.ntmps38
    go_wp2
    all_goals (go_ret; exact ⟨rfl, rfl⟩)
  have e : (bits .and .i64 of (of - 1) != 0) = true := by
    obtain ⟨k, rfl⟩ := Int.eq_ofNat_of_zero_le (show 0 ≤ of by omega)
    exact not_pow ⟨k, by omega⟩ (by simp; omega) h
  have h1 : 1 ≤ of := by omega
  have h2 : of ≤ 64 := by omega
  clear c1 c2 h
  go_enter Try.func38, Try.ntmps38
  go_wp2
  all_goals (go_ret; exact ⟨rfl, rfl⟩)
set_option maxHeartbeats 2000000 in
theorem slot_yes (n of : Int) (w : World) (h : IsSize of) (h0 : 0 ≤ n) (h1 : n < 4294967296) (r : Int) (hr : r = n % of) : Calls Try.prog 38 #[.int .u32 n, .int .i64 of] w fun e w' => e = .returned (.int .i64 r) ∧ w = w' := by
  rcases h with rfl | rfl | rfl | rfl | rfl | rfl | rfl
  · have e : bits .and .u32 n 0 = r := by have := mask n 0 (by decide) h0 h1; rw [hr]; exact this
    have r0 : 0 ≤ r := by omega
    have r1 : r < 1 := by omega
    clear hr
    go_enter Try.func38, Try.ntmps38
    go_wp2
    all_goals (go_ret; exact ⟨rfl, rfl⟩)
  · have e : bits .and .u32 n 1 = r := by have := mask n 1 (by decide) h0 h1; rw [hr]; exact this
    have r0 : 0 ≤ r := by omega
    have r1 : r < 2 := by omega
    clear hr
    go_enter Try.func38, Try.ntmps38
    go_wp2
    all_goals (go_ret; exact ⟨rfl, rfl⟩)
  · have e : bits .and .u32 n 3 = r := by have := mask n 2 (by decide) h0 h1; rw [hr]; exact this
    have r0 : 0 ≤ r := by omega
    have r1 : r < 4 := by omega
    clear hr
    go_enter Try.func38, Try.ntmps38
    go_wp2
    all_goals (go_ret; exact ⟨rfl, rfl⟩)
  · have e : bits .and .u32 n 7 = r := by have := mask n 3 (by decide) h0 h1; rw [hr]; exact this
    have r0 : 0 ≤ r := by omega
    have r1 : r < 8 := by omega
    clear hr
    go_enter Try.func38, Try.ntmps38
    go_wp2
    all_goals (go_ret; exact ⟨rfl, rfl⟩)
  · have e : bits .and .u32 n 15 = r := by have := mask n 4 (by decide) h0 h1; rw [hr]; exact this
    have r0 : 0 ≤ r := by omega
    have r1 : r < 16 := by omega
    clear hr
    go_enter Try.func38, Try.ntmps38
    go_wp2
    all_goals (go_ret; exact ⟨rfl, rfl⟩)
  · have e : bits .and .u32 n 31 = r := by have := mask n 5 (by decide) h0 h1; rw [hr]; exact this
    have r0 : 0 ≤ r := by omega
    have r1 : r < 32 := by omega
    clear hr
    go_enter Try.func38, Try.ntmps38
    go_wp2
    all_goals (go_ret; exact ⟨rfl, rfl⟩)
  · have e : bits .and .u32 n 63 = r := by have := mask n 6 (by decide) h0 h1; rw [hr]; exact this
    have r0 : 0 ≤ r := by omega
    have r1 : r < 64 := by omega
    clear hr
    go_enter Try.func38, Try.ntmps38
    go_wp2
    all_goals (go_ret; exact ⟨rfl, rfl⟩)

/-- The same as a truth. -/
def sizeB (n : Int) : Bool := n == 1 || n == 2 || n == 4 || n == 8 || n == 16 || n == 32 || n == 64
theorem sizeB_iff (n : Int) : sizeB n = true ↔ IsSize n := by simp [sizeB, IsSize, or_assoc]
/-- The round's number, and what is known of n by then. -/
def At (n : Int) (p : Int) : Prop := (p = 1) ∨ (p = 2 ∧ n ≠ 1) ∨ (p = 4 ∧ n ≠ 1 ∧ n ≠ 2) ∨ (p = 8 ∧ n ≠ 1 ∧ n ≠ 2 ∧ n ≠ 4) ∨ (p = 16 ∧ n ≠ 1 ∧ n ≠ 2 ∧ n ≠ 4 ∧ n ≠ 8) ∨
  (p = 32 ∧ n ≠ 1 ∧ n ≠ 2 ∧ n ≠ 4 ∧ n ≠ 8 ∧ n ≠ 16) ∨ (p = 64 ∧ n ≠ 1 ∧ n ≠ 2 ∧ n ≠ 4 ∧ n ≠ 8 ∧ n ≠ 16 ∧ n ≠ 32) ∨ (p = 128 ∧ ¬ IsSize n)
theorem At.bd {n p : Int} (h : At n p) : 1 ≤ p ∧ p ≤ 128 := by unfold At at h; omega
theorem At.hit {n p : Int} (h : At n p) (hp : p ≤ 64) (e : p = n) : sizeB n = true := by rw [sizeB_iff]; unfold At at h; unfold IsSize; omega
theorem At.next {n p : Int} (h : At n p) (hp : p ≤ 64) (e : p ≠ n) : At n (p * 2) := by unfold At IsSize at *; omega
theorem At.out {n p : Int} (h : At n p) (hp : ¬ p ≤ 64) : sizeB n = false := by
  rw [← Bool.not_eq_true, sizeB_iff]; unfold At at h; unfold IsSize at *; omega
set_option maxHeartbeats 1000000 in
theorem size_all (n : Int) (w : World) : Calls Try.prog 14 #[.int .i64 n] w fun e w' => e = .returned (.bool (sizeB n)) ∧ w = w' := by
  go_enter Try.func14, Try.ntmps14
  go_wp2
  go_loop [3] (fun v => ∃ p : Int, At n p ∧ v = .int .i64 p) (fun v => (200 - intOf v).toNat)
  case atStart => exact ⟨1, .inl rfl, rfl⟩
  case round =>
    obtain ⟨p, hp, rfl⟩ := hrel
    obtain ⟨b1, b2⟩ := hp.bd
    by_cases c1 : p ≤ 64
    · by_cases c2 : p = n
      · have R := Lib.hid (hp.hit c1 c2)
        subst c2
        clear hp
        go_wp2
        all_goals (go_ret; exact ⟨ret_bool (by rw [R.out]), rfl⟩)
      · have R := hp.next c1 c2
        clear hp
        go_wp2
        go_round
        case rel => exact ⟨p * 2, R, rfl⟩
        case measure => simp [intOf]; omega
    · have R := Lib.hid (hp.out c1)
      clear hp
      go_wp2
      all_goals (go_ret; exact ⟨ret_bool (by rw [R.out]), rfl⟩)
end Go.Proofs.Ytamchnaifmoklaa.Pack

namespace Go.Proofs.Ytamchnaifmoklaa.Sl
open Go Go.RowKit Go.Proofs.Ytamchnaifmoklaa.Heap Go.Proofs.Ytamchnaifmoklaa.Open

theorem ret_bool {a b : Bool} (h : a = b) : Ending.returned (.bool a) = .returned (.bool b) := by rw [h]
theorem ret_int {k : IntKind} {a b : Int} (h : a = b) : Ending.returned (.int k a) = .returned (.int k b) := by rw [h]
theorem info_i64 : (Try.prog.info? 3).map (fun i => (i.zero, i.size, i.bytes)) = some (some (.int .i64 0), 1, 8) := by kernel_rfl
theorem own_empty1 (w : World) (T : TypeId) : (w.alloc (.cells #[] T)).ownsRow w.heap.size T 1 (.slice (some ⟨w.heap.size, 0, none⟩) 0 0) 0 [] :=
  World.ownsRow_made w #[] 0 (Nat.le_refl _) (by decide) (by simp)
theorem ints_one {k : IntKind} (xs : List Int) : ∀ u ∈ ints k xs, u.oneCell' = true := by
  intro u hu; simp [ints] at hu; obtain ⟨y, _, rfl⟩ := hu; rfl
theorem ints_len1 {k : IntKind} (xs : List Int) : (ints k xs).length = xs.length * 1 := by rw [ints_len, Nat.mul_one]
theorem cell_newAt (w : World) (v : Value) (T : TypeId) (b : Nat) (hb : b = w.heap.size) : ∀ j u, [v][j]? = some u → (w.alloc (.cells #[v] T)).cell? ((⟨b, 0, none⟩ : Addr).add j) = some u := by subst hb; exact cell_new1 w v T
theorem ints_snoc {k : IntKind} (xs : List Int) (x : Int) : ints k xs ++ [.int k x] = ints k (xs ++ [x]) := by simp [ints]
/-- Where a number stands first; -1: nowhere. -/
def idx : List Int → Int → Int
  | [], _ => -1
  | y :: r, x => if y = x then 0 else if idx r x < 0 then -1 else idx r x + 1
/-- None of the first k is x. -/
def Before (xs : List Int) (x : Int) (k : Nat) : Prop := ∀ j, j < k → xs.getD j 0 ≠ x
theorem idx_lo : ∀ (xs : List Int) (x : Int), -1 ≤ idx xs x
  | [], _ => by simp [idx]
  | y :: r, x => by have := idx_lo r x; unfold idx; split; omega; split <;> omega
theorem idx_hit : ∀ (xs : List Int) (x : Int) (k : Nat), Before xs x k → k < xs.length → xs.getD k 0 = x → idx xs x = k
  | [], _, _, _, h, _ => by simp at h
  | y :: r, x, 0, _, _, h => by simp at h; simp [idx, h]
  | y :: r, x, k + 1, hb, hk, h => by
    have h0 := hb 0 (by omega)
    have := idx_hit r x k (fun j hj => by have := hb (j + 1) (by omega); simpa using this) (by simpa using hk) (by simpa using h)
    simp at h0
    unfold idx
    rw [if_neg h0, this, if_neg (by omega)]; omega
theorem idx_miss : ∀ (xs : List Int) (x : Int), Before xs x xs.length → idx xs x = -1
  | [], _, _ => rfl
  | y :: r, x, hb => by
    have h0 := hb 0 (by simp)
    have := idx_miss r x (fun j hj => by have := hb (j + 1) (by simpa using hj); simpa using this)
    simp at h0
    unfold idx
    rw [if_neg h0, this, if_pos (by omega)]
theorem idx_iff (xs : List Int) (x : Int) : decide (0 ≤ idx xs x) = xs.contains x := by
  induction xs with
  | nil => simp [idx]
  | cons y r ih =>
    unfold idx
    by_cases h : y = x
    · simp [h]
    · rw [if_neg h]
      have e : (y :: r).contains x = r.contains x := by simp [Ne.symm h]
      rw [e, ← ih]
      split
      · rename_i h1; simp; omega
      · rename_i h1; simp; omega
theorem Before.zero (xs : List Int) (x : Int) : Before xs x 0 := fun _ h => absurd h (Nat.not_lt_zero _)
theorem Before.next {xs : List Int} {x : Int} {k : Nat} (h : Before xs x k) (hk : xs.getD k 0 ≠ x) : Before xs x (k + 1) := fun j hj => by
  by_cases e : j = k
  · subst e; exact hk
  · exact h j (by omega)

theorem index_all (w : World) (v : Value) (xs : List Int) (x : Int) (h : Src1 w v .i64 xs) (hl : xs.length ≤ 1000000) :
    Calls Try.prog 54 #[v, .int .i64 x] w fun e w' => e = .returned (.int .i64 (idx xs x)) ∧ w = w' := by
  obtain ⟨a, cap, rfl, hn, hc⟩ := h
  go_enter Try.func54, Try.ntmps54
  go_wp2
  go_loop [8] (fun i => ∃ k : Nat, k ≤ xs.length ∧ i = .int .i64 k ∧ Before xs x k) (fun i => xs.length - (intOf i).toNat)
  case atStart => exact ⟨0, Nat.zero_le _, rfl, Before.zero _ _⟩
  case round =>
    obtain ⟨k, hk, rfl, hB⟩ := hrel
    have HB := Lib.hid hB
    clear hB
    by_cases hlt : k < xs.length
    · obtain ⟨b, off, rfl, hb, hcell⟩ := hc (by omega)
      have c0 := hcell k hlt
      obtain ⟨y, hy⟩ : ∃ y, xs.getD k 0 = y := ⟨_, rfl⟩
      rw [hy] at c0
      clear hcell hn
      by_cases e : x = y
      · have HI := Lib.hid (idx_hit xs x k HB.out hlt (by rw [hy, e]))
        have e1 : (x == y) = true := by simpa using e
        clear hy e
        go_wp2
        go_ret
        exact ⟨ret_int (by rw [HI.out]), rfl⟩
      · have HI := Lib.hid (HB.out.next (by rw [hy]; exact Ne.symm e))
        have e1 : (x == y) = false := by simpa using e
        clear hy e
        go_wp2
        go_round
        case rel => exact ⟨k + 1, by omega, by go_num, HI.out⟩
        case measure => simp [intOf]; omega
    · obtain rfl : k = xs.length := by omega
      clear hc hn
      go_wp2
      go_ret
      exact ⟨ret_int (by rw [idx_miss xs x HB.out]), rfl⟩
theorem contains_all (w : World) (v : Value) (xs : List Int) (x : Int) (h : Src1 w v .i64 xs) (hl : xs.length ≤ 1000000) :
    Calls Try.prog 35 #[v, .int .i64 x] w fun e w' => e = .returned (.bool (xs.contains x)) ∧ w = w' := by
  have HI := Lib.hid (idx_iff xs x)
  obtain ⟨y, hy⟩ : ∃ y, idx xs x = y := ⟨_, rfl⟩
  rw [hy] at HI
  have HY := Lib.hid hy
  clear hy
  go_enter Try.func35, Try.ntmps35
  go_wp2_with (go_at_call 54; refine (index_all _ _ _ _ h hl).mono ?_; rintro e w' ⟨rfl, rfl⟩; rw [HY.out])
  go_ret
  exact ⟨ret_bool (by rw [← HI.out]), rfl⟩
/-- A copy of one's own. -/
theorem clone_all (w : World) (v : Value) (xs : List Int) (h : Src1 w v .i64 xs) (hl : xs.length ≤ 1000000) :
    Calls Try.prog 71 #[v] w fun e w' => ∃ v', e = .returned v' ∧ w'.ownsRow w.heap.size 3 1 v' xs.length (ints .i64 xs) ∧ Below w.heap.size w w' := by
  have qT : ∀ (w : World) (a : Option Addr) (n c n' c' : Nat), (binOp .eql 22 (.slice a n c) (.slice none n' c')).run Try.prog w = .ok (.bool a.isNone) w := fun w a n c n' c' => Lib.run_eql_slice_nil w _ _ a n c n' c' Try.underlying22
  have hr := h.readable
  obtain ⟨a, cap, rfl, hn, hc⟩ := h
  clear hc
  cases a with
  | none =>
    obtain ⟨rfl, h0⟩ := hn rfl
    clear hn hr
    obtain rfl := List.eq_nil_of_length_eq_zero h0
    go_enter Try.func71, Try.ntmps71
    go_wp2
    go_ret
    exact ⟨_, rfl, World.ownsRow_nil _ _ _ _, Below.refl _ _⟩
  | some ad =>
    clear hn
    have hr2 : Readable (w.alloc (.cells #[] 3)) (.slice (some ad) xs.length cap) xs.length (ints .i64 xs) := by
      rcases hr with ⟨h0, _⟩ | ⟨ad', c', h1, h2⟩
      · simp at h0
      · simp at h1
        obtain ⟨rfl, rfl⟩ := h1
        refine .inr ⟨ad, cap, rfl, fun j u hj => ?_⟩
        have := h2 j u hj
        exact Lib.cell?_alloc_some _ this
    have HR := Lib.hid hr2
    clear hr hr2
    go_enter Try.func71, Try.ntmps71
    go_wp2_with (at_builtin; refine wpList_append_src rfl (.tmp 5) (.tmp 6) 22 rfl w.heap.size 3 (.int .i64 0) 1 8 Try.underlying22 info_i64 rfl (by decide) (.slice (some ⟨w.heap.size, 0, none⟩) 0 0) 0 [] rfl (own_empty1 w _) _ xs.length (ints .i64 xs) rfl HR.out (ints_len1 xs) (ints_one xs) (by unfold maxLen; omega) (by omega) (by simp) ?_; intro v' w1 hown1 u1 hnear; rw [Nat.zero_add, List.nil_append] at hown1; have B1 : Below w.heap.size w w1 := u1.below ((Below.refl _ _).alloc (Nat.le_refl _) _) (by simp) (by intro i hi; simp [Value.ownBlock] at hi; omega); clear hnear u1)
    go_ret
    exact ⟨_, rfl, hown1, B1⟩
end Go.Proofs.Ytamchnaifmoklaa.Sl

namespace Go.Proofs.Ytamchnaifmoklaa.Sizes
open Go Go.RowKit Go.Proofs.Ytamchnaifmoklaa.Heap Go.Proofs.Ytamchnaifmoklaa.Open Go.Proofs.Ytamchnaifmoklaa.Pack

def szs : List Int := [1, 2, 4, 8, 16, 32, 64]
theorem szs_has (n : Int) : szs.contains n = sizeB n := by
  rw [Bool.eq_iff_iff, sizeB_iff]; simp [szs, IsSize]
theorem info_i64 : (Try.prog.info? 3).map (fun i => (i.zero, i.size, i.bytes)) = some (some (.int .i64 0), 1, 8) := by kernel_rfl
theorem cell_newAt (w : World) (v : Value) (T : TypeId) (b : Nat) (hb : b = w.heap.size) : ∀ j u, [v][j]? = some u → (w.alloc (.cells #[v] T)).cell? ((⟨b, 0, none⟩ : Addr).add j) = some u := by subst hb; exact cell_new1 w v T
theorem ints_snoc {k : IntKind} (xs : List Int) (x : Int) : ints k xs ++ [.int k x] = ints k (xs ++ [x]) := by simp [ints]
set_option maxHeartbeats 4000000 in
theorem sizesC (w : World) : Calls Try.prog 36 #[] w fun e w' => ∃ v, e = .returned v ∧ Src1 w' v .i64 szs ∧ Below w.heap.size w w' := by
  go_enter Try.func36, Try.ntmps36
  go_wp2_with fail
  go_loopw [1, 2] (fun s1 s2 wr => ∃ j : Nat, j ≤ 7 ∧ s2 = .int .i64 ((2 ^ j : Nat) : Int) ∧ wr.ownsRow w.heap.size 3 1 s1 j (ints .i64 (szs.take j)) ∧ Below w.heap.size w wr) (fun _ i _ => 200 - (intOf i).toNat)
  case atStart => exact ⟨0, by omega, rfl, World.ownsRow_nil _ _ _ _, Below.refl _ _⟩
  case round =>
    obtain ⟨j, hj, rfl, hown, hB⟩ := hrel
    have hz := hB.size
    obtain ⟨va, vc, rfl⟩ := owned_len1 hown
    by_cases h7 : j = 7
    · subst h7
      rw [show ((2 ^ 7 : Nat) : Int) = 128 from rfl]
      go_wp2_with fail
      go_ret
      exact ⟨_, rfl, Src1.of_owned hown, hB⟩
    · obtain ⟨p, hp⟩ : ∃ p : Int, ((2 ^ j : Nat) : Int) = p := ⟨_, rfl⟩
      have hp2 : 1 ≤ p ∧ p ≤ 64 ∧ szs.take (j + 1) = szs.take j ++ [p] ∧ ((2 ^ (j + 1) : Nat) : Int) = p * 2 := by
        rcases (show j = 0 ∨ j = 1 ∨ j = 2 ∨ j = 3 ∨ j = 4 ∨ j = 5 ∨ j = 6 by omega) with rfl | rfl | rfl | rfl | rfl | rfl | rfl <;> subst hp <;> exact ⟨by decide, by decide, rfl, rfl⟩
      obtain ⟨p1, p2, p3, p4⟩ := hp2
      rw [hp]
      have P3 := Lib.hid p3
      have P4 := Lib.hid p4
      clear hp p3 p4
      go_wp2_with (at_builtin; refine wpList_append_near rfl (.tmp 7) (.tmp 9) 22 rfl w.heap.size 3 (.int .i64 0) 1 8 Try.underlying22 info_i64 rfl (by decide) (.slice va j vc) j (ints .i64 (szs.take j)) rfl (own_upd hown ((Upd.refl (fun _ => False) _).alloc _) (fun _ _ => id)) ⟨wr.heap.size, 0, none⟩ 1 1 [.int .i64 p] rfl rfl (cell_newAt _ _ _ _ rfl) (one_cell rfl) (by unfold maxLen; omega) (by omega) (by simp; omega) ?_; intro v7 w7 hown7 hg7 near7; rw [ints_snoc] at hown7; have u7 : Upd (fun i => (Value.slice va j vc).ownBlock = some i) wr w7 := ((Upd.refl _ _).alloc _).trans (Upd.grown hg7))
      have hB7 := u7.below hB hz (fun i e => (own_lt hown e).2)
      go_round
      case rel => exact ⟨j + 1, by omega, by rw [P4.out], by rw [P3.out]; exact hown7, hB7⟩
      case measure => simp [intOf]; omega
end Go.Proofs.Ytamchnaifmoklaa.Sizes
