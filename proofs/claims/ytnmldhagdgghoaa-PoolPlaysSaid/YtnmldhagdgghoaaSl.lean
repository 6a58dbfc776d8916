/- Package slices at integers: Index, Contains, IndexFunc, DeleteFunc, Clone, as the pool uses them. -/
import Derived.Test.YtnmldhagdgghoaaProg
import Derived.Test.YtnmldhagdgghoaaSrc
import Derived.Lib.Hide
import Derived.Lib.SliceRun
namespace Go.Proofs.Ytnmldhagdgghoaa.Sl
open Go Go.RowKit Go.Proofs.Ytnmldhagdgghoaa.Heap Go.Proofs.Ytnmldhagdgghoaa.Open

theorem ret_bool {a b : Bool} (h : a = b) : Ending.returned (.bool a) = .returned (.bool b) := by rw [h]
theorem ret_int {k : IntKind} {a b : Int} (h : a = b) : Ending.returned (.int k a) = .returned (.int k b) := by rw [h]
theorem info_i64 : (Try.prog.info? 3).map (fun i => (i.zero, i.size, i.bytes)) = some (some (.int .i64 0), 1, 8) := by kernel_rfl
theorem own_empty1 (w : World) (T : TypeId) : (w.alloc (.cells #[] T)).ownsRow w.heap.size T 1 (.slice (some ⟨w.heap.size, 0, none⟩) 0 0) 0 [] :=
  World.ownsRow_made w #[] 0 (Nat.le_refl _) (by decide) (by simp)
theorem ints_one {k : IntKind} (xs : List Int) : ∀ u ∈ ints k xs, u.oneCell' = true := by
  intro u hu; simp [ints] at hu; obtain ⟨y, _, rfl⟩ := hu; rfl
theorem ints_len1 {k : IntKind} (xs : List Int) : (ints k xs).length = xs.length * 1 := by rw [ints_len, Nat.mul_one]
theorem cell_newAt (w : World) (v : Value) (T : TypeId) (b : Nat) (hb : b = w.heap.size) : ∀ j u, [v][j]? = some u → (w.alloc (.cells #[v] T)).cell? ((⟨b, 0, none⟩ : Addr).add j) = some u := by subst hb; exact cell_new1 w v T
theorem ints_snoc {k : IntKind} (xs : List Int) (x : Int) : ints k xs ++ [.int k x] = ints k (xs ++ [x]) := by simp [ints]
/-- Where a number stands first; -1: nowhere. -/
def idx : List Int → Int → Int
  | [], _ => -1
  | y :: r, x => if y = x then 0 else if idx r x < 0 then -1 else idx r x + 1
/-- None of the first k is x. -/
def Before (xs : List Int) (x : Int) (k : Nat) : Prop := ∀ j, j < k → xs.getD j 0 ≠ x
theorem idx_lo : ∀ (xs : List Int) (x : Int), -1 ≤ idx xs x
  | [], _ => by simp [idx]
  | y :: r, x => by have := idx_lo r x; unfold idx; split; omega; split <;> omega
theorem idx_hit : ∀ (xs : List Int) (x : Int) (k : Nat), Before xs x k → k < xs.length → xs.getD k 0 = x → idx xs x = k
  | [], _, _, _, h, _ => by simp at h
  | y :: r, x, 0, _, _, h => by simp at h; simp [idx, h]
  | y :: r, x, k + 1, hb, hk, h => by
    have h0 := hb 0 (by omega)
    have := idx_hit r x k (fun j hj => by have := hb (j + 1) (by omega); simpa using this) (by simpa using hk) (by simpa using h)
    simp at h0
    unfold idx
    rw [if_neg h0, this, if_neg (by omega)]; omega
theorem idx_miss : ∀ (xs : List Int) (x : Int), Before xs x xs.length → idx xs x = -1
  | [], _, _ => rfl
  | y :: r, x, hb => by
    have h0 := hb 0 (by simp)
    have := idx_miss r x (fun j hj => by have := hb (j + 1) (by simpa using hj); simpa using this)
    simp at h0
    unfold idx
    rw [if_neg h0, this, if_pos (by omega)]
theorem idx_iff (xs : List Int) (x : Int) : decide (0 ≤ idx xs x) = xs.contains x := by
  induction xs with
  | nil => simp [idx]
  | cons y r ih =>
    unfold idx
    by_cases h : y = x
    · simp [h]
    · rw [if_neg h]
      have e : (y :: r).contains x = r.contains x := by simp [Ne.symm h]
      rw [e, ← ih]
      split
      · rename_i h1; simp; omega
      · rename_i h1; simp; omega
theorem Before.zero (xs : List Int) (x : Int) : Before xs x 0 := fun _ h => absurd h (Nat.not_lt_zero _)
theorem Before.next {xs : List Int} {x : Int} {k : Nat} (h : Before xs x k) (hk : xs.getD k 0 ≠ x) : Before xs x (k + 1) := fun j hj => by
  by_cases e : j = k
  · subst e; exact hk
  · exact h j (by omega)

theorem index_all (w : World) (v : Value) (xs : List Int) (x : Int) (h : Src1 w v .i64 xs) (hl : xs.length ≤ 1000000) :
    Calls Try.prog 29 #[v, .int .i64 x] w fun e w' => e = .returned (.int .i64 (idx xs x)) ∧ w = w' := by
  obtain ⟨a, cap, rfl, hn, hc⟩ := h
  go_enter Try.func29, Try.ntmps29
  go_wp2
  go_loop [8] (fun i => ∃ k : Nat, k ≤ xs.length ∧ i = .int .i64 k ∧ Before xs x k) (fun i => xs.length - (intOf i).toNat)
  case atStart => exact ⟨0, Nat.zero_le _, rfl, Before.zero _ _⟩
  case round =>
    obtain ⟨k, hk, rfl, hB⟩ := hrel
    have HB := Lib.hid hB
    clear hB
    by_cases hlt : k < xs.length
    · obtain ⟨b, off, rfl, hb, hcell⟩ := hc (by omega)
      have c0 := hcell k hlt
      obtain ⟨y, hy⟩ : ∃ y, xs.getD k 0 = y := ⟨_, rfl⟩
      rw [hy] at c0
      clear hcell hn
      by_cases e : x = y
      · have HI := Lib.hid (idx_hit xs x k HB.out hlt (by rw [hy, e]))
        have e1 : (x == y) = true := by simpa using e
        clear hy e
        go_wp2
        go_ret
        exact ⟨ret_int (by rw [HI.out]), rfl⟩
      · have HI := Lib.hid (HB.out.next (by rw [hy]; exact Ne.symm e))
        have e1 : (x == y) = false := by simpa using e
        clear hy e
        go_wp2
        go_round
        case rel => exact ⟨k + 1, by omega, by go_num, HI.out⟩
        case measure => simp [intOf]; omega
    · obtain rfl : k = xs.length := by omega
      clear hc hn
      go_wp2
      go_ret
      exact ⟨ret_int (by rw [idx_miss xs x HB.out]), rfl⟩
theorem contains_all (w : World) (v : Value) (xs : List Int) (x : Int) (h : Src1 w v .i64 xs) (hl : xs.length ≤ 1000000) :
    Calls Try.prog 22 #[v, .int .i64 x] w fun e w' => e = .returned (.bool (xs.contains x)) ∧ w = w' := by
  have HI := Lib.hid (idx_iff xs x)
  obtain ⟨y, hy⟩ : ∃ y, idx xs x = y := ⟨_, rfl⟩
  rw [hy] at HI
  have HY := Lib.hid hy
  clear hy
  go_enter Try.func22, Try.ntmps22
  go_wp2_with (go_at_call 29; refine (index_all _ _ _ _ h hl).mono ?_; rintro e w' ⟨rfl, rfl⟩; rw [HY.out])
  go_ret
  exact ⟨ret_bool (by rw [← HI.out]), rfl⟩
/-- A copy of one's own. -/
theorem clone_all (w : World) (v : Value) (xs : List Int) (h : Src1 w v .i64 xs) (hl : xs.length ≤ 1000000) :
    Calls Try.prog 26 #[v] w fun e w' => ∃ v', e = .returned v' ∧ w'.ownsRow w.heap.size 3 1 v' xs.length (ints .i64 xs) ∧ Below w.heap.size w w' := by
  have qT : ∀ (w : World) (a : Option Addr) (n c n' c' : Nat), (binOp .eql 26 (.slice a n c) (.slice none n' c')).run Try.prog w = .ok (.bool a.isNone) w := fun w a n c n' c' => Lib.run_eql_slice_nil w _ _ a n c n' c' Try.underlying26
  have hr := h.readable
  obtain ⟨a, cap, rfl, hn, hc⟩ := h
  clear hc
  cases a with
  | none =>
    obtain ⟨rfl, h0⟩ := hn rfl
    clear hn hr
    obtain rfl := List.eq_nil_of_length_eq_zero h0
    go_enter Try.func26, Try.ntmps26
    go_wp2
    go_ret
    exact ⟨_, rfl, World.ownsRow_nil _ _ _ _, Below.refl _ _⟩
  | some ad =>
    clear hn
    have hr2 : Readable (w.alloc (.cells #[] 3)) (.slice (some ad) xs.length cap) xs.length (ints .i64 xs) := by
      rcases hr with ⟨h0, _⟩ | ⟨ad', c', h1, h2⟩
      · simp at h0
      · simp at h1
        obtain ⟨rfl, rfl⟩ := h1
        refine .inr ⟨ad, cap, rfl, fun j u hj => ?_⟩
        have := h2 j u hj
        exact Lib.cell?_alloc_some _ this
    have HR := Lib.hid hr2
    clear hr hr2
    go_enter Try.func26, Try.ntmps26
    go_wp2_with (at_builtin; refine wpList_append_src rfl (.tmp 5) (.tmp 6) 26 rfl w.heap.size 3 (.int .i64 0) 1 8 Try.underlying26 info_i64 rfl (by decide) (.slice (some ⟨w.heap.size, 0, none⟩) 0 0) 0 [] rfl (own_empty1 w _) _ xs.length (ints .i64 xs) rfl HR.out (ints_len1 xs) (ints_one xs) (by unfold maxLen; omega) (by omega) (by simp) ?_; intro v' w1 hown1 u1 hnear; rw [Nat.zero_add, List.nil_append] at hown1; have B1 : Below w.heap.size w w1 := u1.below ((Below.refl _ _).alloc (Nat.le_refl _) _) (by simp) (by intro i hi; simp [Value.ownBlock] at hi; omega); clear hnear u1)
    go_ret
    exact ⟨_, rfl, hown1, B1⟩
end Go.Proofs.Ytnmldhagdgghoaa.Sl
