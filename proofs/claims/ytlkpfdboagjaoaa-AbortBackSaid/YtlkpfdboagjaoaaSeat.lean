/- Package seat: what each function does to seats that are known whole. -/
import Derived.Test.YtlkpfdboagjaoaaProg
import Derived.Test.YtlkpfdboagjaoaaHeap
import Derived.BigQuiet
import Derived.Lib.Hide
namespace Go.Proofs.Ytlkpfdboagjaoaa.Seat
open Go Go.RowKit Go.Proofs.Ytlkpfdboagjaoaa.Heap

theorem ret_bool {a b : Bool} (h : a = b) : Ending.returned (.bool a) = .returned (.bool b) := by rw [h]
theorem ret_int {k : IntKind} {a b : Int} (h : a = b) : Ending.returned (.int k a) = .returned (.int k b) := by rw [h]

/-- The cells of seats: of each its state and its deadline. -/
def cells : List (Int × Int) → List Value
  | [] => []
  | (a, b) :: r => .int .i64 a :: .int .i64 b :: cells r
theorem cells_length (l : List (Int × Int)) : (cells l).length = l.length * 2 := by
  induction l with
  | nil => rfl
  | cons x r ih => obtain ⟨a, b⟩ := x; simp [cells, ih]; omega
theorem cells_0 : ∀ (l : List (Int × Int)) (t : Nat), t < l.length → (cells l)[t * 2]? = some (.int .i64 (l.getD t (0, -1)).1)
  | (a, b) :: r, 0, _ => by simp [cells]
  | (a, b) :: r, t + 1, h => by
    have := cells_0 r t (by simpa using h)
    rw [show (t + 1) * 2 = t * 2 + 2 by omega]; simpa [cells] using this
theorem cells_1 : ∀ (l : List (Int × Int)) (t : Nat), t < l.length → (cells l)[t * 2 + 1]? = some (.int .i64 (l.getD t (0, -1)).2)
  | (a, b) :: r, 0, _ => by simp [cells]
  | (a, b) :: r, t + 1, h => by
    have := cells_1 r t (by simpa using h)
    rw [show (t + 1) * 2 + 1 = t * 2 + 1 + 2 by omega]; simpa [cells] using this
theorem cells_set0 : ∀ (l : List (Int × Int)) (t : Nat) (x : Int), (cells l).set (t * 2) (.int .i64 x) = cells (l.set t (x, (l.getD t (0, -1)).2))
  | [], t, x => by simp [cells]
  | (a, b) :: r, 0, x => by simp [cells]
  | (a, b) :: r, t + 1, x => by
    have := cells_set0 r t x
    rw [show (t + 1) * 2 = t * 2 + 2 by omega]; simpa [cells] using this
theorem cells_set2 : ∀ (l : List (Int × Int)) (t : Nat) (x y : Int), ((cells l).set (t * 2) (.int .i64 x)).set (t * 2 + 1) (.int .i64 y) = cells (l.set t (x, y))
  | [], t, x, y => by simp [cells]
  | (a, b) :: r, 0, x, y => by simp [cells]
  | (a, b) :: r, t + 1, x, y => by
    have := cells_set2 r t x y
    rw [show (t + 1) * 2 + 1 = t * 2 + 1 + 2 by omega, show (t + 1) * 2 = t * 2 + 2 by omega]; simpa [cells] using this
theorem cells_set1 : ∀ (l : List (Int × Int)) (t : Nat) (y : Int), (cells l).set (t * 2 + 1) (.int .i64 y) = cells (l.set t ((l.getD t (0, -1)).1, y))
  | [], t, y => by simp [cells]
  | (a, b) :: r, 0, y => by simp [cells]
  | (a, b) :: r, t + 1, y => by
    have := cells_set1 r t y
    rw [show (t + 1) * 2 + 1 = t * 2 + 1 + 2 by omega]; simpa [cells] using this

/-- Seats: their block, that of the states. -/
structure At (w : World) (s lb : Nat) (l : List (Int × Int)) (timed probed : Bool) : Prop where
  top : Row w s [.slice (some ⟨lb, 0, none⟩) l.length l.length, .bool timed, .bool probed]
  row : Row w lb (cells l)
  ne : s ≠ lb

theorem At.upd {S : Nat → Prop} {w w' : World} {s lb : Nat} {l : List (Int × Int)} {timed probed : Bool} (h : At w s lb l timed probed) (hu : Upd S w w') (h1 : ¬ S s) (h2 : ¬ S lb) : At w' s lb l timed probed :=
  ⟨h.top.upd hu h1, h.row.upd hu h2, h.ne⟩
theorem At.alloc {w : World} {s lb : Nat} {l : List (Int × Int)} {timed probed : Bool} (h : At w s lb l timed probed) (o : Obj) : At (w.alloc o) s lb l timed probed := ⟨h.top.alloc o, h.row.alloc o, h.ne⟩
theorem At.drewN {w : World} {s lb : Nat} {l : List (Int × Int)} {timed probed : Bool} (h : At w s lb l timed probed) (n : Nat) : At (w.drewN n) s lb l timed probed := ⟨h.top, h.row, h.ne⟩
theorem At.set0 {w : World} {s lb : Nat} {l : List (Int × Int)} {timed probed : Bool} (h : At w s lb l timed probed) (t : Nat) (x : Int) :
    At (w.setCell ⟨lb, t * 2, none⟩ (.int .i64 x)) s lb (l.set t (x, (l.getD t (0, -1)).2)) timed probed :=
  ⟨by simpa using h.top.set_ne h.ne _ _, by rw [← cells_set0]; exact h.row.set _ _, h.ne⟩
theorem At.set1 {w : World} {s lb : Nat} {l : List (Int × Int)} {timed probed : Bool} (h : At w s lb l timed probed) (t : Nat) (x : Int) :
    At (w.setCell ⟨lb, t * 2 + 1, none⟩ (.int .i64 x)) s lb (l.set t ((l.getD t (0, -1)).1, x)) timed probed :=
  ⟨by simpa using h.top.set_ne h.ne _ _, by rw [← cells_set1]; exact h.row.set _ _, h.ne⟩
theorem At.set2 {w : World} {s lb : Nat} {l : List (Int × Int)} {timed probed : Bool} (h : At w s lb l timed probed) (t : Nat) (x y : Int) :
    At ((w.setCell ⟨lb, t * 2, none⟩ (.int .i64 x)).setCell ⟨lb, t * 2 + 1, none⟩ (.int .i64 y)) s lb (l.set t (x, y)) timed probed :=
  ⟨by simpa using (h.top.set_ne h.ne _ _).set_ne h.ne _ _, by rw [← cells_set2]; exact (h.row.set _ _).set _ _, h.ne⟩

/-- Is a number a place of a list of n? -/
def inB (t : Int) (n : Nat) : Bool := decide (0 ≤ t) && decide (t < n)
theorem inB_nat {t : Int} {n : Nat} (h : inB t n = true) : ∃ k : Nat, t = k ∧ k < n := by
  simp [inB] at h; exact ⟨t.toNat, by omega, by omega⟩
theorem inB_mk {k n : Nat} (h : k < n) : inB (k : Int) n = true := by simp [inB]; omega

theorem there (w : World) (s lb : Nat) (l : List (Int × Int)) (td pd : Bool) (h : At w s lb l td pd) (t : Int) :
    Calls Try.prog 38 #[.pointer (some ⟨s, 0, none⟩), .int .i64 t] w fun e w' => e = .returned (.bool (inB t l.length)) ∧ w = w' := by
  have h0 := h.top.cell (i := 0) rfl
  clear h
  go_enter Try.func38, Try.ntmps38
  go_wp2
  all_goals
    go_ret
    exact ⟨ret_bool (by simp [inB, *] <;> omega), rfl⟩
theorem there_yes (w : World) (s lb : Nat) (l : List (Int × Int)) (td pd : Bool) (h : At w s lb l td pd) (t : Nat) (ht : t < l.length) :
    Calls Try.prog 38 #[.pointer (some ⟨s, 0, none⟩), .int .i64 t] w fun e w' => e = .returned (.bool true) ∧ w = w' :=
  (there w s lb l td pd h t).mono fun e w' ⟨he, hw⟩ => ⟨by rw [he, inB_mk ht], hw⟩
theorem there_no (w : World) (s lb : Nat) (l : List (Int × Int)) (td pd : Bool) (h : At w s lb l td pd) (t : Int) (ht : inB t l.length = false) :
    Calls Try.prog 38 #[.pointer (some ⟨s, 0, none⟩), .int .i64 t] w fun e w' => e = .returned (.bool false) ∧ w = w' :=
  (there w s lb l td pd h t).mono fun e w' ⟨he, hw⟩ => ⟨by rw [he, ht], hw⟩

/-- How many contexts there are. -/
theorem len_all (w : World) (s lb : Nat) (l : List (Int × Int)) (td pd : Bool) (h : At w s lb l td pd) :
    Calls Try.prog 15 #[.pointer (some ⟨s, 0, none⟩)] w fun e w' => e = .returned (.int .i64 l.length) ∧ w = w' := by
  have h0 := h.top.cell (i := 0) rfl
  clear h
  go_enter Try.func15, Try.ntmps15
  go_wp2
  go_ret
  exact ⟨rfl, rfl⟩

/-- What a context does. -/
def state (l : List (Int × Int)) (t : Int) : Int := if inB t l.length then (l.getD t.toNat (0, -1)).1 else 0
def deadline (l : List (Int × Int)) (t : Int) : Int := if inB t l.length then (l.getD t.toNat (0, -1)).2 else -1

theorem state_all (w : World) (s lb : Nat) (l : List (Int × Int)) (td pd : Bool) (h : At w s lb l td pd) (t : Int) :
    Calls Try.prog 21 #[.pointer (some ⟨s, 0, none⟩), .int .i64 t] w fun e w' => e = .returned (.int .i64 (state l t)) ∧ w = w' := by
  cases hn : inB t l.length with
  | false =>
    have E := Lib.hid (show state l t = 0 by unfold state; rw [hn]; rfl)
    go_enter Try.func21, Try.ntmps21
    go_wp2_with (go_at_call 38; refine (there_no _ _ _ _ _ _ h _ hn).mono ?_; rintro e w' ⟨rfl, rfl⟩)
    go_ret
    exact ⟨ret_int (by rw [E.out]), rfl⟩
  | true =>
    obtain ⟨k, rfl, hk⟩ := inB_nat hn
    have E := Lib.hid (show state l k = (l.getD k (0, -1)).1 by unfold state; rw [hn]; rfl)
    have h0 := h.top.cell (i := 0) rfl
    have h1 := h.row.cell (cells_0 l k hk)
    obtain ⟨x, hx⟩ : ∃ x, (l.getD k (0, -1)).1 = x := ⟨_, rfl⟩
    rw [hx] at h1 E
    clear hx hn
    go_enter Try.func21, Try.ntmps21
    go_wp2_with (go_at_call 38; refine (there_yes _ _ _ _ _ _ h _ hk).mono ?_; rintro e w' ⟨rfl, rfl⟩)
    go_ret
    exact ⟨ret_int (by rw [E.out]), rfl⟩
theorem deadline_all (w : World) (s lb : Nat) (l : List (Int × Int)) (td pd : Bool) (h : At w s lb l td pd) (t : Int) :
    Calls Try.prog 40 #[.pointer (some ⟨s, 0, none⟩), .int .i64 t] w fun e w' => e = .returned (.int .i64 (deadline l t)) ∧ w = w' := by
  cases hn : inB t l.length with
  | false =>
    have E := Lib.hid (show deadline l t = -1 by unfold deadline; rw [hn]; rfl)
    go_enter Try.func40, Try.ntmps40
    go_wp2_with (go_at_call 38; refine (there_no _ _ _ _ _ _ h _ hn).mono ?_; rintro e w' ⟨rfl, rfl⟩)
    go_ret
    exact ⟨ret_int (by rw [E.out]), rfl⟩
  | true =>
    obtain ⟨k, rfl, hk⟩ := inB_nat hn
    have E := Lib.hid (show deadline l k = (l.getD k (0, -1)).2 by unfold deadline; rw [hn]; rfl)
    have h0 := h.top.cell (i := 0) rfl
    have h1 := h.row.cell (cells_1 l k hk)
    obtain ⟨x, hx⟩ : ∃ x, (l.getD k (0, -1)).2 = x := ⟨_, rfl⟩
    rw [hx] at h1 E
    clear hx hn
    go_enter Try.func40, Try.ntmps40
    go_wp2_with (go_at_call 38; refine (there_yes _ _ _ _ _ _ h _ hk).mono ?_; rintro e w' ⟨rfl, rfl⟩)
    go_ret
    exact ⟨ret_int (by rw [E.out]), rfl⟩

/-- A call for the lock begins: the error, and the seats then. -/
def lock (l : List (Int × Int)) (td : Bool) (t d : Int) : Int × List (Int × Int) :=
  if inB t l.length then
    if d < -1 then (1, l) else if 0 ≤ d ∧ td = false then (1, l)
    else if (l.getD t.toNat (0, -1)).1 ≠ 0 then (2, l) else (0, l.set t.toNat (1, d))
  else (1, l)

set_option maxHeartbeats 1000000 in
theorem lock_all (w : World) (s lb : Nat) (l : List (Int × Int)) (td pd : Bool) (h : At w s lb l td pd) (t d : Int) :
    Calls Try.prog 18 #[.pointer (some ⟨s, 0, none⟩), .int .i64 t, .int .i64 d] w fun e w' =>
      e = .returned (.int .i64 (lock l td t d).1) ∧ At w' s lb (lock l td t d).2 td pd ∧ Upd (fun k => k = lb) w w' := by
  cases hn : inB t l.length with
  | false =>
    have E := Lib.hid (show lock l td t d = (1, l) by unfold lock; rw [hn]; rfl)
    go_enter Try.func18, Try.ntmps18
    go_wp2_with (go_at_call 38; refine (there_no _ _ _ _ _ _ h _ hn).mono ?_; rintro e w' ⟨rfl, rfl⟩)
    go_ret
    rw [E.out]
    exact ⟨rfl, h, Upd.refl _ _⟩
  | true =>
    obtain ⟨k, rfl, hk⟩ := inB_nat hn
    have h0 := h.top.cell (i := 0) rfl
    have h4 := h.top.cell (i := 1) rfl
    have h1 := h.row.cell (cells_0 l k hk)
    have h2 := h.row.cell (cells_1 l k hk)
    have f1 := h.row.frozen (k * 2)
    have f2 := h.row.frozen (k * 2 + 1)
    have hne := h.ne
    obtain ⟨x, hx⟩ : ∃ x, (l.getD k (0, -1)).1 = x := ⟨_, rfl⟩
    obtain ⟨y, hy⟩ : ∃ y, (l.getD k (0, -1)).2 = y := ⟨_, rfl⟩
    rw [hx] at h1
    rw [hy] at h2
    have E := Lib.hid (show lock l td k d = if d < -1 then (1, l) else if 0 ≤ d ∧ td = false then (1, l) else if x ≠ 0 then (2, l) else (0, l.set k (1, d)) by unfold lock; rw [hn, ← hx]; rfl)
    clear hx hy hn
    by_cases c1 : d < -1
    · rw [if_pos c1] at E
      go_enter Try.func18, Try.ntmps18
      go_wp2_with (go_at_call 38; refine (there_yes _ _ _ _ _ _ h _ hk).mono ?_; rintro e w' ⟨rfl, rfl⟩)
      all_goals
        go_ret
        rw [E.out]
        exact ⟨rfl, h, Upd.refl _ _⟩
    rw [if_neg c1] at E
    by_cases c2 : 0 ≤ d
    · cases td
      · rw [if_pos ⟨c2, rfl⟩] at E
        go_enter Try.func18, Try.ntmps18
        go_wp2_with (go_at_call 38; refine (there_yes _ _ _ _ _ _ h _ hk).mono ?_; rintro e w' ⟨rfl, rfl⟩)
        all_goals
          go_ret
          rw [E.out]
          exact ⟨rfl, h, Upd.refl _ _⟩
      · rw [if_neg (fun z => Bool.noConfusion z.2)] at E
        by_cases c3 : x = 0
        · subst c3
          rw [if_neg (fun z => z rfl)] at E
          go_enter Try.func18, Try.ntmps18
          go_wp2_with (go_at_call 38; refine (there_yes _ _ _ _ _ _ h _ hk).mono ?_; rintro e w' ⟨rfl, rfl⟩)
          all_goals
            go_ret
            rw [E.out]
            exact ⟨rfl, h.set2 k 1 d, Upd.two _ _ _ _ _ _⟩
        · rw [if_pos c3] at E
          have c4 : (x != 0) = true := by simpa using c3
          go_enter Try.func18, Try.ntmps18
          go_wp2_with (go_at_call 38; refine (there_yes _ _ _ _ _ _ h _ hk).mono ?_; rintro e w' ⟨rfl, rfl⟩)
          all_goals
            go_ret
            rw [E.out]
            exact ⟨rfl, h, Upd.refl _ _⟩
    · rw [if_neg (fun z => c2 z.1)] at E
      by_cases c3 : x = 0
      · subst c3
        rw [if_neg (fun z => z rfl)] at E
        go_enter Try.func18, Try.ntmps18
        go_wp2_with (go_at_call 38; refine (there_yes _ _ _ _ _ _ h _ hk).mono ?_; rintro e w' ⟨rfl, rfl⟩)
        all_goals
          go_ret
          rw [E.out]
          exact ⟨rfl, h.set2 k 1 d, Upd.two _ _ _ _ _ _⟩
      · rw [if_pos c3] at E
        have c4 : (x != 0) = true := by simpa using c3
        go_enter Try.func18, Try.ntmps18
        go_wp2_with (go_at_call 38; refine (there_yes _ _ _ _ _ _ h _ hk).mono ?_; rintro e w' ⟨rfl, rfl⟩)
        all_goals
          go_ret
          rw [E.out]
          exact ⟨rfl, h, Upd.refl _ _⟩

/-- What is wrong with one that should hold the lock. -/
def holds (l : List (Int × Int)) (t : Int) : Int :=
  if inB t l.length then (if (l.getD t.toNat (0, -1)).1 = 0 then 3 else if (l.getD t.toNat (0, -1)).1 = 2 then 0 else 2) else 1
theorem holds_all (w : World) (s lb : Nat) (l : List (Int × Int)) (td pd : Bool) (h : At w s lb l td pd) (t : Int) :
    Calls Try.prog 39 #[.pointer (some ⟨s, 0, none⟩), .int .i64 t] w fun e w' => e = .returned (.int .i64 (holds l t)) ∧ w = w' := by
  cases hn : inB t l.length with
  | false =>
    have E := Lib.hid (show holds l t = 1 by unfold holds; rw [hn]; rfl)
    go_enter Try.func39, Try.ntmps39
    go_wp2_with (go_at_call 38; refine (there_no _ _ _ _ _ _ h _ hn).mono ?_; rintro e w' ⟨rfl, rfl⟩)
    go_ret
    exact ⟨ret_int (by rw [E.out]), rfl⟩
  | true =>
    obtain ⟨k, rfl, hk⟩ := inB_nat hn
    have h0 := h.top.cell (i := 0) rfl
    have h1 := h.row.cell (cells_0 l k hk)
    obtain ⟨x, hx⟩ : ∃ x, (l.getD k (0, -1)).1 = x := ⟨_, rfl⟩
    rw [hx] at h1
    have E := Lib.hid (show holds l k = if x = 0 then 3 else if x = 2 then 0 else 2 by unfold holds; rw [hn, ← hx]; rfl)
    clear hx hn
    by_cases c1 : x = 0
    · rw [if_pos c1] at E
      subst c1
      go_enter Try.func39, Try.ntmps39
      go_wp2_with (go_at_call 38; refine (there_yes _ _ _ _ _ _ h _ hk).mono ?_; rintro e w' ⟨rfl, rfl⟩)
      go_ret
      exact ⟨ret_int (by rw [E.out]), rfl⟩
    · rw [if_neg c1] at E
      have d1 : (x == 0) = false := by simpa using c1
      by_cases c2 : x = 2
      · rw [if_pos c2] at E
        subst c2
        go_enter Try.func39, Try.ntmps39
        go_wp2_with (go_at_call 38; refine (there_yes _ _ _ _ _ _ h _ hk).mono ?_; rintro e w' ⟨rfl, rfl⟩)
        go_ret
        exact ⟨ret_int (by rw [E.out]), rfl⟩
      · rw [if_neg c2] at E
        have d2 : (x != 2) = true := by simpa using c2
        go_enter Try.func39, Try.ntmps39
        go_wp2_with (go_at_call 38; refine (there_yes _ _ _ _ _ _ h _ hk).mono ?_; rintro e w' ⟨rfl, rfl⟩)
        go_ret
        exact ⟨ret_int (by rw [E.out]), rfl⟩

/-- What holds becomes another state: the error, and the seats then. -/
def turn (l : List (Int × Int)) (t : Int) (st : Int) : Int × List (Int × Int) :=
  (holds l t, if holds l t = 0 then l.set t.toNat (st, (l.getD t.toNat (0, -1)).2) else l)
theorem holds_in {l : List (Int × Int)} {t : Int} (h : holds l t = 0) : inB t l.length = true := by
  unfold holds at h
  split at h
  · assumption
  · simp at h

theorem unlock_all (w : World) (s lb : Nat) (l : List (Int × Int)) (td pd : Bool) (h : At w s lb l td pd) (t : Int) :
    Calls Try.prog 19 #[.pointer (some ⟨s, 0, none⟩), .int .i64 t] w fun e w' =>
      e = .returned (.int .i64 (turn l t 3).1) ∧ At w' s lb (turn l t 3).2 td pd ∧ Upd (fun k => k = lb) w w' := by
  by_cases hz : holds l t = 0
  · have hn := holds_in hz
    obtain ⟨k, rfl, hk⟩ := inB_nat hn
    have h0 := h.top.cell (i := 0) rfl
    have h1 := h.row.cell (cells_0 l k hk)
    have f1 := h.row.frozen (k * 2)
    have E := Lib.hid (show turn l k 3 = (0, l.set k (3, (l.getD k (0, -1)).2)) by unfold turn; rw [hz]; rfl)
    have HZ := Lib.hid hz
    obtain ⟨x, hx⟩ : ∃ x, (l.getD k (0, -1)).1 = x := ⟨_, rfl⟩
    rw [hx] at h1
    have hne := h.ne
    clear hz hn hx
    go_enter Try.func19, Try.ntmps19
    go_wp2_with (go_at_call 39; refine (holds_all _ _ _ _ _ _ h _).mono ?_; rintro e w' ⟨rfl, rfl⟩; rw [HZ.out])
    go_ret
    rw [E.out]
    exact ⟨rfl, h.set0 k 3, Upd.one _ _ _ _⟩
  · have E := Lib.hid (show turn l t 3 = (holds l t, l) by unfold turn; rw [if_neg hz])
    obtain ⟨x, hx⟩ : ∃ x, holds l t = x := ⟨_, rfl⟩
    rw [hx] at hz E
    have HX := Lib.hid hx
    have d1 : (x == 0) = false := by simpa using hz
    clear hx
    go_enter Try.func19, Try.ntmps19
    go_wp2_with (go_at_call 39; refine (holds_all _ _ _ _ _ _ h _).mono ?_; rintro e w' ⟨rfl, rfl⟩; rw [HX.out])
    go_ret
    rw [E.out]
    exact ⟨rfl, h, Upd.refl _ _⟩

/-- One asks whether anybody is behind: the error, and the seats then. -/
def probe (l : List (Int × Int)) (pd : Bool) (t : Int) : Int × List (Int × Int) := if pd then turn l t 4 else (1, l)
theorem probe_all (w : World) (s lb : Nat) (l : List (Int × Int)) (td pd : Bool) (h : At w s lb l td pd) (t : Int) :
    Calls Try.prog 102 #[.pointer (some ⟨s, 0, none⟩), .int .i64 t] w fun e w' =>
      e = .returned (.int .i64 (probe l pd t).1) ∧ At w' s lb (probe l pd t).2 td pd ∧ Upd (fun k => k = lb) w w' := by
  have h4 := h.top.cell (i := 2) rfl
  cases pd with
  | false =>
    go_enter Try.func102, Try.ntmps102
    go_wp2
    go_ret
    exact ⟨rfl, h, Upd.refl _ _⟩
  | true =>
    have EP : probe l true t = turn l t 4 := rfl
    by_cases hz : holds l t = 0
    · have hn := holds_in hz
      obtain ⟨k, rfl, hk⟩ := inB_nat hn
      have h0 := h.top.cell (i := 0) rfl
      have h1 := h.row.cell (cells_0 l k hk)
      have f1 := h.row.frozen (k * 2)
      have E := Lib.hid (show probe l true k = (0, l.set k (4, (l.getD k (0, -1)).2)) by rw [EP]; unfold turn; rw [hz]; rfl)
      have HZ := Lib.hid hz
      obtain ⟨x, hx⟩ : ∃ x, (l.getD k (0, -1)).1 = x := ⟨_, rfl⟩
      rw [hx] at h1
      have hne := h.ne
      clear hz hn hx EP
      go_enter Try.func102, Try.ntmps102
      go_wp2_with (go_at_call 39; refine (holds_all _ _ _ _ _ _ h _).mono ?_; rintro e w' ⟨rfl, rfl⟩; rw [HZ.out])
      go_ret
      rw [E.out]
      exact ⟨rfl, h.set0 k 4, Upd.one _ _ _ _⟩
    · have E := Lib.hid (show probe l true t = (holds l t, l) by rw [EP]; unfold turn; rw [if_neg hz])
      obtain ⟨x, hx⟩ : ∃ x, holds l t = x := ⟨_, rfl⟩
      rw [hx] at hz E
      have HX := Lib.hid hx
      have d1 : (x == 0) = false := by simpa using hz
      clear hx EP
      go_enter Try.func102, Try.ntmps102
      go_wp2_with (go_at_call 39; refine (holds_all _ _ _ _ _ _ h _).mono ?_; rintro e w' ⟨rfl, rfl⟩; rw [HX.out])
      go_ret
      rw [E.out]
      exact ⟨rfl, h, Upd.refl _ _⟩

/-- What a state becomes by an event; below 0: it doesn't fit. -/
def next (st ev : Int) : Int :=
  if st = 1 then (if ev = 1 then 2 else if ev = 2 then 0 else if ev = 6 then 0 else -1)
  else if st = 3 then (if ev = 3 then 0 else -1)
  else if st = 4 then (if ev = 4 then 2 else if ev = 5 then 2 else -1) else -1
set_option maxHeartbeats 2000000 in
theorem next_all (w : World) (st ev : Int) :
    Calls Try.prog 60 #[.int .i64 st, .int .i64 ev] w fun e w' => e = .returned (.int .i64 (next st ev)) ∧ w = w' := by
  have E : ∀ r, next st ev = r → Hid (next st ev = r) := fun _ h => h
  by_cases c1 : st = 1
  · subst c1
    by_cases d1 : ev = 1
    · subst d1
      go_enter Try.func60, Try.ntmps60
      go_wp2
      go_ret
      exact ⟨rfl, rfl⟩
    by_cases d2 : ev = 2
    · subst d2
      go_enter Try.func60, Try.ntmps60
      go_wp2
      go_ret
      exact ⟨rfl, rfl⟩
    by_cases d6 : ev = 6
    · subst d6
      go_enter Try.func60, Try.ntmps60
      go_wp2
      go_ret
      exact ⟨rfl, rfl⟩
    have H := E (-1) (by simp [next, d1, d2, d6])
    have b1 : (ev == 1) = false := by simpa using d1
    have b2 : (ev == 2) = false := by simpa using d2
    have b6 : (ev == 6) = false := by simpa using d6
    clear E
    go_enter Try.func60, Try.ntmps60
    go_wp2
    go_ret
    exact ⟨ret_int (by rw [H.out]), rfl⟩
  have a1 : (st == 1) = false := by simpa using c1
  by_cases c3 : st = 3
  · subst c3
    by_cases d3 : ev = 3
    · subst d3
      go_enter Try.func60, Try.ntmps60
      go_wp2
      go_ret
      exact ⟨rfl, rfl⟩
    have H := E (-1) (by simp [next, d3])
    have b3 : (ev == 3) = false := by simpa using d3
    clear E
    go_enter Try.func60, Try.ntmps60
    go_wp2
    go_ret
    exact ⟨ret_int (by rw [H.out]), rfl⟩
  have a3 : (st == 3) = false := by simpa using c3
  by_cases c4 : st = 4
  · subst c4
    by_cases d4 : ev = 4
    · subst d4
      go_enter Try.func60, Try.ntmps60
      go_wp2
      go_ret
      exact ⟨rfl, rfl⟩
    by_cases d5 : ev = 5
    · subst d5
      go_enter Try.func60, Try.ntmps60
      go_wp2
      go_ret
      exact ⟨rfl, rfl⟩
    have H := E (-1) (by simp [next, d4, d5])
    have b4 : (ev == 4) = false := by simpa using d4
    have b5 : (ev == 5) = false := by simpa using d5
    clear E
    go_enter Try.func60, Try.ntmps60
    go_wp2
    go_ret
    exact ⟨ret_int (by rw [H.out]), rfl⟩
  have a4 : (st == 4) = false := by simpa using c4
  have H := E (-1) (by simp [next, c1, c3, c4])
  clear E
  go_enter Try.func60, Try.ntmps60
  go_wp2
  go_ret
  exact ⟨ret_int (by rw [H.out]), rfl⟩
theorem next_zero (ev : Int) : next 0 ev = -1 := by simp [next]

/-- What is under way ends: whether it did something, and the seats then. -/
def fin (l : List (Int × Int)) (t ev : Int) : Bool × List (Int × Int) :=
  if next (state l t) ev < 0 then (false, l) else (true, l.set t.toNat (next (state l t) ev, -1))
theorem end_all (w : World) (s lb : Nat) (l : List (Int × Int)) (td pd : Bool) (h : At w s lb l td pd) (t ev : Int) :
    Calls Try.prog 44 #[.pointer (some ⟨s, 0, none⟩), .int .i64 t, .int .i64 ev] w fun e w' =>
      e = .returned (.bool (fin l t ev).1) ∧ At w' s lb (fin l t ev).2 td pd ∧ Upd (fun k => k = lb) w w' := by
  obtain ⟨st, hst⟩ : ∃ x, state l t = x := ⟨_, rfl⟩
  obtain ⟨n, hn⟩ : ∃ x, next st ev = x := ⟨_, rfl⟩
  by_cases c : n < 0
  · have E := Lib.hid (show fin l t ev = (false, l) by unfold fin; rw [hst, hn, if_pos c])
    have HS := Lib.hid hst; have HN := Lib.hid hn
    clear hst hn
    go_enter Try.func44, Try.ntmps44
    go_wp2_with (first
      | (go_at_call 21; refine (state_all _ _ _ _ _ _ h _).mono ?_; rintro e w' ⟨rfl, rfl⟩; rw [HS.out])
      | (go_at_call 60; refine (next_all _ _ _).mono ?_; rintro e w' ⟨rfl, rfl⟩; rw [HN.out]))
    go_ret
    rw [E.out]
    exact ⟨rfl, h, Upd.refl _ _⟩
  · have E := Lib.hid (show fin l t ev = (true, l.set t.toNat (n, -1)) by unfold fin; rw [hst, hn, if_neg c])
    have hin : inB t l.length = true := by
      cases hb : inB t l.length with
      | true => rfl
      | false =>
        have : st = 0 := by rw [← hst]; unfold state; rw [hb]; rfl
        rw [this, next_zero] at hn; omega
    obtain ⟨k, rfl, hk⟩ := inB_nat hin
    have h0 := h.top.cell (i := 0) rfl
    have h1 := h.row.cell (cells_0 l k hk)
    have h2 := h.row.cell (cells_1 l k hk)
    obtain ⟨x, hx⟩ : ∃ x, (l.getD k (0, -1)).1 = x := ⟨_, rfl⟩
    obtain ⟨y, hy⟩ : ∃ y, (l.getD k (0, -1)).2 = y := ⟨_, rfl⟩
    rw [hx] at h1
    rw [hy] at h2
    have f1 := h.row.frozen (k * 2)
    have f2 := h.row.frozen (k * 2 + 1)
    have hne := h.ne
    have HS := Lib.hid hst; have HN := Lib.hid hn
    clear hst hn hx hy hin
    go_enter Try.func44, Try.ntmps44
    go_wp2_with (first
      | (go_at_call 21; refine (state_all _ _ _ _ _ _ h _).mono ?_; rintro e w' ⟨rfl, rfl⟩; rw [HS.out])
      | (go_at_call 60; refine (next_all _ _ _).mono ?_; rintro e w' ⟨rfl, rfl⟩; rw [HN.out]))
    go_ret
    rw [E.out]
    exact ⟨rfl, h.set2 k n (-1), Upd.two _ _ _ _ _ _⟩

/-- So many seats of which nothing is set yet. -/
def raw (n : Nat) : Array Value := (cells (List.replicate n (0, 0))).toArray
theorem made_raw (n : Nat) : madeCells #[.int .i64 0, .int .i64 0] (n * 2) = raw n := by
  apply Array.toList_inj.1
  apply List.ext_getElem?
  intro j
  show _ = (cells (List.replicate n (0, 0)))[j]?
  have hl : (cells (List.replicate n (0, 0))).length = n * 2 := by rw [cells_length]; simp
  by_cases hj : j < n * 2
  · have ht : j / 2 < (List.replicate n ((0 : Int), (0 : Int))).length := by simp; omega
    have e : (List.replicate n ((0 : Int), (0 : Int))).getD (j / 2) (0, -1) = (0, 0) := by
      rw [getD_lt _ _ _ ht]; exact List.getElem_replicate _
    rcases (show j % 2 = 0 ∨ j % 2 = 1 by omega) with p | p
    · have := cells_0 (List.replicate n (0, 0)) (j / 2) ht
      rw [show j / 2 * 2 = j by omega, e] at this
      rw [this]; simp [madeCells, hj, p]
    · have := cells_1 (List.replicate n (0, 0)) (j / 2) ht
      rw [show j / 2 * 2 + 1 = j by omega, e] at this
      rw [this]; simp [madeCells, hj, p]
  · rw [List.getElem?_eq_none (by simp [madeCells]; omega), List.getElem?_eq_none (by omega)]
theorem info_seat : (Try.prog.info? 87).map (fun i => (i.zero, i.size, i.bytes)) = some (some (.agg #[.int .i64 0, .int .i64 0]), 2, 16) := by kernel_rfl
theorem run_make_raw (n : Nat) (hn : n ≤ 64) (W : World) :
    (Instr.makeSlice 80 (.int .i64 (n : Int)) (.int .i64 (n : Int))).run Try.prog W = .ok (.slice (some ⟨W.heap.size, 0, none⟩) n n) (W.alloc (.cells (raw n) 87)) := by
  obtain ⟨i, hi, hz0, hz1, hz2⟩ := info_parts info_seat
  have hr := run_make (P := Try.prog) W 80 87 i _ Try.underlying80 hi hz0 .i64 .i64 n n (by omega) (Int.le_refl _) (by rw [hz2]; omega) (by omega)
  simp only [Int.toNat_natCast, hz1, Value.cells] at hr
  rw [hr, made_raw]

/-- The first k seats are set. -/
def half (n k : Nat) : List (Int × Int) := List.replicate k (0, -1) ++ List.replicate (n - k) (0, 0)
theorem half_length (n k : Nat) (h : k ≤ n) : (half n k).length = n := by simp [half]; omega
theorem half_next (n k : Nat) (h : k < n) : (half n k).set k (((half n k).getD k (0, -1)).1, -1) = half n (k + 1) := by
  have e : (half n k).getD k (0, -1) = (0, 0) := by
    rw [getD_lt _ _ _ (by rw [half_length _ _ (by omega)]; exact h)]
    unfold half
    rw [List.getElem_append_right (by simp)]
    exact List.getElem_replicate _
  rw [e]
  unfold half
  rw [List.set_append_right _ _ (by simp)]
  simp only [List.length_replicate, Nat.sub_self]
  rw [show n - k = (n - (k + 1)) + 1 by omega, List.replicate_succ, List.set_cons_zero, List.replicate_succ', List.append_assoc]
  rfl

theorem At.made (w : World) (n : Nat) (td pd : Bool) (T1 T2 : TypeId) :
    At ((w.alloc (.cells (raw n) T1)).alloc (.cells #[.slice (some ⟨w.heap.size, 0, none⟩) n n, .bool td, .bool pd] T2)) (w.heap.size + 1) w.heap.size (half n 0) td pd :=
  ⟨by simpa [half] using Row.new' (w := w.alloc (.cells (raw n) T1)) (a := #[.slice (some ⟨w.heap.size, 0, none⟩) n n, .bool td, .bool pd]) (T := T2) (n := w.heap.size + 1) (by simp),
   by simpa [half, raw] using (Row.new' (w := w) (a := raw n) (T := T1) rfl).alloc _, by omega⟩

set_option maxHeartbeats 1000000 in
theorem new_yes (w : World) (n : Nat) (td pd : Bool) (h1 : 1 ≤ n) (h2 : n ≤ 64) :
    Calls Try.prog 31 #[.int .i64 n, .bool td, .bool pd] w fun e w' => ∃ s lb, e = .returned (.tuple #[.pointer (some ⟨s, 0, none⟩), .int .i64 0]) ∧
      At w' s lb (List.replicate n (0, -1)) td pd ∧ w.heap.size ≤ s ∧ w.heap.size ≤ lb ∧ Below w.heap.size w w' := by
  have k1 := run_make_raw n h2
  go_enter Try.func31, Try.ntmps31
  go_wp2
  have hm := At.made w n td pd 87 82
  go_loopw [27] (fun i wr => ∃ k : Nat, k ≤ n ∧ i = .int .i64 k ∧ At wr (w.heap.size + 1) w.heap.size (half n k) td pd ∧ Below w.heap.size w wr) (fun i _ => n - (intOf i).toNat)
  case atStart => exact ⟨0, Nat.zero_le _, rfl, hm, ((Below.refl _ _).alloc (Nat.le_refl _) _).alloc (by simp) _⟩
  case round =>
    obtain ⟨k, hk, rfl, hat, hbel⟩ := hrel
    clear hm k1
    by_cases hlt : k < n
    · have hkl : k < (half n k).length := by rw [half_length _ _ hk]; exact hlt
      have h0 := hat.top.cell (i := 0) rfl
      rw [half_length _ _ hk] at h0
      have h3 := hat.row.cell (cells_1 _ k hkl)
      have f3 := hat.row.frozen (k * 2 + 1)
      obtain ⟨y, hy⟩ : ∃ y, ((half n k).getD k (0, -1)).2 = y := ⟨_, rfl⟩
      rw [hy] at h3
      have A2 := hat.set1 k (-1)
      rw [half_next n k hlt] at A2
      clear hy hkl
      go_wp2
      go_roundw
      case rel => exact ⟨k + 1, by omega, by go_num, A2, hbel.setCell (Nat.le_refl _) _⟩
      case measure => simp [intOf]; omega
    · obtain rfl : k = n := by omega
      have hf : half k k = List.replicate k (0, -1) := by simp [half]
      rw [hf] at hat
      go_wp2
      go_ret2
      exact ⟨_, _, rfl, hat, by omega, Nat.le_refl _, hbel⟩
theorem new_no (w : World) (n : Int) (td pd : Bool) (h : n < 1 ∨ 64 < n) :
    Calls Try.prog 31 #[.int .i64 n, .bool td, .bool pd] w fun e w' => e = .returned (.tuple #[.pointer none, .int .i64 1]) ∧ w = w' := by
  by_cases c1 : n < 1
  · go_enter Try.func31, Try.ntmps31
    go_wp2
    all_goals (go_ret2; exact ⟨rfl, rfl⟩)
  have c2 : 64 < n := by omega
  go_enter Try.func31, Try.ntmps31
  go_wp2
  all_goals (go_ret2; exact ⟨rfl, rfl⟩)
end Go.Proofs.Ytlkpfdboagjaoaa.Seat
