/- Layer 22 (section): deeds; which of them may be; the document's copy of them. -/
import Derived.Test.YtpagebcokikmkaaProg
import Derived.Test.YtpagebcokikmkaaArr
import Derived.Test.YtpagebcokikmkaaVec
import Derived.Test.YtpagebcokikmkaaOpen
import Derived.BigQuiet
import Derived.Lib.Hide
import Derived.Deep.QuietTactic
import Derived.Deep.RegionHeld3
import Derived.Laws.AppendOwnNone
namespace Go.Proofs.Ytpagebcokikmkaa.Sec
open Go Go.RowKit Go.Deep Go.Proofs.Ytpagebcokikmkaa.Heap Go.Proofs.Ytpagebcokikmkaa.Open

/-- A deed: its kind, its cell, its number. -/
structure D where
  k : Int
  c : Int
  n : Int
instance : Inhabited D := ⟨⟨0, 0, 0⟩⟩
def D.cells (x : D) : List Value := [.int .i64 x.k, .int .i64 x.c, .int .u32 x.n]
def D.wf (x : D) : Prop := (Lit.int .i64 x.k).wf = true ∧ (Lit.int .i64 x.c).wf = true ∧ (Lit.int .u32 x.n).wf = true
def flat (xs : List D) : List Value := xs.flatMap D.cells
/-- May a deed be? -/
def D.may (x : D) : Bool := if x.k = 2 ∨ x.k = 3 then x.c == 0 else (x.k == 1 || x.k == 4) && decide (0 ≤ x.c) && decide (x.c < 16) && x.n == 0

theorem flat_len (xs : List D) : (flat xs).length = xs.length * 3 := by
  induction xs with
  | nil => rfl
  | cons x xs ih => rw [flat, List.flatMap_cons, List.length_append]; show 3 + (flat xs).length = _; rw [ih, List.length_cons]; omega
theorem flat_get : ∀ (xs : List D) (i j : Nat), i < xs.length → j < 3 → (flat xs)[i * 3 + j]? = (xs.getD i default).cells[j]?
  | x :: xs, 0, j, _, hj => by
    show (x.cells ++ flat xs)[0 * 3 + j]? = _
    rw [Nat.zero_mul, Nat.zero_add, List.getElem?_append_left (by simp [D.cells]; omega)]; rfl
  | x :: xs, i + 1, j, hi, hj => by
    show (x.cells ++ flat xs)[(i + 1) * 3 + j]? = _
    rw [List.getElem?_append_right (by simp [D.cells]; omega)]
    have : (i + 1) * 3 + j - x.cells.length = i * 3 + j := by simp [D.cells]; omega
    rw [this, flat_get xs i j (by simpa using hi) hj]
    simp
  | [], _, _, h, _ => by simp at h
theorem flat_snoc (xs : List D) (x : D) : flat (xs ++ [x]) = flat xs ++ x.cells := by simp [flat]
theorem flat_one (xs : List D) : ∀ u ∈ flat xs, u.oneCell' = true := by
  intro u hu
  obtain ⟨x, _, hx⟩ := List.mem_flatMap.1 hu
  simp [D.cells] at hx
  rcases hx with rfl | rfl | rfl <;> rfl
theorem take_snoc (xs : List D) (k : Nat) (h : k < xs.length) : xs.take (k + 1) = xs.take k ++ [xs.getD k default] := by
  rw [getD_lt _ _ _ h, List.take_succ_eq_append_getElem h]

/-- Deeds that came in. -/
structure Deeds (w : World) (v : Value) (xs : List D) : Prop where
  came : Came w v xs.length 3 (fun i => (xs.getD i default).cells)
  wf : ∀ x ∈ xs, x.wf
  fit : xs.length * 24 ≤ 140737488351232

theorem Deeds.below {w w' : World} {v : Value} {xs : List D} (h : Deeds w v xs) (hb : Below w.heap.size w w') : Deeds w' v xs := by
  obtain ⟨⟨a, cap, hv, h1, h2, h3⟩, h4, h5⟩ := h
  refine ⟨⟨a, cap, hv, h1, h2, fun hp => ?_⟩, h4, h5⟩
  obtain ⟨b, off, e, hlt, hc⟩ := h3 hp
  exact ⟨b, off, e, Nat.lt_of_lt_of_le hlt hb.size, fun i hi j x hj hx => (hb.cell (p := ⟨b, off + i * 3 + j, none⟩) hlt).trans (hc i hi j x hj hx)⟩

theorem may_all (w : World) (x : D) : Calls Try.prog 17 #[.agg #[.int .i64 x.k, .int .i64 x.c, .int .u32 x.n]] w fun e w' => e = .returned (.bool x.may) ∧ Upd (fun _ => False) w w' := by
  obtain ⟨k, c, n⟩ := x
  unfold D.may
  by_cases c1 : k = 2
  · subst c1
    go_enter Try.func17, Try.ntmps17
    go_wp2
    go_ret
    exact ⟨by simp, (Upd.refl _ _).alloc _⟩
  by_cases c2 : k = 3
  · subst c2
    go_enter Try.func17, Try.ntmps17
    go_wp2
    go_ret
    exact ⟨by simp, (Upd.refl _ _).alloc _⟩
  have t2 : (k == 2) = false := by simpa using c1
  have t3 : (k == 3) = false := by simpa using c2
  have hif : ¬ (k = 2 ∨ k = 3) := by omega
  by_cases c3 : k = 1 ∨ k = 4
  · have tk : (k = 1 ∧ (k == 1) = true) ∨ (k = 4 ∧ (k == 1) = false) := by rcases c3 with rfl | rfl <;> simp
    by_cases c4 : 0 ≤ c
    · by_cases c5 : c < 16
      · rcases tk with ⟨rfl, t1⟩ | ⟨rfl, t1⟩
        all_goals
          clear c1 c2 c3 hif t2 t3
          go_enter Try.func17, Try.ntmps17
          go_wp2
          go_ret
          exact ⟨by simp <;> omega, (Upd.refl _ _).alloc _⟩
      · rcases tk with ⟨rfl, t1⟩ | ⟨rfl, t1⟩
        all_goals
          clear c1 c2 c3 hif t2 t3
          go_enter Try.func17, Try.ntmps17
          go_wp2
          go_ret
          exact ⟨by simp <;> omega, (Upd.refl _ _).alloc _⟩
    · rcases tk with ⟨rfl, t1⟩ | ⟨rfl, t1⟩
      all_goals
        clear c1 c2 c3 hif t2 t3
        go_enter Try.func17, Try.ntmps17
        go_wp2
        go_ret
        exact ⟨by simp <;> omega, (Upd.refl _ _).alloc _⟩
  · have t1 : (k == 1) = false := by simp; omega
    have t4 : (k == 4) = false := by simp; omega
    rw [if_neg hif]
    go_enter Try.func17, Try.ntmps17
    go_wp2
    go_ret
    exact ⟨by simp <;> omega, (Upd.refl _ _).alloc _⟩

theorem info_ref : (Try.prog.info? 45).map (fun i => (i.zero, i.size, i.bytes)) = some (some (.agg #[.int .i64 0, .int .i64 0, .int .u32 0]), 3, 24) := by kernel_rfl

theorem cell_new3 (w : World) (n : Nat) (hn : n = w.heap.size) (a b c : Value) (T : TypeId) : ∀ j u, [a, b, c][j]? = some u → (w.alloc (.cells #[a, b, c] T)).cell? ((⟨n, 0, none⟩ : Addr).add j) = some u := by
  subst hn
  intro j u hj
  match j, hj with
  | 0, hj => simp at hj; subst hj; simp [Addr.add]
  | 1, hj => simp at hj; subst hj; simp [Addr.add]
  | 2, hj => simp at hj; subst hj; simp [Addr.add]

set_option maxHeartbeats 1000000 in
theorem ref_all (w : World) (v : Value) (xs : List D) (h : Deeds w v xs) : Calls Try.prog 11 #[v] w fun e w' => ∃ u, e = .returned u ∧ w'.ownsRow w.heap.size 45 3 u xs.length (flat xs) ∧ Upd (fun _ => False) w w' := by
  obtain ⟨⟨ao, cap, rfl, hlc, hlm, hcells⟩, hwf, hfit⟩ := h
  go_enter Try.func11, Try.ntmps11
  go_wp2
  go_loopw [8, 3] (fun i u wr => ∃ k : Nat, k ≤ xs.length ∧ i = .int .i64 k ∧ wr.ownsRow w.heap.size 45 3 u k (flat (xs.take k)) ∧ Below w.heap.size w wr ∧ w.heap.size ≤ wr.heap.size) (fun i _ _ => xs.length - (intOf i).toNat)
  case atStart => exact ⟨0, Nat.zero_le _, rfl, World.ownsRow_nil _ _ _ _, Below.refl _ _, Nat.le_refl _⟩
  case round =>
    obtain ⟨k, hk, rfl, hown, hbel, hsz⟩ := hrel
    by_cases hlt : k < xs.length
    · obtain ⟨b, off, rfl, hbw, hcell⟩ := hcells (by omega)
      obtain ⟨x, hx⟩ : ∃ x, xs.getD k default = x := ⟨_, rfl⟩
      have c0 := (hbel.cell (p := ⟨b, off + k * 3, none⟩) hbw).trans (hcell k hlt 0 (.int .i64 x.k) (by decide) (by rw [hx]; rfl))
      have c1 := (hbel.cell (p := ⟨b, off + k * 3 + 1, none⟩) hbw).trans (hcell k hlt 1 (.int .i64 x.c) (by decide) (by rw [hx]; rfl))
      have c2 := (hbel.cell (p := ⟨b, off + k * 3 + 2, none⟩) hbw).trans (hcell k hlt 2 (.int .u32 x.n) (by decide) (by rw [hx]; rfl))
      have hB := Lib.hid (take_snoc xs k hlt)
      rw [hx] at hB
      clear hx hcell hcells hwf
      go_wp2_with (at_builtin; refine wpList_append_near rfl (.tmp 12) (.tmp 20) 35 rfl w.heap.size 45 (.agg #[.int .i64 0, .int .i64 0, .int .u32 0]) 3 24 Try.underlying35 info_ref rfl (by decide) u3 k (flat (xs.take k)) rfl ((hown.alloc _).alloc _) ⟨wr.heap.size + 1, 0, none⟩ 1 1 x.cells rfl rfl (cell_new3 _ _ (by simp) _ _ _ _) (by intro u hu; exact flat_one [x] u (by simpa [flat] using hu)) (by unfold maxLen; omega) (by omega) (by simp; omega) ?_; intro v' w1 hown1 hgr hnear; have B1 : Below w.heap.size w w1 := ((hbel.alloc hsz _).alloc (by simp; omega) _).grown hgr (by simp; omega) (fun b hb => (own_lt hown hb).2); have s1 := hgr.size; rw [← flat_snoc, ← hB.out] at hown1; clear hnear hgr hown)
      go_roundw
      case rel => exact ⟨k + 1, by omega, by go_num, hown1, B1, by simp at s1; omega⟩
      case measure => simp [intOf]; omega
    · obtain rfl : k = xs.length := by omega
      rw [List.take_length] at hown
      go_wp2
      go_ret
      exact ⟨_, rfl, hown, Upd.of_below hbel⟩
end Go.Proofs.Ytpagebcokikmkaa.Sec
