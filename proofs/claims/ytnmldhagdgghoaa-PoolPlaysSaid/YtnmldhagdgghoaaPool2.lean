/- Package pool: whose a node is; Take, Give, New. -/
import Derived.Test.YtnmldhagdgghoaaPool
import Derived.Deep.AppendLies
import Derived.Deep.RegionLaw
namespace Go.Proofs.Ytnmldhagdgghoaa.Pool
open Go Go.RowKit Go.Proofs.Ytnmldhagdgghoaa.Heap Go.Proofs.Ytnmldhagdgghoaa.Open Go.Proofs.Ytnmldhagdgghoaa.Sl

/-- Block g begins with l; behind it there is r. -/
def RowX (w : World) (g : Nat) (T : TypeId) (r l : List Value) : Prop := w.heap[g]? = some (.cells (l ++ r).toArray T (0, 0))
theorem RowX.lt {w : World} {g : Nat} {T : TypeId} {r l : List Value} (h : RowX w g T r l) : g < w.heap.size := (Array.getElem?_eq_some_iff.1 h).1
theorem RowX.cell {w : World} {g : Nat} {T : TypeId} {r l : List Value} (h : RowX w g T r l) {i : Nat} {v : Value} (hi : l[i]? = some v) : w.cell? ⟨g, i, none⟩ = some v := by
  have hl := (List.getElem?_eq_some_iff.1 hi).1
  unfold RowX at h
  simp [World.cell?, h, List.getElem?_append_left hl, hi]
theorem RowX.frozen {w : World} {g : Nat} {T : TypeId} {r l : List Value} (h : RowX w g T r l) (i : Nat) : w.frozen? ⟨g, i, none⟩ = false := by
  unfold RowX at h; simp [World.frozen?, h]
theorem RowX.set {w : World} {g : Nat} {T : TypeId} {r l : List Value} (h : RowX w g T r l) (i : Nat) (hi : i < l.length) (v : Value) : RowX (w.setCell ⟨g, i, none⟩ v) g T r (l.set i v) := by
  unfold RowX at h ⊢
  simp [World.setCell, Array.getElem?_modify, h, List.set_append_left _ _ hi]
theorem RowX.setCells {g : Nat} {T : TypeId} {r : List Value} (z : Value) : ∀ (n : Nat) (w : World) (a b : List Value), RowX w g T r (a ++ b) → b.length = n → RowX (w.setCells g a.length (List.replicate n z)) g T r (a ++ List.replicate n z)
  | 0, w, a, b, h, hb => by
    have := List.eq_nil_of_length_eq_zero hb
    subst this
    simpa [World.setCells] using h
  | n + 1, w, a, b, h, hb => by
    match b, hb with
    | x :: b, hb =>
      have h1 := h.set a.length (by simp) z
      have e : (a ++ x :: b).set a.length z = (a ++ [z]) ++ b := by simp
      rw [e] at h1
      have h2 := RowX.setCells z n _ (a ++ [z]) b h1 (by simpa using hb)
      simp only [List.length_append, List.length_singleton] at h2
      rw [List.replicate_succ, World.setCells]
      rw [List.append_assoc] at h2
      exact h2
theorem upd_setCells {S : Nat → Prop} {a : World} {g : Nat} (hg : S g) : ∀ (vs : List Value) (o : Nat) (w : World), Upd S a w → Upd S a (w.setCells g o vs)
  | [], _, _, h => h
  | v :: r, o, _, h => upd_setCells hg r (o + 1) _ (Upd.setCell (p := ⟨g, o, none⟩) h (.inl hg) v)

/-- What is kept of the first j. -/
def kept (xs : List Int) (x : Int) (j : Nat) : List Int := (xs.take j).filter (· != x)
theorem kept_le (xs : List Int) (x : Int) (j : Nat) : (kept xs x j).length ≤ j := Nat.le_trans (List.length_filter_le _ _) (List.length_take_le _ _)
theorem kept_len (xs : List Int) (x : Int) (j : Nat) : (kept xs x j).length ≤ xs.length := Nat.le_trans (List.length_filter_le _ _) (by simp; omega)
theorem kept_next (xs : List Int) (x : Int) (j : Nat) (hj : j < xs.length) : kept xs x (j + 1) = kept xs x j ++ (if xs.getD j 0 = x then [] else [xs.getD j 0]) := by
  unfold kept
  rw [List.take_succ_eq_append_getElem hj, List.filter_append, getD_lt _ _ _ hj]
  by_cases h : xs[j] = x
  · rw [if_pos h]; simp [h]
  · rw [if_neg h]; simp [h]
theorem kept_start (xs : List Int) (x : Int) (k : Nat) (hk : k < xs.length) (hB : Before xs x k) (hx : xs.getD k 0 = x) : kept xs x (k + 1) = xs.take k := by
  rw [kept_next xs x k hk, if_pos hx, List.append_nil]
  unfold kept
  rw [List.filter_eq_self]
  intro y hy
  obtain ⟨i, hi, rfl⟩ := List.mem_iff_getElem.1 hy
  simp at hi
  have := hB i (by omega)
  rw [getD_lt _ _ _ (by omega)] at this
  simpa using this
theorem kept_all (xs : List Int) (x : Int) : kept xs x xs.length = xs.filter (· != x) := by unfold kept; rw [List.take_length]
/-- What the row holds meanwhile. -/
def half (xs : List Int) (x : Int) (j : Nat) : List Int := kept xs x j ++ xs.drop (kept xs x j).length
theorem half_len (xs : List Int) (x : Int) (j : Nat) : (half xs x j).length = xs.length := by have := kept_len xs x j; simp [half]; omega
theorem half_get (xs : List Int) (x : Int) (j : Nat) (_ : j < xs.length) : (half xs x j).getD j 0 = xs.getD j 0 := by
  have h := kept_le xs x j
  unfold half
  rw [List.getD, List.getD, List.getElem?_append_right h, List.getElem?_drop, show (kept xs x j).length + (j - (kept xs x j).length) = j by omega]
theorem half_set (xs : List Int) (x : Int) (j : Nat) (hj : j < xs.length) (hx : xs.getD j 0 ≠ x) : (half xs x j).set (kept xs x j).length (xs.getD j 0) = half xs x (j + 1) := by
  have h := kept_le xs x j
  unfold half
  rw [kept_next xs x j hj, if_neg hx, List.set_append_right _ _ (Nat.le_refl _), Nat.sub_self]
  rw [List.drop_eq_getElem_cons (show (kept xs x j).length < xs.length by omega), List.set_cons_zero]
  simp
theorem half_same (xs : List Int) (x : Int) (j : Nat) (hj : j < xs.length) (hx : xs.getD j 0 = x) : half xs x (j + 1) = half xs x j := by
  unfold half
  rw [kept_next xs x j hj, if_pos hx, List.append_nil]
theorem contains_at (xs : List Int) (x : Int) (h : xs.contains x = true) : ∃ k, k < xs.length ∧ xs.getD k 0 = x ∧ Before xs x k := by
  induction xs with
  | nil => simp at h
  | cons y r ih =>
    by_cases e : y = x
    · exact ⟨0, by simp, by simpa using e, Before.zero _ _⟩
    · have hr : r.contains x = true := by
        simp at h ⊢
        rcases h with h | h
        · exact absurd h.symm e
        · exact h
      obtain ⟨k, h1, h2, h3⟩ := ih hr
      refine ⟨k + 1, by simpa using h1, by simpa using h2, ?_⟩
      intro j hj
      cases j with
      | zero => simpa using e
      | succ j => have := h3 j (by omega); simpa using this

theorem give1 (w : World) (b : Nat) (x id : Int) (hb : w.cell? ⟨b, 0, none⟩ = some (.int .i64 id)) :
    Calls Try.prog 25 #[.int .i64 x, .pointer (some ⟨b, 0, none⟩)] w fun e w' => e = .returned (.bool (x == id)) ∧ w = w' := by
  go_enter Try.func25, Try.ntmps25
  go_wp2
  go_ret
  exact ⟨rfl, rfl⟩
theorem index_func (w : World) (v : Value) (xs : List Int) (b : Nat) (id : Int) (h : Src1 w v .i64 xs) (hl : xs.length ≤ 1000000) (hb : w.cell? ⟨b, 0, none⟩ = some (.int .i64 id)) :
    Calls Try.prog 30 #[v, .func (.func 25) #[] #[.pointer (some ⟨b, 0, none⟩)]] w fun e w' => e = .returned (.int .i64 (idx xs id)) ∧ w = w' := by
  obtain ⟨a, cap, rfl, hn, hc⟩ := h
  go_enter Try.func30, Try.ntmps30
  go_wp2
  go_loop [8] (fun i => ∃ k : Nat, k ≤ xs.length ∧ i = .int .i64 k ∧ Before xs id k) (fun i => xs.length - (intOf i).toNat)
  case atStart => exact ⟨0, Nat.zero_le _, rfl, Before.zero _ _⟩
  case round =>
    obtain ⟨k, hk, rfl, hB⟩ := hrel
    have HB := Lib.hid hB
    clear hB
    by_cases hlt : k < xs.length
    · obtain ⟨b', off, rfl, hb', hcell⟩ := hc (by omega)
      have c0 := hcell k hlt
      obtain ⟨y, hy⟩ : ∃ y, xs.getD k 0 = y := ⟨_, rfl⟩
      rw [hy] at c0
      clear hcell hn
      have KG := give1 w b y id hb
      by_cases e : y = id
      · have HI := Lib.hid (idx_hit xs id k HB.out hlt (by rw [hy, e]))
        rw [show (y == id) = true by simpa using e] at KG
        have HG := Lib.hid KG
        clear hy e KG
        go_wp2_with (go_at_call 25; refine HG.out.mono ?_; rintro e w' ⟨rfl, rfl⟩)
        go_ret
        exact ⟨ret_int (by rw [HI.out]), rfl⟩
      · have HI := Lib.hid (HB.out.next (by rw [hy]; exact e))
        rw [show (y == id) = false by simpa using e] at KG
        have HG := Lib.hid KG
        clear hy e KG
        go_wp2_with (go_at_call 25; refine HG.out.mono ?_; rintro e w' ⟨rfl, rfl⟩)
        go_round
        case rel => exact ⟨k + 1, by omega, by go_num, HI.out⟩
        case measure => simp [intOf]; omega
    · obtain rfl : k = xs.length := by omega
      clear hc hn
      go_wp2
      go_ret
      exact ⟨ret_int (by rw [idx_miss xs id HB.out]), rfl⟩
set_option maxHeartbeats 1000000 in
/-- A number is struck from a row of one's own. -/
theorem delete_all (w : World) (v : Value) (xs : List Int) (b : Nat) (id : Int) (h : w.ownsRow 0 3 1 v xs.length (ints .i64 xs)) (hl : xs.length ≤ 1000000) (hb : w.cell? ⟨b, 0, none⟩ = some (.int .i64 id)) (hne : v.ownBlock ≠ some b)
    (hin : xs.contains id = true) :
    Calls Try.prog 24 #[v, .func (.func 25) #[] #[.pointer (some ⟨b, 0, none⟩)]] w fun e w' => ∃ v', e = .returned v' ∧
      w'.ownsRow 0 3 1 v' (xs.filter (· != id)).length (ints .i64 (xs.filter (· != id))) ∧ v'.ownBlock = v.ownBlock ∧ Upd (fun k => v.ownBlock = some k) w w' := by
  obtain ⟨k0, hk0, hx0, hB0⟩ := contains_at xs id hin
  have KI := index_func w v xs b id (Src1.of_owned h) hl hb
  rw [idx_hit xs id k0 hB0 hk0 hx0] at KI
  have HK := Lib.hid KI
  rcases h.2 with ⟨_, h0⟩ | ⟨g, cap, cur, rfl, _, hh, hnc, hcm, hcs, htake⟩
  · omega
  obtain ⟨r, hr⟩ : ∃ r, cur.toList.drop xs.length = r := ⟨_, rfl⟩
  have hX : RowX w g 3 r (ints .i64 (half xs id (k0 + 1))) := by
    unfold RowX half
    rw [hh, kept_start xs id k0 hk0 hB0 hx0]
    rw [show (xs.take k0).length = k0 by simp; omega, List.take_append_drop, ← htake, ← hr, Nat.mul_one, List.take_append_drop]
  have hrl : r.length = cap - xs.length := by rw [← hr]; simp [hcs]
  have HH := Lib.hid (kept_start xs id k0 hk0 hB0 hx0)
  have hkl : (kept xs id (k0 + 1)).length = k0 := by rw [HH.out]; simp; omega
  have HKL := Lib.hid hkl
  have hgb : g ≠ b := fun e => hne (by rw [e]; rfl)
  have HR := Lib.hid hrl
  clear h hh hcs htake hr KI hB0 hx0 hin hkl HH hrl hne
  go_enter Try.func24, Try.ntmps24
  go_wp2_with (go_at_call 30; refine HK.out.mono ?_; rintro e w' ⟨rfl, rfl⟩)
  unfold maxLen at hcm
  go_loopw [5, 6, 7] (fun s5 s6 _ wr => ∃ j i : Nat, k0 < j ∧ j ≤ xs.length ∧ i < j ∧ Hid (i = (kept xs id j).length) ∧ s5 = .int .i64 i ∧ s6 = .int .i64 j ∧ RowX wr g 3 r (ints .i64 (half xs id j)) ∧ Upd (fun k => k = g) w wr) (fun _ s6 _ _ => xs.length - (intOf s6).toNat)
  case atStart => exact ⟨k0 + 1, k0, by omega, by omega, by omega, Lib.hid HKL.out.symm, rfl, by go_num, hX, Upd.refl _ _⟩
  case round =>
    obtain ⟨j, i, hj0, hj, hij, hi, rfl, rfl, hX2, hu⟩ := hrel
    clear hX
    by_cases hlt : j < xs.length
    · have c0 := hX2.cell (ints_get (k := .i64) (i := j) (xs := half xs id j) (by rw [half_len]; exact hlt))
      rw [half_get xs id j hlt] at c0
      have c1 := hX2.cell (ints_get (k := .i64) (i := i) (xs := half xs id j) (by rw [half_len]; omega))
      have f1 := hX2.frozen i
      have hbw : wr.cell? ⟨b, 0, none⟩ = some (.int .i64 id) := by
        have hlt : b < w.heap.size := by
          rcases Nat.lt_or_ge b w.heap.size with h' | h'
          · exact h'
          · simp [World.cell?, Array.getElem?_eq_none h'] at hb
        have := hu.block b hlt (fun e => hgb e.symm)
        simp only [World.cell?] at hb ⊢
        rw [this]; exact hb
      obtain ⟨y, hy⟩ : ∃ y, xs.getD j 0 = y := ⟨_, rfl⟩
      obtain ⟨z, hz⟩ : ∃ z, (half xs id j).getD i 0 = z := ⟨_, rfl⟩
      rw [hy] at c0
      rw [hz] at c1
      have KG := give1 wr b y id hbw
      have hjl : (j : Int) < (xs.length : Int) := by omega
      have hil : (i : Int) < (xs.length : Int) := by omega
      by_cases e : y = id
      · rw [show (y == id) = true by simpa using e] at KG
        have HG := Lib.hid KG
        have HN := Lib.hid (half_same xs id j hlt (by rw [hy, e]))
        have HN2 := Lib.hid (show (kept xs id (j + 1)).length = (kept xs id j).length by rw [kept_next xs id j hlt, hy, if_pos e, List.append_nil])
        clear KG hy hz e
        go_wp2_with (go_at_call 25; refine HG.out.mono ?_; rintro e w' ⟨rfl, rfl⟩)
        go_roundw
        case rel => (repeat apply Exists.intro); exact ⟨⟨j + 1, i, by omega, by omega, by omega, Lib.hid (by rw [HN2.out]; exact hi.out), rfl, by go_num, by rw [HN.out]; exact hX2, hu⟩, rfl⟩
        case measure => simp [intOf]; omega
      · rw [show (y == id) = false by simpa using e] at KG
        have HG := Lib.hid KG
        have HN := Lib.hid (half_set xs id j hlt (by rw [hy]; exact e))
        have HN2 := Lib.hid (show (kept xs id (j + 1)).length = (kept xs id j).length + 1 by rw [kept_next xs id j hlt, hy, if_neg e]; simp)
        have HX3 := hX2.set i (by rw [ints_len, half_len]; omega) (.int .i64 y)
        have HY := Lib.hid hy
        clear KG hy hz e
        go_wp2_with (go_at_call 25; refine HG.out.mono ?_; rintro e w' ⟨rfl, rfl⟩)
        go_roundw
        case rel => (repeat apply Exists.intro); exact ⟨⟨j + 1, i + 1, by omega, by omega, by omega, Lib.hid (by rw [HN2.out, ← hi.out]), by go_num, by go_num, by rw [← HN.out, ints_set, HY.out, ← hi.out]; exact HX3, Upd.setCell (p := ⟨g, i, none⟩) hu (.inl rfl) _⟩, rfl⟩
        case measure => simp [intOf]; omega
    · obtain rfl : j = xs.length := by omega
      have hci : ¬ cap = i := by omega
      have hX4 : RowX wr g 3 r (ints .i64 (kept xs id xs.length) ++ ints .i64 (xs.drop i)) := by
        have := hX2
        unfold half at this
        rw [← hi.out] at this
        unfold ints at this ⊢
        rw [List.map_append] at this
        exact this
      have hX5 := RowX.setCells (.int .i64 0) (xs.length - i) wr _ _ hX4 (by simp [ints])
      rw [ints_len, ← hi.out] at hX5
      have KC := fun ty => Lib.run_clear_slice (P := Try.prog) wr 26 3 ty (.int .i64 0) Try.underlying26 (fun _ => by kernel_rfl) rfl rfl g i (xs.length - i) (cap - i) (by omega)
        (fun q hq => by rw [hX2.cell (ints_get (k := .i64) (i := i + q) (xs := half xs id xs.length) (by rw [half_len]; omega))]; rfl) (fun q _ => hX2.frozen _)
      have hil : (i : Int) < (xs.length : Int) := by omega
      have hil2 : (i : Int) ≤ (xs.length : Int) := by omega
      have hu5 := upd_setCells (S := fun k => k = g) (g := g) rfl (List.replicate (xs.length - i) (.int .i64 0)) i wr hu
      obtain ⟨W5, hW5⟩ : ∃ W5, wr.setCells g i (List.replicate (xs.length - i) (.int .i64 0)) = W5 := ⟨_, rfl⟩
      rw [hW5] at KC hX5 hu5
      clear hX4 hX2 hW5
      go_wp2
      go_ret
      have hlk : (xs.filter (· != id)).length = i := by rw [← kept_all]; exact hi.out.symm
      refine ⟨_, rfl, ?_, rfl, hu5.mono (fun k _ e => by rw [e]; rfl)⟩
      rw [hlk]
      refine ⟨by rw [ints_len, hlk, Nat.mul_one], .inr ⟨g, cap, _, rfl, Nat.zero_le _, hX5, by omega, by unfold maxLen; omega, ?_, ?_⟩⟩
      · have := kept_len xs id xs.length
        simp [ints_len, HR.out, ← hi.out]; omega
      · rw [kept_all] at *
        simp [ints_len, hlk]
end Go.Proofs.Ytnmldhagdgghoaa.Pool
