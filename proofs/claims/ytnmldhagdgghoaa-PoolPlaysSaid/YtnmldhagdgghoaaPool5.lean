/- Package pool: New. -/
import Derived.Test.YtnmldhagdgghoaaPool4
import Derived.IntWalk
namespace Go.Proofs.Ytnmldhagdgghoaa.Pool
open Go Go.RowKit Go.Proofs.Ytnmldhagdgghoaa.Heap Go.Proofs.Ytnmldhagdgghoaa.Open Go.Proofs.Ytnmldhagdgghoaa.Sl

/-- The rows of a new pool when the first m nodes are given out. -/
def newRows (n k m : Nat) : List (List Int) := (List.range n).map fun t => ((List.range k).filter fun j => decide (t * k + j < m)).map fun j => ((t * k + j + 1 : Nat) : Int)
theorem newRows_len (n k m : Nat) : (newRows n k m).length = n := by simp [newRows]
theorem newRows_get (n k m t : Nat) (ht : t < n) : (newRows n k m).getD t [] = ((List.range k).filter fun j => decide (t * k + j < m)).map fun j => ((t * k + j + 1 : Nat) : Int) := by
  simp [newRows, List.getD, ht]
theorem newRows_zero (n k : Nat) : newRows n k 0 = List.replicate n [] := by
  unfold newRows
  apply List.ext_getElem
  · simp
  · intro i h1 h2
    simp
theorem filter_lt (k c : Nat) (hc : c ≤ k) : (List.range k).filter (fun j => decide (j < c)) = List.range c := by
  induction k with
  | zero => have : c = 0 := by omega
            subst this; rfl
  | succ k ih =>
    rw [List.range_succ, List.filter_append]
    by_cases h : c = k + 1
    · subst h
      have e1 : (List.range k).filter (fun j => decide (j < k + 1)) = List.range k := by
        rw [List.filter_eq_self]; intro a ha; simp at ha; simp; omega
      rw [e1, List.range_succ]; simp
    · rw [ih (by omega)]; simp; omega
theorem newRows_row (n k m t : Nat) (ht : t < n) : (newRows n k m).getD t [] = (List.range (min k (m - t * k))).map fun j => ((t * k + j + 1 : Nat) : Int) := by
  rw [newRows_get n k m t ht, ← filter_lt k (min k (m - t * k)) (Nat.min_le_left _ _)]
  congr 1
  apply List.filter_congr
  intro j hj
  simp at hj ⊢
  omega
theorem newRows_next' (n k q r m : Nat) (hm : m = q * k + r) (hr : r < k) (hq : q < n) : (newRows n k m).set q ((newRows n k m).getD q [] ++ [((m : Int) + 1)]) = newRows n k (m + 1) := by
  apply List.ext_getElem
  · simp [newRows]
  · intro i h1 h2
    have hi : i < n := by simpa [newRows_len] using h2
    rw [show (newRows n k (m + 1))[i] = _ from (getD_lt _ _ [] h2).symm.trans (newRows_row n k (m + 1) i hi)]
    by_cases e : q = i
    · subst e
      rw [List.getElem_set_self, newRows_row n k m _ hq]
      have e1 : min k (m - q * k) = r := by omega
      have e2 : min k (m + 1 - q * k) = r + 1 := by omega
      rw [e1, e2, List.range_succ, List.map_append]
      congr 1
      simp; omega
    · rw [List.getElem_set_ne e, show (newRows n k m)[i]'(by simpa [newRows_len] using hi) = _ from (getD_lt _ _ [] (by simpa [newRows_len] using hi)).symm.trans (newRows_row n k m i hi)]
      have : min k (m + 1 - i * k) = min k (m - i * k) := by
        rcases Nat.lt_or_ge i q with h | h
        · have : (i + 1) * k ≤ q * k := Nat.mul_le_mul_right _ h
          rw [Nat.add_mul] at this
          omega
        · have h' : q + 1 ≤ i := by omega
          have : (q + 1) * k ≤ i * k := Nat.mul_le_mul_right _ h'
          rw [Nat.add_mul] at this
          omega
      rw [this]
theorem newRows_next (n k m : Nat) (hk : 0 < k) (hm : m < n * k) : m / k < n ∧ (newRows n k m).set (m / k) ((newRows n k m).getD (m / k) [] ++ [((m : Int) + 1)]) = newRows n k (m + 1) := by
  have hd : m / k < n := Nat.div_lt_of_lt_mul (by rw [Nat.mul_comm]; exact hm)
  exact ⟨hd, newRows_next' n k (m / k) (m % k) m (by rw [Nat.mul_comm]; exact (Nat.div_add_mod m k).symm) (Nat.mod_lt m hk) hd⟩
theorem newRows_ids (n k m : Nat) (hm : m ≤ n * k) (hk : k ≤ 100000) : ∀ r ∈ newRows n k m, r.length ≤ 100000 ∧ ∀ x ∈ r, 1 ≤ x ∧ x < ((1 + n * k : Nat) : Int) := by
  intro r hr
  unfold newRows at hr
  obtain ⟨t, ht, rfl⟩ := List.mem_map.1 hr
  refine ⟨?_, ?_⟩
  · rw [List.length_map]; exact Nat.le_trans (List.length_filter_le _ _) (by simpa using hk)
  · intro x hx
    obtain ⟨j, hj, rfl⟩ := List.mem_map.1 hx
    have := (List.mem_filter.1 hj).2
    simp at this
    omega

theorem At.made (w : World) (p rb ob n k : Nat) (S : Nat → Prop) (hp : Row w p [.slice (some ⟨rb, 0, none⟩) n n, .slice (some ⟨ob, 0, none⟩) (1 + n * k : Nat) (1 + n * k : Nat)]) (hr : Row w rb (List.replicate n nilv)) (ho : Row w ob (List.replicate (1 + n * k) (.bool false)))
    (e1 : p ≠ rb) (e2 : p ≠ ob) (e3 : rb ≠ ob) (s1 : S p) (s2 : S rb) (s3 : S ob) (hlt : ∀ b, S b → b < w.heap.size) (hn : n ≤ 64) (hk : k ≤ 8) : At w p rb ob (List.replicate n nilv) S (newRows n k 0) (List.replicate (1 + n * k) false) := by
  have hnk : n * k ≤ 64 * 8 := Nat.mul_le_mul hn hk
  have gv : ∀ t, (List.replicate n nilv).getD t nilv = nilv := fun t => by
    rcases Nat.lt_or_ge t n with h | h
    · rw [getD_lt _ _ _ (by simpa using h)]; exact List.getElem_replicate _
    · simp [List.getD, h]
  refine ⟨?_, hr, by simp [newRows_len], by simpa using ho, ?_, ?_, ?_, e1, e2, e3, s1, s2, s3, hlt, newRows_zero n k ▸ ?_, ?_⟩
  · rw [newRows_len, List.length_replicate]; exact hp
  · intro t ht
    rw [newRows_len] at ht
    rw [gv, newRows_zero, getD_lt _ _ _ (by simpa using ht), List.getElem_replicate]
    exact World.ownsRow_nil _ _ _ _
  · intro t t' b _ _ h; rw [gv] at h; simp [nilv, Value.ownBlock] at h
  · intro t b _ h; rw [gv] at h; simp [nilv, Value.ownBlock] at h
  · intro r hr
    rw [List.mem_replicate] at hr
    rw [hr.2]
    exact ⟨by simp, fun x hx => by simp at hx⟩
  · rw [newRows_len]; simp; omega
theorem info_bool : (Try.prog.info? 4).map (fun i => (i.zero, i.size, i.bytes)) = some (some (.bool false), 1, 1) := by kernel_rfl
theorem info_row : (Try.prog.info? 26).map (fun i => (i.zero, i.size, i.bytes)) = some (some (.slice none 0 0), 1, 24) := by kernel_rfl
theorem new_no (w : World) (n k : Int) (h : n < 1 ∨ 64 < n ∨ k < 1 ∨ 8 < k) :
    Calls Try.prog 6 #[.int .i64 n, .int .i64 k] w fun e w' => e = .returned (.tuple #[.pointer none, .int .i64 1]) ∧ w = w' := by
  by_cases c1 : n < 1
  · clear h
    go_enter Try.func6, Try.ntmps6
    go_wp2
    all_goals (go_ret2; exact ⟨rfl, rfl⟩)
  by_cases c2 : 64 < n
  · clear h
    go_enter Try.func6, Try.ntmps6
    go_wp2
    all_goals (go_ret2; exact ⟨rfl, rfl⟩)
  by_cases c3 : k < 1
  · clear h
    go_enter Try.func6, Try.ntmps6
    go_wp2
    all_goals (go_ret2; exact ⟨rfl, rfl⟩)
  have c4 : 8 < k := by omega
  clear h
  go_enter Try.func6, Try.ntmps6
  go_wp2
  all_goals (go_ret2; exact ⟨rfl, rfl⟩)

set_option maxHeartbeats 2000000 in
theorem new_yes (w : World) (n k : Nat) (n1 : 1 ≤ n) (n2 : n ≤ 64) (k1 : 1 ≤ k) (k2 : k ≤ 8) :
    Calls Try.prog 6 #[.int .i64 n, .int .i64 k] w fun e w' => ∃ p, e = .returned (.tuple #[.pointer (some ⟨p, 0, none⟩), .int .i64 0]) ∧
      O w' p (fun b => w.heap.size ≤ b ∧ b < w'.heap.size) (newRows n k (n * k)) (List.replicate (1 + n * k) false) ∧ Below w.heap.size w w' := by
  have hnk : n * k ≤ 64 * 8 := Nat.mul_le_mul n2 k2
  have m1 := run_make_zeros (P := Try.prog) 50 26 (.slice none 0 0) 24 Try.underlying50 info_row rfl n (by omega) (by omega)
  have hz : (1 : Int) + (n : Int) * (k : Int) = ((1 + n * k : Nat) : Int) := by simp
  have m2 : ∀ W, (Instr.makeSlice 51 (.int .i64 (1 + (n : Int) * (k : Int))) (.int .i64 (1 + (n : Int) * (k : Int)))).run Try.prog W = .ok (.slice (some ⟨W.heap.size, 0, none⟩) (1 + n * k) (1 + n * k)) (W.alloc (.cells (zeros (1 + n * k) (.bool false)) 4)) := by
    intro W
    rw [hz]
    exact run_make_zeros (P := Try.prog) 51 4 (.bool false) 1 Try.underlying51 info_bool rfl (1 + n * k) (by omega) (by omega) W
  have hz2 : (0 : Int) ≤ (n : Int) * (k : Int) := by rw [← Int.natCast_mul]; omega
  have hz3 : (n : Int) * (k : Int) ≤ 512 := by rw [← Int.natCast_mul]; omega
  clear hz
  have a1 : (1 : Int) ≤ n := by omega
  have a2 : (n : Int) ≤ 64 := by omega
  have a3 : (1 : Int) ≤ k := by omega
  have a4 : (k : Int) ≤ 8 := by omega
  go_enter Try.func6, Try.ntmps6
  go_upto_region 3 with (fail)
  go_cut [6] from 22 to 30 (fun s6 wx => ∃ p, s6 = .pointer (some ⟨p, 0, none⟩) ∧ O wx p (fun b => w.heap.size ≤ b ∧ b < wx.heap.size) (newRows n k 0) (List.replicate (1 + n * k) false) ∧ Below w.heap.size w wx)
  case first =>
    go_wp2_with fail
    go_region
    all_goals
      go_wp2_with fail
      go_meet
      case rel => first
        | exact ⟨_, rfl, ⟨w.heap.size, w.heap.size + 1, _, At.made _ _ _ _ n k _ (Row.new' (by simp)).drew (((Row.ofZeros rfl).alloc _).alloc _).drew (((Row.ofZeros (by simp)).alloc _)).drew (by omega) (by omega) (by omega) ⟨by omega, by first | (simp; done) | (simp; omega)⟩ ⟨by omega, by first | (simp; done) | (simp; omega)⟩ ⟨by omega, by first | (simp; done) | (simp; omega)⟩ (fun b hb => hb.2) n2 k2⟩, below_drewN ((((Below.refl _ _).alloc (Nat.le_refl _) _).alloc (by simp) _).alloc (by simp; omega) _) 1⟩
        | exact ⟨_, rfl, ⟨w.heap.size + 1, w.heap.size, _, At.made _ _ _ _ n k _ (Row.new' (by simp)).drew (((Row.ofZeros (by simp)).alloc _)).drew (((Row.ofZeros rfl).alloc _).alloc _).drew (by omega) (by omega) (by omega) ⟨by omega, by first | (simp; done) | (simp; omega)⟩ ⟨by omega, by first | (simp; done) | (simp; omega)⟩ ⟨by omega, by first | (simp; done) | (simp; omega)⟩ (fun b hb => hb.2) n2 k2⟩, below_drewN ((((Below.refl _ _).alloc (Nat.le_refl _) _).alloc (by simp) _).alloc (by simp; omega) _) 1⟩
  case rest =>
    obtain ⟨p, rfl, hO, hB⟩ := hcut
    clear m1 m2
    go_wp2_with fail
    go_loopw [34] (fun i wr => ∃ m : Nat, m ≤ n * k ∧ i = .int .i64 m ∧ O wr p (fun b => w.heap.size ≤ b ∧ b < wr.heap.size) (newRows n k m) (List.replicate (1 + n * k) false) ∧ Below w.heap.size w wr) (fun i _ => n * k - (intOf i).toNat)
    case atStart => exact ⟨0, Nat.zero_le _, rfl, hO, hB⟩
    case round =>
      obtain ⟨m, hm, rfl, hO, hB⟩ := hrel
      by_cases hlt : m < n * k
      · have hlt' : (m : Int) < (n : Int) * (k : Int) := by rw [← Int.natCast_mul]; omega
        obtain ⟨hd, hnext⟩ := newRows_next n k m (by omega) hlt
        have hq0 : IntKind.i64.wrap ((m : Int) / (k : Int)) = ((m / k : Nat) : Int) := by
          have hz : ∀ z : Nat, z ≤ m → IntKind.i64.wrap (z : Int) = z := fun z hz => IntWalk.i64_in _ (by omega)
          rw [← Int.natCast_ediv]; exact hz _ (Nat.div_le_self m k)
        have hm0 : IntKind.i64.wrap ((m : Int) + 1) = (m : Int) + 1 := IntWalk.i64_in _ (by omega)
        have hk0 : ¬ k = 0 := by omega
        obtain ⟨q, hqq⟩ : ∃ q, m / k = q := ⟨_, rfl⟩
        rw [hqq] at hd hnext hq0
        have hqn : (q : Int) < (n : Int) := by omega
        have hq1 : (0 : Int) ≤ (q : Int) := by omega
        clear hqq
        have HNX := Lib.hid hnext
        obtain ⟨rb, ob, vs, ha⟩ := _root_.id hO
        have hq : q < (newRows n k m).length := by rw [newRows_len]; exact hd
        have c0 := ha.top.cell (i := 0) rfl
        have c1 := ha.vcell hq
        have hvb := fun b hb => ha.off (q) b hq hb
        have hown := ha.own (q) hq
        have hids := ha.ids _ (mem_getD (d := []) hq)
        obtain ⟨v, hv⟩ : ∃ v, vs.getD (q) nilv = v := ⟨_, rfl⟩
        obtain ⟨xs, hxx⟩ : ∃ xs, (newRows n k m).getD (q) [] = xs := ⟨_, rfl⟩
        rw [hv] at c1 hvb hown
        rw [hxx] at hown hids
        rw [newRows_len] at c0
        rw [newRows_len] at hq
        have hxl := hids.1
        have T0 := (ha.top.alloc (.cells #[.int .i64 ((m : Int) + 1)] 3)).drew
        rw [newRows_len] at T0
        have T1 := (ha.row.alloc (.cells #[.int .i64 ((m : Int) + 1)] 3)).drew
        have t1 : vs[q]? = some v := by have h3 := ha.vl; rw [newRows_len] at h3; rw [← hv, List.getD, List.getElem?_eq_getElem (show q < vs.length by omega)]; rfl
        have HT1 := Lib.hid t1
        have HVB := Lib.hid hvb
        have b0 := T0.cell (i := 0) rfl
        have b1 := T1.cell HT1.out
        have hown2 : ((wr.alloc (.cells #[.int .i64 ((m : Int) + 1)] 3)).drew).ownsRow 0 3 1 v xs.length (ints .i64 xs) := own_upd hown (((Upd.refl (fun _ => False) _).alloc _).drew) (fun _ _ => _root_.id)
        have n7 : Row ((wr.alloc (.cells #[.int .i64 ((m : Int) + 1)] 3)).drew) wr.heap.size [.int .i64 ((m : Int) + 1)] := (Row.new' rfl).drew
        obtain ⟨ti, i1, i2, i3, i4⟩ := info_parts info_i64
        rw [hxx] at HNX
        have put' : ∀ (g gc : Nat) (w8 : World), w8.ownsRow 0 3 1 (.slice (some ⟨g, 0, none⟩) (xs.length + 1) gc) (xs.length + 1) (ints .i64 xs ++ [.int .i64 ((m : Int) + 1)]) → Upd (fun k => v.ownBlock = some k) ((wr.alloc (.cells #[.int .i64 ((m : Int) + 1)] 3)).drew) w8 → (v.ownBlock = some g ∨ g = ((wr.alloc (.cells #[.int .i64 ((m : Int) + 1)] 3)).drew).heap.size) → g < w8.heap.size →
            O (w8.setCell ⟨rb, q, none⟩ (.slice (some ⟨g, 0, none⟩) (xs.length + 1) gc)) p (fun b => w.heap.size ≤ b ∧ b < (w8.setCell ⟨rb, q, none⟩ (.slice (some ⟨g, 0, none⟩) (xs.length + 1) gc)).heap.size) (newRows n k (m + 1)) (List.replicate (1 + n * k) false) ∧ Below w.heap.size w (w8.setCell ⟨rb, q, none⟩ (.slice (some ⟨g, 0, none⟩) (xs.length + 1) gc)) := by
          intro g gc w8 ho hu hat hlt
          have hS' : ∀ {b : Nat}, (w.heap.size ≤ b ∧ b < wr.heap.size) → w.heap.size ≤ b := fun h => h.1
          have ha1 := (ha.below ((Below.refl _ _).alloc (Nat.le_refl _) (.cells #[.int .i64 ((m : Int) + 1)] 3))).below (below_drewN (Below.refl _ _) 1)
          rw [ints_snoc] at ho
          have hs3 := hB.size
          have hs4 : wr.heap.size + 1 ≤ w8.heap.size := by have := hu.size; change (wr.alloc _).heap.size ≤ _ at this; simpa using this
          rw [← HNX.out]
          have hsz : (w8.setCell ⟨rb, q, none⟩ (.slice (some ⟨g, 0, none⟩) (xs.length + 1) gc)).heap.size = w8.heap.size := by simp [World.setCell]
          have hgp : w.heap.size ≤ g := by
            rcases hat with e | e
            · exact (hvb _ e).2.2.2.1
            · have e2 : g = (wr.alloc (.cells #[.int .i64 ((m : Int) + 1)] 3)).heap.size := e
              simp at e2; omega
          refine ⟨⟨rb, ob, _, ha1.setVal q (by rw [newRows_len]; exact hd) _ _ (by rw [hv]; exact hu) (by simpa using ho) ?_ ?_ ?_ ⟨?_, ?_⟩⟩, ?_⟩
          · intro b hb
            simp [Value.ownBlock] at hb
            subst hb
            rcases hat with e | e
            · exact .inl (by rw [hv]; exact e)
            · exact .inr (Nat.le_of_eq e.symm)
          · rintro b (⟨hb1, hb2⟩ | hb)
            · exact ⟨hb1, by rw [hsz]; omega⟩
            · simp [Value.ownBlock] at hb; subst hb; exact ⟨hgp, by rw [hsz]; exact hlt⟩
          · rintro b ⟨_, hb2⟩
            rw [hsz] at hb2; exact hb2
          · have h9 := (newRows_ids n k (m + 1) (by omega) (by omega) (xs ++ [(m : Int) + 1]) (by rw [← HNX.out]; exact List.mem_of_getElem? (i := q) (by rw [List.getElem?_set_self (by rw [newRows_len]; exact hd)]))).1
            exact h9
          · have h9 := (newRows_ids n k (m + 1) (by omega) (by omega) (xs ++ [(m : Int) + 1]) (by rw [← HNX.out]; exact List.mem_of_getElem? (i := q) (by rw [List.getElem?_set_self (by rw [newRows_len]; exact hd)]))).2
            simpa using h9
          · exact (((hB.alloc hB.size _).trans ⟨hu.os, hu.tape, hu.output, by have := hu.size; change (wr.alloc _).heap.size ≤ _ at this; simp at this ⊢; omega, fun b hb => hu.block b (by change b < (wr.alloc _).heap.size; simp; omega) (fun e => by have := (hvb _ e).2.2.2.1; omega)⟩)).setCell (by exact ((hS' ha.sr))) _
        have PUT := Lib.hid put'
        clear t1 hvb ha hv hown put' hxx HNX hd
        go_wp2_with fail
        go_region_law (refine step_append_lies _ rfl (.tmp 52) (.tmp 55) 26 rfl 0 3 ti (.int .i64 0) 1 8 Try.underlying26 i1 i2 i3 i4 rfl (by decide) v xs.length (ints .i64 xs) rfl hown2 ⟨wr.heap.size, 0, none⟩ 1 1 [.int .i64 ((m : Int) + 1)] rfl rfl (row_news n7) (one_cell rfl) (by decide) (by unfold maxLen; omega) (by omega) (Nat.zero_le _) _ rfl ?_; intro g gc w8 hown8 hgrow hat hlt8; have u8 := Upd.grown hgrow; have e7 := (T0.upd u8 (fun e => (HVB.out _ e).1 rfl)).cell (i := 0) rfl; have e8 := (T1.upd u8 (fun e => (HVB.out _ e).2.1 rfl)).cell HT1.out; have f8 := (T1.upd u8 (fun e => (HVB.out _ e).2.1 rfl)).frozen (q))
        all_goals
          go_wp2_with fail
          go_roundw
          case rel => exact ⟨m + 1, by omega, by go_num, PUT.out _ _ _ hown8 u8 hat hlt8⟩
          case measure => simp [intOf]; omega
      · obtain rfl : m = n * k := by omega
        have hlt' : ¬ ((n * k : Nat) : Int) < (n : Int) * (k : Int) := by rw [← Int.natCast_mul]; omega
        go_wp2_with fail
        go_ret2
        exact ⟨p, rfl, hO, hB⟩
end Go.Proofs.Ytnmldhagdgghoaa.Pool
