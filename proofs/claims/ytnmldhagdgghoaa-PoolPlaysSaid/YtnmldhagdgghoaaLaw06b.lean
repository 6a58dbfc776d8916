/- Layer 6 (pool): rows of which no two have one node, and what giving makes of them. -/
import Derived.Test.YtnmldhagdgghoaaLaw06
namespace Go.Proofs.Ytnmldhagdgghoaa.Law06
open Go Go.RowKit Go.Proofs.Ytnmldhagdgghoaa.Heap Go.Proofs.Ytnmldhagdgghoaa.Open Go.Proofs.Ytnmldhagdgghoaa.Sl Go.Proofs.Ytnmldhagdgghoaa.Pool

/-- No two rows have one node, no row has one twice; no row is longer than B. -/
structure G (rows : List (List Int)) (B : Nat) : Prop where
  nd : ∀ t, t < rows.length → (rows.getD t []).Nodup
  dj : ∀ t t' x, t < rows.length → t' < rows.length → x ∈ rows.getD t [] → x ∈ rows.getD t' [] → t = t'
  le : ∀ t, t < rows.length → (rows.getD t []).length ≤ B
theorem set_get {rows : List (List Int)} {k : Nat} (hk : k < rows.length) (x : List Int) (t : Nat) : (rows.set k x).getD t [] = if t = k then x else rows.getD t [] := by
  by_cases e : t = k
  · subst e; simp [List.getD, List.getElem?_set_self hk]
  · rw [if_neg e, List.getD, List.getElem?_set_ne (fun z => e z.symm)]; rfl
theorem filter_out (l : List Int) (id : Int) (h : l.contains id = false) : l.filter (· != id) = l := by
  rw [List.filter_eq_self]
  intro x hx
  simp
  rintro rfl
  rw [List.contains_iff_mem.2 hx] at h
  cases h
theorem strike_get (rows : List (List Int)) (B : Nat) (g : G rows B) (id : Int) (t : Nat) (ht : t < rows.length) : (strike rows id).getD t [] = (rows.getD t []).filter (· != id) := by
  unfold strike
  rcases whose_cases rows id with ⟨e, hn⟩ | ⟨k, e, hk, hc, hn⟩
  · rw [e, if_neg (by omega)]
    exact (filter_out _ _ (hn t ht)).symm
  · rw [e, if_pos (by omega), Int.toNat_natCast, set_get hk]
    by_cases h : t = k
    · rw [if_pos h, h]
    · rw [if_neg h]
      refine (filter_out _ _ ?_).symm
      cases hb : (rows.getD t []).contains id with
      | false => rfl
      | true => exact absurd (g.dj t k id ht hk (List.contains_iff_mem.1 hb) (List.contains_iff_mem.1 hc)) h
theorem put_get (rows : List (List Int)) (id dt : Int) (h : dt < rows.length) (t : Nat) : (put rows id dt).getD t [] = rows.getD t [] ++ (if (t : Int) = dt then [id] else []) := by
  unfold put
  by_cases h0 : 0 ≤ dt
  · obtain ⟨k, rfl⟩ := Int.eq_ofNat_of_zero_le h0
    rw [if_pos h0, Int.toNat_natCast, set_get (by omega)]
    by_cases e : t = k
    · subst e; rw [if_pos rfl, if_pos rfl]
    · rw [if_neg e, if_neg (by omega), List.append_nil]
  · rw [if_neg h0, if_neg (by omega), List.append_nil]
theorem put_len (rows : List (List Int)) (id dt : Int) : (put rows id dt).length = rows.length := by unfold put; split <;> simp
theorem give_len (rows : List (List Int)) (n : Nat) (id dt : Int) : (give rows n id dt).2.length = rows.length := by
  unfold give; split
  · rw [put_len, strike_len]
  · rfl
theorem give_get (rows : List (List Int)) (B n : Nat) (g : G rows B) (id dt : Int) (h : isNode id n = true ∧ -1 ≤ dt ∧ dt < rows.length) (t : Nat) (ht : t < rows.length) :
    (give rows n id dt).2.getD t [] = (rows.getD t []).filter (· != id) ++ (if (t : Int) = dt then [id] else []) := by
  unfold give
  rw [if_pos h]
  show (put (strike rows id) id dt).getD t [] = _
  rw [put_get _ _ _ (by rw [strike_len]; exact h.2.2), strike_get rows B g id t ht]
theorem G.give {rows : List (List Int)} {B : Nat} (g : G rows B) (n : Nat) (id dt : Int) : G (give rows n id dt).2 (B + 1) := by
  by_cases h : isNode id n = true ∧ -1 ≤ dt ∧ dt < rows.length
  · have gg := fun t ht => give_get rows B n g id dt h t ht
    refine ⟨?_, ?_, ?_⟩
    · intro t ht
      rw [give_len] at ht
      rw [gg t ht]
      have h1 := (g.nd t ht).filter (· != id)
      split
      · rw [List.nodup_append]
        refine ⟨h1, by simp, ?_⟩
        intro a ha b hb
        simp at hb
        subst hb
        have := (List.mem_filter.1 ha).2
        simpa using this
      · rw [List.append_nil]; exact h1
    · intro t t' x ht ht' hx hx'
      rw [give_len] at ht ht'
      rw [gg t ht] at hx
      rw [gg t' ht'] at hx'
      rcases List.mem_append.1 hx with hx | hx
      · have h1 := List.mem_filter.1 hx
        rcases List.mem_append.1 hx' with hx' | hx'
        · exact g.dj t t' x ht ht' h1.1 (List.mem_filter.1 hx').1
        · split at hx'
          · simp at hx'; subst hx'; simp at h1
          · simp at hx'
      · split at hx
        · simp at hx
          subst hx
          rcases List.mem_append.1 hx' with hx' | hx'
          · have := (List.mem_filter.1 hx').2; simp at this
          · split at hx'
            · rename_i e1 e2; omega
            · simp at hx'
        · simp at hx
    · intro t ht
      rw [give_len] at ht
      rw [gg t ht]
      have h1 := g.le t ht
      have h2 := List.length_filter_le (· != id) (rows.getD t [])
      rw [List.length_append]
      split <;> simp only [List.length_singleton, List.length_nil] <;> omega
  · unfold Pool.give
    rw [if_neg h]
    exact ⟨g.nd, g.dj, fun t ht => Nat.le_succ_of_le (g.le t ht)⟩
theorem newRows_G (n k : Nat) : G (newRows n k (n * k)) k := by
  have hr := fun t (ht : t < n) => newRows_row n k (n * k) t ht
  refine ⟨?_, ?_, ?_⟩
  · intro t ht
    rw [newRows_len] at ht
    rw [hr t ht]
    rw [List.nodup_iff_pairwise_ne, List.pairwise_map]
    exact List.Pairwise.imp (fun h e => h (by omega)) List.nodup_range
  · intro t t' x ht ht' hx hx'
    rw [newRows_len] at ht ht'
    rw [hr t ht] at hx
    rw [hr t' ht'] at hx'
    obtain ⟨j, hj, rfl⟩ := List.mem_map.1 hx
    obtain ⟨j', hj', e⟩ := List.mem_map.1 hx'
    simp at hj hj'
    rcases Nat.lt_trichotomy t t' with h | h | h
    · have : (t + 1) * k ≤ t' * k := Nat.mul_le_mul_right _ h
      rw [Nat.add_mul] at this
      omega
    · exact h
    · have : (t' + 1) * k ≤ t * k := Nat.mul_le_mul_right _ h
      rw [Nat.add_mul] at this
      omega
  · intro t ht
    rw [newRows_len] at ht
    rw [hr t ht]
    simp; omega
theorem give_all (w : World) (p : Nat) (S : Nat → Prop) (rows : List (List Int)) (out : List Bool) (h : O w p S rows out) (B : Nat) (g : G rows B) (hB : B < 90000) (id dt : Int) :
    Calls Try.prog 13 #[.pointer (some ⟨p, 0, none⟩), .int .i64 id, .int .i64 dt] w fun e w' => e = .returned (.int .i64 (give rows out.length id dt).1) ∧ ∃ S', O w' p S' (give rows out.length id dt).2 out ∧ Upd S w w' ∧ (∀ b, S' b → S b ∨ w.heap.size ≤ b) := by
  by_cases hn : isNode id out.length = true ∧ -1 ≤ dt ∧ dt < rows.length
  · have E : give rows out.length id dt = (0, put (strike rows id) id dt) := by unfold give; rw [if_pos hn]
    rw [E]
    exact give_yes w p S rows out h id dt hn.1 hn.2.1 hn.2.2 (fun r hr => by
      obtain ⟨i, hi, rfl⟩ := List.mem_iff_getElem.1 hr
      have := g.le i hi
      rw [getD_lt _ _ _ hi] at this
      omega)
  · have E : give rows out.length id dt = (1, rows) := by unfold give; rw [if_neg hn]
    rw [E]
    exact (give_no w p S rows out h id dt hn).mono fun e w' ⟨he, hb⟩ => ⟨he, S, h.below hb, Upd.of_below hb, fun b hb => .inl hb⟩
end Go.Proofs.Ytnmldhagdgghoaa.Law06
