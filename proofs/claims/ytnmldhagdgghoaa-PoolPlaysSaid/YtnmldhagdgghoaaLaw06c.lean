/- Layer 6 (pool): the document's pool by value, and that the program's is one with it. No program in sight but the pool's values. -/
import Derived.Test.YtnmldhagdgghoaaLaw06b
namespace Go.Proofs.Ytnmldhagdgghoaa.Ref06
open Go Go.RowKit Go.Proofs.Ytnmldhagdgghoaa.Heap Go.Proofs.Ytnmldhagdgghoaa.Open Go.Proofs.Ytnmldhagdgghoaa.Sl Go.Proofs.Ytnmldhagdgghoaa.Pool Go.Proofs.Ytnmldhagdgghoaa.Law06

/-- A node: whose, since which giving, out. -/
structure Nd where
  of : Int
  si : Int
  ou : Bool
def n0 : Nd := ⟨-1, -1, false⟩
def ncell (x : Nd) : List Value := [.int .i64 x.of, .int .i64 x.si, .bool x.ou]
/-- Does node i stand in t's row at s? -/
def hit (L : List Nd) (s t : Int) (i : Nat) : Bool := decide ((L.getD i n0).si = s) && decide ((L.getD i n0).of = t) && decide (0 ≤ t)
/-- A row: of the first m givings. -/
def refRow (L : List Nd) (t : Int) (m : Nat) : List Int := (List.range m).flatMap fun (s : Nat) => ((List.range L.length).filter (hit L (s : Int) t)).map fun (i : Nat) => (i : Int) + 1
theorem refRow_succ (L : List Nd) (t : Int) (m : Nat) : refRow L t (m + 1) = refRow L t m ++ ((List.range L.length).filter (hit L m t)).map fun (i : Nat) => (i : Int) + 1 := by
  unfold refRow; rw [List.range_succ, List.flatMap_append]; simp
/-- A row amid its making. -/
def refMid (L : List Nd) (t : Int) (m j : Nat) : List Int := refRow L t m ++ ((List.range j).filter (hit L m t)).map fun (i : Nat) => (i : Int) + 1
theorem refMid_zero (L : List Nd) (t : Int) (m : Nat) : refMid L t m 0 = refRow L t m := by simp [refMid]
theorem refMid_all (L : List Nd) (t : Int) (m : Nat) : refMid L t m L.length = refRow L t (m + 1) := (refRow_succ L t m).symm
theorem refMid_next (L : List Nd) (t : Int) (m j : Nat) : refMid L t m (j + 1) = refMid L t m j ++ if hit L m t j = true then [(j : Int) + 1] else [] := by
  unfold refMid
  rw [List.range_succ, List.filter_append, List.map_append, List.append_assoc]
  congr 2
  by_cases h : hit L m t j = true
  · rw [if_pos h, List.filter_cons_of_pos h]; rfl
  · rw [if_neg h, List.filter_cons_of_neg h]; rfl
theorem refRow_zero (L : List Nd) (t : Int) : refRow L t 0 = [] := rfl
theorem mem_ref (L : List Nd) (t : Int) (m : Nat) (x : Int) : x ∈ refRow L t m ↔ ∃ i : Nat, i < L.length ∧ x = (i : Int) + 1 ∧ (L.getD i n0).of = t ∧ 0 ≤ t ∧ 0 ≤ (L.getD i n0).si ∧ (L.getD i n0).si < m := by
  unfold refRow
  rw [List.mem_flatMap]
  constructor
  · rintro ⟨s, hs, hx⟩
    obtain ⟨i, hi, rfl⟩ := List.mem_map.1 hx
    obtain ⟨h1, h2⟩ := List.mem_filter.1 hi
    simp only [hit, Bool.and_eq_true, decide_eq_true_eq] at h2
    simp only [List.mem_range] at h1 hs
    exact ⟨i, h1, rfl, h2.1.2, h2.2, by omega, by omega⟩
  · rintro ⟨i, h1, rfl, h2, h3, h4, h5⟩
    refine ⟨((L.getD i n0).si).toNat, List.mem_range.2 (by omega), List.mem_map.2 ⟨i, List.mem_filter.2 ⟨by simpa using h1, ?_⟩, rfl⟩⟩
    simp only [hit, Bool.and_eq_true, decide_eq_true_eq]
    exact ⟨⟨by omega, h2⟩, h3⟩
/-- Since when a node's number is where it is. -/
def key (L : List Nd) (x : Int) : Int := (L.getD (x - 1).toNat n0).si
theorem key_nat (L : List Nd) (i : Nat) : key L ((i : Int) + 1) = (L.getD i n0).si := by unfold key; rw [show ((i : Int) + 1 - 1).toNat = i by omega]
/-- Since when each is: no two the same, all below C. -/
structure Ok (L : List Nd) (C : Nat) (n : Nat) : Prop where
  lo : ∀ i, i < L.length → 0 ≤ (L.getD i n0).si ∧ (L.getD i n0).si < C
  inj : ∀ i j, i < L.length → j < L.length → (L.getD i n0).si = (L.getD j n0).si → i = j
  of : ∀ i, i < L.length → -1 ≤ (L.getD i n0).of ∧ (L.getD i n0).of < n
theorem ref_pw (L : List Nd) (C n : Nat) (h : Ok L C n) (t : Int) : ∀ m, (refRow L t m).Pairwise (fun a b => key L a < key L b)
  | 0 => List.Pairwise.nil
  | m + 1 => by
    rw [refRow_succ]
    have hk : ∀ x ∈ ((List.range L.length).filter (hit L m t)).map (fun (i : Nat) => (i : Int) + 1), ∃ i : Nat, i < L.length ∧ x = (i : Int) + 1 ∧ (L.getD i n0).si = m := fun x hx => by
      obtain ⟨i, hi, rfl⟩ := List.mem_map.1 hx
      obtain ⟨h1, h2⟩ := List.mem_filter.1 hi
      simp only [hit, Bool.and_eq_true, decide_eq_true_eq] at h2
      exact ⟨i, by simpa using h1, rfl, h2.1.1⟩
    refine List.pairwise_append.2 ⟨ref_pw L C n h t m, ?_, fun a ha b hb => ?_⟩
    · have nd : (((List.range L.length).filter (hit L m t)).map fun (i : Nat) => (i : Int) + 1).Nodup := by
        rw [List.nodup_iff_pairwise_ne, List.pairwise_map]
        exact ((List.nodup_range (n := L.length)).filter _).imp fun hne e => hne (by omega)
      refine List.Pairwise.imp_of_mem (fun {a b} ha hb hne => ?_) nd
      obtain ⟨i, i1, rfl, i2⟩ := hk a ha
      obtain ⟨j, j1, rfl, j2⟩ := hk b hb
      have := h.inj i j i1 j1 (by omega)
      subst this
      exact absurd rfl hne
    · obtain ⟨i, i1, rfl, _, _, _, i2⟩ := (mem_ref L t m a).1 ha
      obtain ⟨j, j1, rfl, j2⟩ := hk b hb
      rw [key_nat, key_nat]; omega
/-- Two rows in one order that have the same are one. -/
theorem sorted_eq (f : Int → Int) : ∀ (a b : List Int), a.Pairwise (fun x y => f x < f y) → b.Pairwise (fun x y => f x < f y) → (∀ x, x ∈ a ↔ x ∈ b) → a = b
  | [], [], _, _, _ => rfl
  | [], y :: b, _, _, h => absurd ((h y).2 (List.mem_cons_self ..)) (by simp)
  | x :: a, [], _, _, h => absurd ((h x).1 (List.mem_cons_self ..)) (by simp)
  | x :: a, y :: b, ha, hb, h => by
    obtain ⟨a1, a2⟩ := List.pairwise_cons.1 ha
    obtain ⟨b1, b2⟩ := List.pairwise_cons.1 hb
    have e : x = y := by
      rcases List.mem_cons.1 ((h x).1 (List.mem_cons_self ..)) with e | e
      · exact e
      · rcases List.mem_cons.1 ((h y).2 (List.mem_cons_self ..)) with e' | e'
        · exact e'.symm
        · have := a1 y e'; have := b1 x e; omega
    subst e
    rw [sorted_eq f a b a2 b2 fun z => ?_]
    constructor
    · intro hz
      rcases List.mem_cons.1 ((h z).1 (List.mem_cons_of_mem _ hz)) with e | e
      · subst e; have := a1 z hz; omega
      · exact e
    · intro hz
      rcases List.mem_cons.1 ((h z).2 (List.mem_cons_of_mem _ hz)) with e | e
      · subst e; have := b1 z hz; omega
      · exact e
/-- The program's pool and the document's are one. -/
structure Rel (n : Nat) (rows : List (List Int)) (out : List Bool) (L : List Nd) (C B : Nat) : Prop where
  rl : rows.length = n
  ou : out = false :: L.map Nd.ou
  ok : Ok L C n
  row : ∀ t : Nat, t < n → rows.getD t [] = refRow L t C
  g : G rows B
theorem Rel.mem {n : Nat} {rows : List (List Int)} {out : List Bool} {L : List Nd} {C B : Nat} (h : Rel n rows out L C B) (t : Nat) (ht : t < n) (x : Int) : x ∈ rows.getD t [] ↔ ∃ i : Nat, i < L.length ∧ x = (i : Int) + 1 ∧ (L.getD i n0).of = t := by
  rw [h.row t ht, mem_ref]
  constructor
  · rintro ⟨i, a, b, c, _⟩; exact ⟨i, a, b, c⟩
  · rintro ⟨i, a, b, c⟩; exact ⟨i, a, b, c, by omega, (h.ok.lo i a).1, (h.ok.lo i a).2⟩
theorem Rel.len {n : Nat} {rows : List (List Int)} {out : List Bool} {L : List Nd} {C B : Nat} (h : Rel n rows out L C B) : out.length = L.length + 1 := by rw [h.ou]; simp
/-- Rows that there are, and that there aren't. -/
theorem Rel.rowOf {n : Nat} {rows : List (List Int)} {out : List Bool} {L : List Nd} {C B : Nat} (h : Rel n rows out L C B) (t : Int) : rowOf rows t = refRow L t C := by
  unfold Pool.rowOf
  split
  · rename_i q
    obtain ⟨k, rfl⟩ := Int.eq_ofNat_of_zero_le q.1
    rw [Int.toNat_natCast]
    exact h.row k (by rw [← h.rl]; omega)
  · rename_i q
    symm
    rw [List.eq_nil_iff_forall_not_mem]
    intro x hx
    obtain ⟨i, i1, _, i2, i3, _⟩ := (mem_ref L t C x).1 hx
    have := h.ok.of i i1
    rw [h.rl] at q
    exact q ⟨i3, by omega⟩
theorem Rel.whose {n : Nat} {rows : List (List Int)} {out : List Bool} {L : List Nd} {C B : Nat} (h : Rel n rows out L C B) (x : Int) : whose rows x = if 1 ≤ x ∧ x ≤ L.length then (L.getD (x - 1).toNat n0).of else -1 := by
  rcases whose_cases rows x with ⟨e, hn⟩ | ⟨k, e, hk, hc, _⟩
  · rw [e]
    split
    · rename_i q
      have ho := h.ok.of (x - 1).toNat (by omega)
      by_cases z : (L.getD (x - 1).toNat n0).of = -1
      · exact z.symm
      · exfalso
        obtain ⟨k, hk⟩ : ∃ k : Nat, (L.getD (x - 1).toNat n0).of = k := ⟨((L.getD (x - 1).toNat n0).of).toNat, by omega⟩
        have := hn k (by rw [h.rl]; omega)
        rw [List.contains_iff_mem.2 ((h.mem k (by omega) x).2 ⟨(x - 1).toNat, by omega, by omega, hk⟩)] at this
        cases this
    · rfl
  · obtain ⟨i, i1, rfl, i2⟩ := (h.mem k (by rw [← h.rl]; exact hk) x).1 (List.contains_iff_mem.1 hc)
    rw [e, if_pos (by omega), show ((i : Int) + 1 - 1).toNat = i by omega, i2]
theorem Rel.out_get {n : Nat} {rows : List (List Int)} {out : List Bool} {L : List Nd} {C B : Nat} (h : Rel n rows out L C B) (i : Nat) (hi : i < L.length) : out.getD (i + 1) false = (L.getD i n0).ou := by
  rw [h.ou]
  simp [List.getD, hi]
theorem Rel.isOut {n : Nat} {rows : List (List Int)} {out : List Bool} {L : List Nd} {C B : Nat} (h : Rel n rows out L C B) (i : Nat) (hi : i < L.length) : isOut out ((i : Int) + 1) = (L.getD i n0).ou := by
  unfold Pool.isOut
  rw [show ((i : Int) + 1) = ((i + 1 : Nat) : Int) by omega, isNode_mk (by omega) (by rw [h.len]; omega), Int.toNat_natCast, h.out_get i hi]; rfl
theorem nds_set (L : List Nd) (k : Nat) (hk : k < L.length) (y : Nd) (i : Nat) : (L.set k y).getD i n0 = if i = k then y else L.getD i n0 := by
  by_cases e : i = k
  · subst e; rw [if_pos rfl]; simp [List.getD, List.getElem?_set_self hk]
  · rw [if_neg e, List.getD, List.getElem?_set_ne (fun z => e z.symm)]; rfl
/-- Out, or back: whose, and since when, stay. -/
theorem Rel.turn {n : Nat} {rows : List (List Int)} {out : List Bool} {L : List Nd} {C B : Nat} (h : Rel n rows out L C B) (k : Nat) (hk : k < L.length) (b : Bool) : Rel n rows (out.set (k + 1) b) (L.set k { L.getD k n0 with ou := b }) C B := by
  have gs := nds_set L k hk { L.getD k n0 with ou := b }
  have g1 : ∀ i, ((L.set k { L.getD k n0 with ou := b }).getD i n0).si = (L.getD i n0).si := fun i => by
    rw [gs]; split
    · rename_i e; rw [e]
    · rfl
  have g2 : ∀ i, ((L.set k { L.getD k n0 with ou := b }).getD i n0).of = (L.getD i n0).of := fun i => by
    rw [gs]; split
    · rename_i e; rw [e]
    · rfl
  refine ⟨h.rl, ?_, ⟨fun i hi => ?_, fun i j hi hj e => ?_, fun i hi => ?_⟩, fun t ht => ?_, h.g⟩
  · rw [h.ou, List.set_cons_succ, List.map_set]
  · rw [List.length_set] at hi; rw [g1]; exact h.ok.lo i hi
  · rw [List.length_set] at hi hj; rw [g1, g1] at e; exact h.ok.inj i j hi hj e
  · rw [List.length_set] at hi; rw [g2]; exact h.ok.of i hi
  · rw [h.row t ht]
    have hh : hit (L.set k { L.getD k n0 with ou := b }) = hit L := by
      funext s t i; unfold hit; rw [g1, g2]
    unfold refRow
    rw [hh, List.length_set]
/-- A giving. -/
theorem Rel.give {n : Nat} {rows : List (List Int)} {out : List Bool} {L : List Nd} {C B : Nat} (h : Rel n rows out L C B) (k : Nat) (hk : k < L.length) (dt : Int) (h1 : -1 ≤ dt) (h2 : dt < n) : Rel n (Pool.give rows out.length ((k : Int) + 1) dt).2 out (L.set k ⟨dt, C, (L.getD k n0).ou⟩) (C + 1) (B + 1) := by
  have gs := nds_set L k hk ⟨dt, C, (L.getD k n0).ou⟩
  have hn : isNode ((k : Int) + 1) out.length = true := by
    rw [show ((k : Int) + 1) = ((k + 1 : Nat) : Int) by omega]
    exact isNode_mk (by omega) (by rw [h.len]; omega)
  have gg := fun t ht => give_get rows B out.length h.g ((k : Int) + 1) dt ⟨hn, h1, by rw [h.rl]; exact h2⟩ t ht
  have ok : Ok (L.set k ⟨dt, C, (L.getD k n0).ou⟩) (C + 1) n := by
    refine ⟨fun i hi => ?_, fun i j hi hj e => ?_, fun i hi => ?_⟩
    · rw [List.length_set] at hi
      have := h.ok.lo i hi
      rw [gs]; split
      · dsimp only; omega
      · omega
    · rw [List.length_set] at hi hj
      have a := h.ok.lo i hi
      have b := h.ok.lo j hj
      rw [gs, gs] at e
      split at e <;> split at e
      · omega
      · dsimp only at e; omega
      · dsimp only at e; omega
      · exact h.ok.inj i j hi hj e
    · rw [List.length_set] at hi
      have := h.ok.of i hi
      rw [gs]; split
      · dsimp only; omega
      · exact this
  have kk : ∀ x : Int, x ≠ (k : Int) + 1 → 1 ≤ x → key (L.set k ⟨dt, C, (L.getD k n0).ou⟩) x = key L x := fun x hx h0 => by
    unfold key; rw [gs, if_neg (by omega)]
  refine ⟨by rw [give_len]; exact h.rl, ?_, ok, fun t ht => ?_, h.g.give _ _ _⟩
  · rw [h.ou, List.map_set]
    congr 1
    symm
    apply List.ext_getElem
    · simp
    · intro i i1 i2
      rw [List.getElem_set]
      split
      · rename_i e
        subst e
        simp [List.getD, hk]
      · rfl
  · have ht' : t < rows.length := by rw [h.rl]; exact ht
    rw [gg t ht']
    have hm := h.mem t ht
    have pw : (rows.getD t []).Pairwise (fun a b => key L a < key L b) := by rw [h.row t ht]; exact ref_pw L C n h.ok t C
    refine sorted_eq (key (L.set k ⟨dt, C, (L.getD k n0).ou⟩)) _ _ ?_ (ref_pw _ _ n ok t _) fun x => ?_
    · refine List.pairwise_append.2 ⟨(pw.filter _).imp_of_mem fun {a b} ha hb e => ?_, by split <;> simp, fun a ha b hb => ?_⟩
      · obtain ⟨a1, a2⟩ := List.mem_filter.1 ha
        obtain ⟨b1, b2⟩ := List.mem_filter.1 hb
        obtain ⟨i, _, rfl, _⟩ := (hm a).1 a1
        obtain ⟨j, _, rfl, _⟩ := (hm b).1 b1
        rw [kk _ (by simpa using a2) (by omega), kk _ (by simpa using b2) (by omega)]; exact e
      · obtain ⟨a1, a2⟩ := List.mem_filter.1 ha
        obtain ⟨i, i1, rfl, _⟩ := (hm a).1 a1
        split at hb
        · simp at hb
          subst hb
          rw [kk _ (by simpa using a2) (by omega), key_nat, key_nat, gs, if_pos rfl]
          exact (h.ok.lo i i1).2
        · simp at hb
    · rw [mem_ref, List.mem_append, List.mem_filter, hm x, List.length_set]
      constructor
      · rintro (⟨⟨i, i1, rfl, i2⟩, i3⟩ | hx)
        · have ne : i ≠ k := fun e => by subst e; simp at i3
          have lo := h.ok.lo i i1
          refine ⟨i, i1, rfl, ?_⟩
          rw [gs, if_neg ne]
          exact ⟨i2, by omega, lo.1, by omega⟩
        · split at hx
          · rename_i e
            simp at hx
            subst hx
            refine ⟨k, hk, rfl, ?_⟩
            rw [gs, if_pos rfl]
            exact ⟨e.symm, by omega, by dsimp only; omega, by dsimp only; omega⟩
          · simp at hx
      · rintro ⟨i, i1, rfl, i2, _⟩
        rw [gs] at i2
        by_cases e : i = k
        · subst e
          rw [if_pos rfl] at i2
          right
          rw [if_pos i2.symm]; simp
        · rw [if_neg e] at i2
          left
          exact ⟨⟨i, i1, rfl, i2⟩, by simp; omega⟩
/-- A new one. -/
def news (n k : Nat) : List Nd := (List.range (n * k)).map fun i => ⟨((i / k : Nat) : Int), i, false⟩
theorem news_len (n k : Nat) : (news n k).length = n * k := by simp [news]
theorem news_get (n k i : Nat) (h : i < n * k) : (news n k).getD i n0 = ⟨((i / k : Nat) : Int), i, false⟩ := by simp [news, List.getD, h]
theorem Rel.new (n k : Nat) (k1 : 1 ≤ k) : Rel n (newRows n k (n * k)) (List.replicate (1 + n * k) false) (news n k) (n * k) k := by
  have ok : Ok (news n k) (n * k) n := by
    refine ⟨fun i hi => ?_, fun i j hi hj e => ?_, fun i hi => ?_⟩
    · rw [news_len] at hi; rw [news_get n k i hi]; dsimp only; omega
    · rw [news_len] at hi hj; rw [news_get n k i hi, news_get n k j hj] at e; dsimp only at e; omega
    · rw [news_len] at hi
      have : i / k < n := Nat.div_lt_of_lt_mul (by rw [Nat.mul_comm]; exact hi)
      have h0 : (0 : Int) ≤ ((i / k : Nat) : Int) := Int.natCast_nonneg _
      rw [news_get n k i hi]; dsimp only; exact ⟨by omega, by exact_mod_cast this⟩
  refine ⟨newRows_len _ _ _, ?_, ok, fun t ht => ?_, newRows_G n k⟩
  · rw [Nat.add_comm, List.replicate_succ]
    congr 1
    apply List.ext_getElem
    · simp [news]
    · intro i h1 h2; simp [news]
  · have hr := rowOf_new n k t ht
    unfold Pool.rowOf at hr
    rw [if_pos ⟨by omega, by rw [newRows_len]; omega⟩, Int.toNat_natCast] at hr
    rw [hr]
    have hle : (t + 1) * k ≤ n * k := Nat.mul_le_mul_right _ ht
    rw [Nat.add_mul] at hle
    refine sorted_eq (key (news n k)) _ _ ?_ (ref_pw _ _ n ok t _) fun x => ?_
    · rw [List.pairwise_map]
      refine List.Pairwise.imp_of_mem (fun {a b} ha hb e => ?_) (List.pairwise_lt_range (n := k))
      simp only [List.mem_range] at ha hb
      rw [show ((t * k + a + 1 : Nat) : Int) = ((t * k + a : Nat) : Int) + 1 by omega, show ((t * k + b + 1 : Nat) : Int) = ((t * k + b : Nat) : Int) + 1 by omega, key_nat, key_nat, news_get n k _ (by omega), news_get n k _ (by omega)]
      dsimp only; omega
    · rw [mem_ref, List.mem_map, news_len]
      constructor
      · rintro ⟨j, hj, rfl⟩
        simp only [List.mem_range] at hj
        refine ⟨t * k + j, by omega, by omega, ?_⟩
        rw [news_get n k _ (by omega)]
        have : (t * k + j) / k = t := by rw [Nat.mul_comm, Nat.mul_add_div (by omega), Nat.div_eq_of_lt hj]; omega
        dsimp only
        rw [this]
        omega
      · rintro ⟨i, i1, rfl, i2, _⟩
        rw [news_get n k i i1] at i2
        dsimp only at i2
        have e : i / k = t := by omega
        have dm := Nat.div_add_mod i k
        have ml := Nat.mod_lt i (show k > 0 by omega)
        rw [e, Nat.mul_comm] at dm
        exact ⟨i % k, by simpa using ml, by omega⟩
end Go.Proofs.Ytnmldhagdgghoaa.Ref06
