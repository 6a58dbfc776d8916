/- A slice that may begin within its block ('row = row[1:]'): what it holds, its tail, an append of one to it. Elements of one cell. -/
import Derived.Test.YtmiidiijhhjabaaVec
import Derived.ArgAppend
namespace Go.Proofs.Ytmiidiijhhjabaa.Heap
open Go Go.RowKit

/-- The slice v holds xs, in a block of its own (at or behind B), wherever in it. -/
def Win (w : World) (B : Nat) (v : Value) (xs : List Value) : Prop :=
  (v = .slice none 0 0 ∧ xs = []) ∨ ∃ g o c l, v = .slice (some ⟨g, o, none⟩) xs.length c ∧ B ≤ g ∧ Row w g l ∧ o + c ≤ l.length ∧ xs.length ≤ c ∧ c ≤ maxLen ∧ ∀ j y, xs[j]? = some y → l[o + j]? = some y
theorem Win.of_own {w : World} {B : Nat} {e : TypeId} {v : Value} {n : Nat} {xs : List Value} (h : w.ownsRow B e 1 v n xs) : Win w B v xs := by
  obtain ⟨hl, h⟩ := h
  rw [Nat.mul_one] at hl
  rcases h with ⟨rfl, rfl⟩ | ⟨g, cap, cur, rfl, hB, hh, hnc, hcm, hcs, ht⟩
  · exact .inl ⟨rfl, List.eq_nil_of_length_eq_zero hl⟩
  · refine .inr ⟨g, 0, cap, cur.toList, by rw [hl], hB, ⟨e, by simpa using hh⟩, by simp [hcs], by omega, hcm, fun j y hj => ?_⟩
    have hj2 : j < xs.length := by
      rcases Nat.lt_or_ge j xs.length with h | h
      · exact h
      · rw [List.getElem?_eq_none h] at hj; cases hj
    have e : (cur.toList.take (n * 1))[j]? = some y := by rw [ht]; exact hj
    rw [List.getElem?_take] at e
    rw [Nat.zero_add]
    split at e
    · exact e
    · cases e
theorem Win.len {w : World} {B : Nat} {v : Value} {xs : List Value} (h : Win w B v xs) : ∃ a c, v = .slice a xs.length c := by
  rcases h with ⟨rfl, rfl⟩ | ⟨g, o, c, l, rfl, _⟩
  · exact ⟨_, _, rfl⟩
  · exact ⟨_, _, rfl⟩
theorem Win.own {w : World} {B : Nat} {v : Value} {xs : List Value} (h : Win w B v xs) {k : Nat} (hk : v.ownBlock = some k) : k < w.heap.size ∧ B ≤ k := by
  rcases h with ⟨rfl, rfl⟩ | ⟨g, o, c, l, rfl, hB, hr, _⟩
  · simp [Value.ownBlock] at hk
  · simp [Value.ownBlock] at hk; subst hk; exact ⟨hr.lt, hB⟩
theorem Win.upd {S : Nat → Prop} {w w' : World} {B : Nat} {v : Value} {xs : List Value} (h : Win w B v xs) (hu : Upd S w w') (hS : ∀ k, v.ownBlock = some k → ¬ S k) : Win w' B v xs := by
  rcases h with h | ⟨g, o, c, l, rfl, hB, hr, h⟩
  · exact .inl h
  · exact .inr ⟨g, o, c, l, rfl, hB, hr.upd hu (hS g (by simp [Value.ownBlock])), h⟩
/-- The first one, where there is one. -/
theorem Win.head {w : World} {B : Nat} {v : Value} {x : Value} {xs : List Value} (h : Win w B v (x :: xs)) : ∃ g o c, v = .slice (some ⟨g, o, none⟩) (xs.length + 1) c ∧ xs.length + 1 ≤ c ∧ w.cell? ⟨g, o, none⟩ = some x ∧ Win w B (.slice (if c = 1 then some ⟨g, o, none⟩ else some ⟨g, o + 1, none⟩) xs.length (c - 1)) xs := by
  rcases h with ⟨_, h⟩ | ⟨g, o, c, l, rfl, hB, hr, hl, hc, hm, hx⟩
  · cases h
  · simp only [List.length_cons] at hc
    refine ⟨g, o, c, rfl, hc, hr.cell (by have := hx 0 x rfl; simpa using this), ?_⟩
    split
    · rename_i e
      have hn : xs = [] := List.eq_nil_of_length_eq_zero (by omega)
      subst hn
      exact .inr ⟨g, o, c - 1, l, rfl, hB, hr, by omega, by simp, by omega, fun j y hj => by simp at hj⟩
    · refine .inr ⟨g, o + 1, c - 1, l, rfl, hB, hr, by omega, by omega, by omega, fun j y hj => ?_⟩
      have := hx (j + 1) y (by simpa using hj)
      rw [show o + 1 + j = o + (j + 1) by omega]; exact this
theorem run_append_win {P : Program} {w : World} (ty t : TypeId) (base : Nat) (e : TypeId) (z : Value) (bytes : Nat) (ht : P.underlying t = some (.slice e)) (hinf : (P.info? e).map (fun i => (i.zero, i.size, i.bytes)) = some (some z, 1, bytes)) (hzs : z.cells.size = 1)
    (v : Value) (xs : List Value) (hown : Win w base v xs)
    (ad : Addr) (c : Nat) (y : Value) (hnews : ∀ j u, [y][j]? = some u → w.cell? (ad.add j) = some u) (h1 : ∀ u ∈ [y], u.oneCell' = true)
    (h63 : xs.length + 1 ≤ maxLen) (hbytes : (xs.length + 1) * bytes ≤ 140737488355328) (hbase : base ≤ w.heap.size) :
    ∃ v' w', (Builtin.append_ #[t, t] ty #[v, .slice (some ad) 1 c]).run P w = .ok v' w' ∧ Win w' base v' (xs ++ [y]) ∧ Upd (fun k => v.ownBlock = some k) w w' ∧ (v'.ownBlock = v.ownBlock ∨ ∃ g, w.heap.size ≤ g ∧ v'.ownBlock = some g) := by
  obtain ⟨i, hi, hz, hsize, hby⟩ := info_parts hinf
  rcases hown with ⟨rfl, rfl⟩ | ⟨g, of, cp, l, rfl, hB, hr, hl, hc, hm, hxs⟩
  · obtain ⟨v', w', hr, h2, h3, h4⟩ := run_append_near (P := P) w base t ty e i z 1 bytes ht hi hz hsize hby hzs (by decide) (.slice none 0 0) 0 [] (World.ownsRow_nil _ _ _ _) ad 1 c [y] rfl hnews h1 (by simpa using h63) (by simpa using hbytes) hbase
    exact ⟨v', w', hr, Win.of_own h2, Upd.grown h3, h4⟩
  · by_cases hroom : xs.length + 1 ≤ cp
    · have hlt : of + xs.length < l.length := by omega
      have hrun := run_append_room_cells (P := P) (w := w) t ty e i ht hi g of xs.length cp ad 1 c [y] (by rw [hsize]; rfl) hnews h1 hroom
        (fun j hj => by
          have hj0 : j = 0 := by simpa using hj
          subst hj0
          rw [hsize, hr.cell (i := of + xs.length * 1 + 0) (List.getElem?_eq_getElem (by omega))]; rfl) (fun j _ => hr.frozen _)
      rw [hsize] at hrun
      have hr' : Row (w.setCells g (of + xs.length * 1) [y]) g (l.set (of + xs.length * 1) y) := hr.set _ y
      refine ⟨_, _, hrun, .inr ⟨g, of, cp, _, by rw [List.length_append]; rfl, hB, hr', by simpa using hl, by simpa using hroom, hm, fun j u hj => ?_⟩, (Upd.one w g (of + xs.length * 1) y).mono (fun k _ e => by rw [e]; simp [Value.ownBlock]), .inl (by simp [Value.ownBlock])⟩
      rw [Nat.mul_one]
      rcases Nat.lt_or_ge j xs.length with hj2 | hj2
      · rw [List.getElem?_append_left hj2] at hj
        rw [List.getElem?_set_ne (by omega)]
        exact hxs j u hj
      · rw [List.getElem?_append_right hj2] at hj
        have hj0 : j = xs.length := by
          rcases Nat.lt_or_ge (j - xs.length) 1 with h | h
          · omega
          · rw [List.getElem?_eq_none (by simpa using h)] at hj; cases hj
        subst hj0
        rw [Nat.sub_self] at hj
        rw [List.getElem?_set_self hlt]; exact hj
    · have holds : ∀ j u, xs[j]? = some u → w.cell? ((⟨g, of, none⟩ : Addr).add j) = some u := fun j u hj => by
        have := hr.cell (hxs j u hj)
        have ha : (⟨g, of, none⟩ : Addr).add j = ⟨g, of + j, none⟩ := by
          unfold Addr.add
          split
          · rename_i h; subst h; rfl
          · rfl
        rw [ha]; exact this
      obtain ⟨v', w', hrun, h2, h3⟩ := run_append_arg_grows (P := P) w t ty e i z 1 bytes ht hi hz hsize hby hzs (by decide) ⟨g, of, none⟩ xs.length cp xs (by omega) holds ad 1 c [y] rfl hnews (by omega) h63 hbytes
      refine ⟨v', w', hrun, ?_, (Upd.grown h3).mono (fun k _ e => by cases e), ?_⟩
      · have hw := Win.of_own h2
        rcases hw with e | ⟨g', o', c', l', e1, e2, e3⟩
        · exact .inl e
        · exact .inr ⟨g', o', c', l', e1, by omega, e3⟩
      · rcases (Win.of_own h2) with ⟨_, e⟩ | ⟨g', o', c', l', e1, e2, _⟩
        · simp at e
        · exact .inr ⟨g', e2, by rw [e1]; simp [Value.ownBlock]⟩
theorem wpList_append_win {P : Program} {w : World} {ops : Array Oper} {rest : List Oper} {o : Oper} {a : Act} {Q : Exit → Act → World → Prop} (hgd : o.guard = none) (s x : Operand) (t : TypeId)
    (ho : o.op = .call { callee := .builtin .append, args := #[s, x], argTypes := #[t, t] })
    (base : Nat) (e : TypeId) (z : Value) (bytes : Nat) (ht : P.underlying t = some (.slice e)) (hinf : (P.info? e).map (fun i => (i.zero, i.size, i.bytes)) = some (some z, 1, bytes)) (hzs : z.cells.size = 1)
    (v : Value) (xs : List Value) (hs : a.eval s = v) (hown : Win w base v xs)
    (ad : Addr) (c : Nat) (y : Value) (hx : a.eval x = .slice (some ad) 1 c) (hnews : ∀ j u, [y][j]? = some u → w.cell? (ad.add j) = some u) (h1 : ∀ u ∈ [y], u.oneCell' = true)
    (h63 : xs.length + 1 ≤ maxLen) (hbytes : (xs.length + 1) * bytes ≤ 140737488355328) (hbase : base ≤ w.heap.size)
    (h : ∀ v' w', Win w' base v' (xs ++ [y]) → Upd (fun k => v.ownBlock = some k) w w' → (v'.ownBlock = v.ownBlock ∨ ∃ g, w.heap.size ≤ g ∧ v'.ownBlock = some g) → wpList P ops Q rest (a.put o.dst v') w') : wpList P ops Q (o :: rest) a w := by
  refine wpList_plain hgd fun K hK => ?_
  obtain ⟨v', w', hr, h2, h3, h4⟩ := run_append_win (P := P) o.type t base e z bytes ht hinf hzs v xs hown ad c y hnews h1 h63 hbytes hbase
  unfold Oper.wp execOp
  simp only [ho, resolve, invoke, builtin, Sem.run_bind, Sem.run_pure, Result.andThen_ok, List.map_toArray, List.map_cons, List.map_nil, hs, hx, hr]
  exact hK _ _ (h v' w' h2 h3 h4)
/-- The same in a drawn region. -/
theorem step_append_win {P : Program} {w : World} {ops : Array Oper} {o : Oper} {a : Act} {K : Act → World → Prop} {Q : Exit → Act → World → Prop} {E : Prop} (hgd : o.guard = none) (s x : Operand) (t : TypeId)
    (ho : o.op = .call { callee := .builtin .append, args := #[s, x], argTypes := #[t, t] })
    (base : Nat) (e : TypeId) (z : Value) (bytes : Nat) (ht : P.underlying t = some (.slice e)) (hinf : (P.info? e).map (fun i => (i.zero, i.size, i.bytes)) = some (some z, 1, bytes)) (hzs : z.cells.size = 1)
    (v : Value) (xs : List Value) (hs : a.eval s = v) (hown : Win w base v xs)
    (ad : Addr) (c : Nat) (y : Value) (hx : a.eval x = .slice (some ad) 1 c) (hnews : ∀ j u, [y][j]? = some u → w.cell? (ad.add j) = some u) (h1 : ∀ u ∈ [y], u.oneCell' = true)
    (h63 : xs.length + 1 ≤ maxLen) (hbytes : (xs.length + 1) * bytes ≤ 140737488355328) (hbase : base ≤ w.heap.size)
    (h : ∀ v' w', Win w' base v' (xs ++ [y]) → Upd (fun k => v.ownBlock = some k) w w' → (v'.ownBlock = v.ownBlock ∨ ∃ g, w.heap.size ≤ g ∧ v'.ownBlock = some g) → K (a.put o.dst v') w') :
    if Region.wanted o (yielded ops a.tmps) = true then Oper.wp P o a w K Q else E := by
  have hw : Region.wanted o (yielded ops a.tmps) = true := by simp [Region.wanted, hgd]
  rw [if_pos hw]
  obtain ⟨v', w', hr, h2, h3, h4⟩ := run_append_win (P := P) o.type t base e z bytes ht hinf hzs v xs hown ad c y hnews h1 h63 hbytes hbase
  unfold Oper.wp execOp
  simp only [ho, resolve, invoke, builtin, Sem.run_bind, Sem.run_pure, Result.andThen_ok, List.map_toArray, List.map_cons, List.map_nil, hs, hx, hr]
  exact h v' w' h2 h3 h4
end Go.Proofs.Ytmiidiijhhjabaa.Heap
