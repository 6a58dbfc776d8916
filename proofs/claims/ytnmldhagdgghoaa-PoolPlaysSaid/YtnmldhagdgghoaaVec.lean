/- Rows with room behind them, and slices that are appended to. No program in sight. -/
import Derived.Test.YtnmldhagdgghoaaHeap
import Derived.OwnWalk
import Derived.Laws.AppendOwnNone
namespace Go.Proofs.Ytnmldhagdgghoaa.Heap
open Go Go.RowKit

/-- Block b begins with the cells l; nothing of it is frozen. -/
def RowP (w : World) (b : Nat) (l : List Value) : Prop := ∃ T r, w.heap[b]? = some (.cells (l ++ r).toArray T (0, 0))

theorem RowP.lt {w : World} {b : Nat} {l : List Value} (h : RowP w b l) : b < w.heap.size := by
  obtain ⟨T, r, h⟩ := h; exact (Array.getElem?_eq_some_iff.1 h).1
theorem RowP.cell {w : World} {b : Nat} {l : List Value} (h : RowP w b l) {i : Nat} {v : Value} (hi : l[i]? = some v) : w.cell? ⟨b, i, none⟩ = some v := by
  obtain ⟨T, r, h⟩ := h
  have hl := (List.getElem?_eq_some_iff.1 hi).1
  simp [World.cell?, h, List.getElem?_append_left hl, hi]
theorem RowP.frozen {w : World} {b : Nat} {l : List Value} (h : RowP w b l) (i : Nat) : w.frozen? ⟨b, i, none⟩ = false := by
  obtain ⟨T, r, h⟩ := h; simp [World.frozen?, h]
theorem RowP.set {w : World} {b : Nat} {l : List Value} (h : RowP w b l) (i : Nat) (hi : i < l.length) (v : Value) : RowP (w.setCell ⟨b, i, none⟩ v) b (l.set i v) := by
  obtain ⟨T, r, h⟩ := h
  refine ⟨T, r, ?_⟩
  simp [World.setCell, Array.getElem?_modify, h, List.set_append_left _ _ hi]
theorem RowP.set_ne {w : World} {b b' : Nat} {l : List Value} (h : RowP w b l) (hb : b ≠ b') (i : Nat) (v : Value) : RowP (w.setCell ⟨b', i, none⟩ v) b l := by
  obtain ⟨T, r, h⟩ := h
  refine ⟨T, r, ?_⟩
  rw [Below.heap_setCell _ _ _ _ hb]; exact h
theorem RowP.alloc {w : World} {b : Nat} {l : List Value} (h : RowP w b l) (o : Obj) : RowP (w.alloc o) b l := by
  have hl := h.lt
  obtain ⟨T, r, h⟩ := h
  exact ⟨T, r, by rw [Below.heap_alloc _ _ _ hl]; exact h⟩
theorem RowP.drew {w : World} {b : Nat} {l : List Value} (h : RowP w b l) : RowP w.drew b l := h
theorem RowP.drewN {w : World} {b : Nat} {l : List Value} (h : RowP w b l) (n : Nat) : RowP (w.drewN n) b l := h
theorem RowP.upd {S : Nat → Prop} {w w' : World} {b : Nat} {l : List Value} (h : RowP w b l) (hu : Upd S w w') (hs : ¬ S b) : RowP w' b l := by
  have hl := h.lt
  obtain ⟨T, r, h⟩ := h
  exact ⟨T, r, by rw [hu.block b hl hs]; exact h⟩
theorem Row.toP {w : World} {b : Nat} {l : List Value} (h : Row w b l) : RowP w b l := by
  obtain ⟨T, h⟩ := h; exact ⟨T, [], by simpa using h⟩

/-- What append leaves alone. -/
theorem Upd.grown {w w' : World} {row : Option Nat} (h : w.grownBy w' row) : Upd (fun k => row = some k) w w' :=
  ⟨h.os, h.tape, h.output, h.size, fun k hk hs => h.block k hk (fun e => hs e.symm)⟩

/-- A slice that owns something is no nil: its block, and what it begins with. -/
theorem owned {w : World} {B : Nat} {e : TypeId} {size : Nat} {v : Value} {n : Nat} {xs : List Value} (h : w.ownsRow B e size v n xs) (hn : 0 < n) :
    ∃ g cap, v = .slice (some ⟨g, 0, none⟩) n cap ∧ B ≤ g ∧ RowP w g xs := by
  obtain ⟨_, h⟩ := h
  rcases h with ⟨_, h0⟩ | ⟨g, cap, cur, hv, hB, hh, _, _, _, hx⟩
  · omega
  · refine ⟨g, cap, hv, hB, e, cur.toList.drop (n * size), ?_⟩
    rw [hh, ← hx, List.take_append_drop]
theorem own_upd {w w' : World} {S : Nat → Prop} {B : Nat} {e : TypeId} {size : Nat} {v : Value} {n : Nat} {xs : List Value} (h : w.ownsRow B e size v n xs) (hu : Upd S w w') (hs : ∀ k, v.ownBlock = some k → ¬ S k) : w'.ownsRow B e size v n xs := by
  obtain ⟨h1, h⟩ := h
  refine ⟨h1, ?_⟩
  rcases h with h0 | ⟨g, cap, cur, hv, hB, hh, r⟩
  · exact .inl h0
  · refine .inr ⟨g, cap, cur, hv, hB, ?_, r⟩
    have hg := (Array.getElem?_eq_some_iff.1 hh).1
    rw [hu.block g hg (hs g (by rw [hv]; rfl))]; exact hh
theorem own_lt {w : World} {B : Nat} {e : TypeId} {size : Nat} {v : Value} {n : Nat} {xs : List Value} (h : w.ownsRow B e size v n xs) {k : Nat} (hk : v.ownBlock = some k) : k < w.heap.size ∧ B ≤ k := by
  obtain ⟨_, h⟩ := h
  rcases h with ⟨h0, _⟩ | ⟨g, cap, cur, hv, hB, hh, _⟩
  · rw [h0] at hk; simp [Value.ownBlock] at hk
  · rw [hv] at hk; simp [Value.ownBlock] at hk; subst hk; exact ⟨(Array.getElem?_eq_some_iff.1 hh).1, hB⟩
/-- Where an appended slice lies: where it lay, or in a new block. -/
theorem own_block_of_base {w : World} {B : Nat} {e : TypeId} {size : Nat} {v : Value} {n : Nat} {xs : List Value} (h : w.ownsRow B e size v n xs) (hn : 0 < n) : ∃ k, v.ownBlock = some k := by
  obtain ⟨g, cap, hv, _⟩ := owned h hn
  exact ⟨g, by rw [hv]; rfl⟩


/-- append to a slice of the call's own, and where the result lies: where it lay, or in a new block. -/
theorem run_append_near {P : Program} (w : World) (base : Nat) (t ty e : TypeId) (i : TypeInfo) (z : Value) (size bytes : Nat) (ht : P.underlying t = some (.slice e)) (hi : P.info? e = some i) (hz : i.zero = some z)
    (hsize : i.size = size) (hby : i.bytes = bytes) (hzs : z.cells.size = size) (hsz : 0 < size)
    (v : Value) (n : Nat) (xs : List Value) (hown : w.ownsRow base e size v n xs)
    (a : Addr) (m c : Nat) (news : List Value) (hl : news.length = m * size) (hnews : ∀ j u, news[j]? = some u → w.cell? (a.add j) = some u) (h1 : ∀ u ∈ news, u.oneCell' = true)
    (h63 : n + m ≤ maxLen) (hbytes : (n + m) * bytes ≤ 140737488355328) (hbase : base ≤ w.heap.size) :
    ∃ v' w', (Builtin.append_ #[t, t] ty #[v, .slice (some a) m c]).run P w = .ok v' w' ∧ w'.ownsRow base e size v' (n + m) (xs ++ news) ∧ w.grownBy w' v.ownBlock ∧
      (v'.ownBlock = v.ownBlock ∨ ∃ g, w.heap.size ≤ g ∧ v'.ownBlock = some g) := by
  obtain ⟨v', w', hr, h2, h3, h4⟩ := run_append_own (P := P) w base t ty e i z size bytes ht hi hz hsize hby hzs hsz v n xs hown a m c news hl hnews h1 h63 hbytes hbase
  refine ⟨v', w', hr, h2, h3, ?_⟩
  rcases hown.2 with ⟨rfl, rfl⟩ | ⟨g, cap, cur, rfl, hbg, hg, hnc, hcm, hcs, htake⟩
  · have hx : xs = [] := List.eq_nil_of_length_eq_zero (by simpa using hown.1)
    subst hx
    obtain ⟨v1, w1, hr1, k2, _, _⟩ := run_append_own (P := P) w w.heap.size t ty e i z size bytes ht hi hz hsize hby hzs hsz (.slice none 0 0) 0 [] (World.ownsRow_nil _ _ _ _) a m c news hl hnews h1 h63 hbytes (Nat.le_refl _)
    rw [hr] at hr1
    simp only [Result.ok.injEq] at hr1
    obtain ⟨rfl, rfl⟩ := hr1
    rcases k2.2 with ⟨rfl, _⟩ | ⟨g, cap, cur, rfl, hbg, _⟩
    · exact .inl rfl
    · exact .inr ⟨g, hbg, rfl⟩
  · by_cases hroom : n + m ≤ cap
    · have hfit : n * i.size + news.length ≤ cur.size := by rw [hsize, hl, hcs, ← Nat.add_mul]; exact Nat.mul_le_mul_right _ hroom
      have hr1 := run_append_room (P := P) w t ty e i ht hi g n cap cur hg a m c news (by rw [hsize]; exact hl) hnews h1 hroom hfit
      rw [hr] at hr1
      simp only [Result.ok.injEq] at hr1
      obtain ⟨rfl, _⟩ := hr1
      exact .inl rfl
    · have holds : ∀ j u, xs[j]? = some u → w.cell? ((⟨g, 0, none⟩ : Addr).add j) = some u := hown.cells (g := g) rfl
      obtain ⟨v1, w1, hr1, k2, _⟩ := run_append_arg_grows (P := P) w t ty e i z size bytes ht hi hz hsize hby hzs hsz ⟨g, 0, none⟩ n cap xs hown.1 holds a m c news hl hnews (by omega) h63 hbytes
      rw [hr] at hr1
      simp only [Result.ok.injEq] at hr1
      obtain ⟨rfl, rfl⟩ := hr1
      rcases k2.2 with ⟨_, h0⟩ | ⟨g', cap', cur', rfl, hbg', _⟩
      · omega
      · exact .inr ⟨g', hbg', rfl⟩
theorem wpList_append_near {P : Program} {w : World} {ops : Array Oper} {rest : List Oper} {o : Oper} {a : Act} {Q : Exit → Act → World → Prop} (hgd : o.guard = none) (s x : Operand) (t : TypeId)
    (ho : o.op = .call { callee := .builtin .append, args := #[s, x], argTypes := #[t, t] })
    (base : Nat) (e : TypeId) (z : Value) (size bytes : Nat) (ht : P.underlying t = some (.slice e)) (hinf : (P.info? e).map (fun i => (i.zero, i.size, i.bytes)) = some (some z, size, bytes)) (hzs : z.cells.size = size) (hsz : 0 < size)
    (v : Value) (n : Nat) (xs : List Value) (hs : a.eval s = v) (hown : w.ownsRow base e size v n xs)
    (ad : Addr) (m c : Nat) (news : List Value) (hx : a.eval x = .slice (some ad) m c) (hl : news.length = m * size) (hnews : ∀ j u, news[j]? = some u → w.cell? (ad.add j) = some u) (h1 : ∀ u ∈ news, u.oneCell' = true)
    (h63 : n + m ≤ maxLen) (hbytes : (n + m) * bytes ≤ 140737488355328) (hbase : base ≤ w.heap.size)
    (h : ∀ v' w', w'.ownsRow base e size v' (n + m) (xs ++ news) → w.grownBy w' v.ownBlock → (v'.ownBlock = v.ownBlock ∨ ∃ g, w.heap.size ≤ g ∧ v'.ownBlock = some g) → wpList P ops Q rest (a.put o.dst v') w') : wpList P ops Q (o :: rest) a w := by
  obtain ⟨i, hi, hz, hsize, hby⟩ := info_parts hinf
  refine wpList_plain hgd fun K hK => ?_
  obtain ⟨v', w', hr, h2, h3, h4⟩ := run_append_near (P := P) w base t o.type e i z size bytes ht hi hz hsize hby hzs hsz v n xs hown ad m c news hl hnews h1 h63 hbytes hbase
  unfold Oper.wp execOp
  simp only [ho, resolve, invoke, builtin, Sem.run_bind, Sem.run_pure, Result.andThen_ok, List.map_toArray, List.map_cons, List.map_nil, hs, hx, hr]
  exact hK _ _ (h v' w' h2 h3 h4)

/-- A slice whose cells can be read: a nil one, or one at an address. -/
def Readable (w : World) (xv : Value) (m : Nat) (news : List Value) : Prop :=
  (xv = .slice none 0 0 ∧ m = 0 ∧ news = []) ∨ ∃ ad c, xv = .slice (some ad) m c ∧ ∀ j u, news[j]? = some u → w.cell? (ad.add j) = some u
theorem wpList_append_src {P : Program} {w : World} {ops : Array Oper} {rest : List Oper} {o : Oper} {a : Act} {Q : Exit → Act → World → Prop} (hgd : o.guard = none) (s x : Operand) (t : TypeId)
    (ho : o.op = .call { callee := .builtin .append, args := #[s, x], argTypes := #[t, t] })
    (base : Nat) (e : TypeId) (z : Value) (size bytes : Nat) (ht : P.underlying t = some (.slice e)) (hinf : (P.info? e).map (fun i => (i.zero, i.size, i.bytes)) = some (some z, size, bytes)) (hzs : z.cells.size = size) (hsz : 0 < size)
    (v : Value) (n : Nat) (xs : List Value) (hs : a.eval s = v) (hown : w.ownsRow base e size v n xs)
    (xv : Value) (m : Nat) (news : List Value) (hx : a.eval x = xv) (hsrc : Readable w xv m news) (hl : news.length = m * size) (h1 : ∀ u ∈ news, u.oneCell' = true)
    (h63 : n + m ≤ maxLen) (hbytes : (n + m) * bytes ≤ 140737488355328) (hbase : base ≤ w.heap.size)
    (h : ∀ v' w', w'.ownsRow base e size v' (n + m) (xs ++ news) → Upd (fun k => v.ownBlock = some k) w w' → (v'.ownBlock = v.ownBlock ∨ ∃ g, w.heap.size ≤ g ∧ v'.ownBlock = some g) → wpList P ops Q rest (a.put o.dst v') w') : wpList P ops Q (o :: rest) a w := by
  rcases hsrc with ⟨rfl, rfl, rfl⟩ | ⟨ad, c, rfl, hnews⟩
  · obtain ⟨i, hi, _, _, _⟩ := info_parts hinf
    refine wpList_append_own_none hgd s x t ho base e i size ht hi v n xs hs hown hx (h v w ?_ (Upd.refl _ _) (.inl rfl))
    simpa using hown
  · exact wpList_append_near hgd s x t ho base e z size bytes ht hinf hzs hsz v n xs hs hown ad m c news hx hl hnews h1 h63 hbytes hbase (fun v' w' h2 h3 h4 => h v' w' h2 (Upd.grown h3) h4)

/-- The one cell of a new block, as append asks for it. -/
theorem cell_new1 (w : World) (v : Value) (T : TypeId) : ∀ j u, [v][j]? = some u → (w.alloc (.cells #[v] T)).cell? ((⟨w.heap.size, 0, none⟩ : Addr).add j) = some u := by
  intro j u hj
  match j, hj with
  | 0, hj => simp at hj; subst hj; simp [Addr.add]
theorem one_cell {v : Value} (h : v.oneCell' = true) : ∀ u ∈ [v], u.oneCell' = true := by intro u hu; simp at hu; subst hu; exact h

end Go.Proofs.Ytnmldhagdgghoaa.Heap
