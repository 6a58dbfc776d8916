/- Blocks of memory that are known whole, and worlds that differ at named blocks alone. No program in sight. -/
import Derived.WalkKit
import Derived.Deep.Draws
namespace Go.Proofs.Ytnmldhagdgghoaa.Heap
open Go Go.RowKit

theorem getD_lt {α : Type} (l : List α) (i : Nat) (d : α) (h : i < l.length) : l.getD i d = l[i] := by simp [List.getD, h]
/-- Block b holds just the cells l; nothing of it is frozen. -/
def Row (w : World) (b : Nat) (l : List Value) : Prop := ∃ T, w.heap[b]? = some (.cells l.toArray T (0, 0))

theorem Row.lt {w : World} {b : Nat} {l : List Value} (h : Row w b l) : b < w.heap.size := by
  obtain ⟨T, h⟩ := h; exact (Array.getElem?_eq_some_iff.1 h).1
theorem Row.cell {w : World} {b : Nat} {l : List Value} (h : Row w b l) {i : Nat} {v : Value} (hi : l[i]? = some v) : w.cell? ⟨b, i, none⟩ = some v := by
  obtain ⟨T, h⟩ := h; simp [World.cell?, h, hi]
theorem Row.frozen {w : World} {b : Nat} {l : List Value} (h : Row w b l) (i : Nat) : w.frozen? ⟨b, i, none⟩ = false := by
  obtain ⟨T, h⟩ := h; simp [World.frozen?, h]
theorem Row.set {w : World} {b : Nat} {l : List Value} (h : Row w b l) (i : Nat) (v : Value) : Row (w.setCell ⟨b, i, none⟩ v) b (l.set i v) := by
  obtain ⟨T, h⟩ := h
  refine ⟨T, ?_⟩
  simp [World.setCell, Array.getElem?_modify, h]
theorem Row.set_ne {w : World} {b b' : Nat} {l : List Value} (h : Row w b l) (hb : b ≠ b') (i : Nat) (v : Value) : Row (w.setCell ⟨b', i, none⟩ v) b l := by
  obtain ⟨T, h⟩ := h
  refine ⟨T, ?_⟩
  rw [Below.heap_setCell _ _ _ _ hb]; exact h
theorem Row.alloc {w : World} {b : Nat} {l : List Value} (h : Row w b l) (o : Obj) : Row (w.alloc o) b l := by
  have hl := h.lt
  obtain ⟨T, h⟩ := h
  exact ⟨T, by rw [Below.heap_alloc _ _ _ hl]; exact h⟩
theorem Row.new (w : World) (l : List Value) (T : TypeId) : Row (w.alloc (.cells l.toArray T)) w.heap.size l :=
  ⟨T, by show (w.heap.push _)[w.heap.size]? = _; simp⟩
theorem Row.new' {w : World} {a : Array Value} {T : TypeId} {n : Nat} (hn : n = w.heap.size) : Row (w.alloc (.cells a T)) n a.toList := by
  subst hn; exact ⟨T, by show (w.heap.push _)[w.heap.size]? = _; simp⟩
theorem Row.drew {w : World} {b : Nat} {l : List Value} (h : Row w b l) : Row w.drew b l := h
theorem Row.drewN {w : World} {b : Nat} {l : List Value} (h : Row w b l) (n : Nat) : Row (w.drewN n) b l := h
theorem Row.inj {w : World} {b : Nat} {l l' : List Value} (h : Row w b l) (h' : Row w b l') : l = l' := by
  obtain ⟨T, h⟩ := h; obtain ⟨T', h'⟩ := h'
  rw [h] at h'; simp at h'; exact h'.1

/-- n cells that are all alike. -/
def zeros (n : Nat) (z : Value) : Array Value := (List.replicate n z).toArray
theorem Row.ofZeros {w : World} {T : TypeId} {n b : Nat} {z : Value} (hb : b = w.heap.size) : Row (w.alloc (.cells (zeros n z) T)) b (List.replicate n z) := by
  have := Row.new' (w := w) (a := zeros n z) (T := T) hb
  exact this
/-- 'make([]T, n)': n zero elements of one cell each. -/
theorem run_make_zeros {P : Program} (t e : TypeId) (z : Value) (b : Nat) (ht : P.underlying t = some (.slice e)) (hi : (P.info? e).map (fun i => (i.zero, i.size, i.bytes)) = some (some z, 1, b)) (hz : z.cells = #[z])
    (n : Nat) (hb : b * n ≤ 281474976710656) (h63 : n ≤ 9223372036854775807) (W : World) :
    (Instr.makeSlice t (.int .i64 (n : Int)) (.int .i64 (n : Int))).run P W = .ok (.slice (some ⟨W.heap.size, 0, none⟩) n n) (W.alloc (.cells (zeros n z) e)) := by
  obtain ⟨i, hi, hz0, hz1, hz2⟩ := info_parts hi
  have hb' : (i.bytes : Int) * (n : Int) ≤ 281474976710656 := by
    rw [hz2]
    have h : ((b * n : Nat) : Int) ≤ 281474976710656 := by omega
    rwa [Int.natCast_mul] at h
  have hr := run_make (P := P) W t e i z ht hi hz0 .i64 .i64 n n (by omega) (Int.le_refl _) hb' (by omega)
  simp only [Int.toNat_natCast, hz1, Nat.mul_one, hz] at hr
  rw [hr]
  have : madeCells #[z] n = zeros n z := by
    apply Array.toList_inj.1
    rw [toList_madeCells_one]; rfl
  rw [this]

theorem Row.setRow {w : World} {b : Nat} {l : List Value} (h : Row w b l) (cs : Array Value) : Row (w.setRow b cs) b cs.toList := by
  obtain ⟨T, h⟩ := h; exact ⟨T, setRow_heap w b _ cs T _ h⟩

/-- All blocks of w but those of S are in w' as they were; new ones may have come. -/
structure Upd (S : Nat → Prop) (w w' : World) : Prop where
  os : w'.os = w.os
  tape : w'.tape = w.tape
  output : w'.output = w.output
  size : w.heap.size ≤ w'.heap.size
  block : ∀ k, k < w.heap.size → ¬ S k → w'.heap[k]? = w.heap[k]?

theorem Upd.refl (S : Nat → Prop) (w : World) : Upd S w w := ⟨rfl, rfl, rfl, Nat.le_refl _, fun _ _ _ => rfl⟩
theorem Upd.trans {S : Nat → Prop} {a b c : World} (h : Upd S a b) (k : Upd S b c) : Upd S a c :=
  ⟨k.os.trans h.os, k.tape.trans h.tape, k.output.trans h.output, Nat.le_trans h.size k.size, fun i hi hs => (k.block i (Nat.lt_of_lt_of_le hi h.size) hs).trans (h.block i hi hs)⟩
theorem below_drewN {B : Nat} {a w : World} (h : Below B a w) (n : Nat) : Below B a (w.drewN n) := ⟨h.os, h.tape, h.output, h.size, h.block⟩
/-- The second step may turn what is new behind the first one. -/
theorem Upd.then {S S' : Nat → Prop} {a b c : World} (h : Upd S a b) (k : Upd S' b c) (hs : ∀ i, i < a.heap.size → S' i → S i) : Upd S a c :=
  ⟨k.os.trans h.os, k.tape.trans h.tape, k.output.trans h.output, Nat.le_trans h.size k.size, fun i hi hn => (k.block i (Nat.lt_of_lt_of_le hi h.size) (fun e => hn (hs i hi e))).trans (h.block i hi hn)⟩
theorem Upd.mono {S S' : Nat → Prop} {a b : World} (h : Upd S a b) (hs : ∀ i, i < a.heap.size → S i → S' i) : Upd S' a b :=
  ⟨h.os, h.tape, h.output, h.size, fun i hi hn => h.block i hi (fun e => hn (hs i hi e))⟩
theorem Upd.alloc {S : Nat → Prop} {a w : World} (h : Upd S a w) (o : Obj) : Upd S a (w.alloc o) :=
  ⟨h.os, h.tape, h.output, by simp; exact Nat.le_succ_of_le h.size, fun i hi hn => by rw [Below.heap_alloc _ _ _ (Nat.lt_of_lt_of_le hi h.size)]; exact h.block i hi hn⟩
theorem Upd.drew {S : Nat → Prop} {a w : World} (h : Upd S a w) : Upd S a w.drew := ⟨h.os, h.tape, h.output, h.size, h.block⟩
theorem Upd.drewN {S : Nat → Prop} {a w : World} (h : Upd S a w) (n : Nat) : Upd S a (w.drewN n) := ⟨h.os, h.tape, h.output, h.size, h.block⟩
theorem Upd.setCell {S : Nat → Prop} {a w : World} (h : Upd S a w) {p : Addr} (hp : S p.block ∨ a.heap.size ≤ p.block) (v : Value) : Upd S a (w.setCell p v) :=
  ⟨h.os, h.tape, h.output, by simp [World.setCell]; exact h.size, fun i hi hn => by
    rw [Below.heap_setCell _ _ _ _ (by rintro rfl; rcases hp with hp | hp; exact hn hp; omega)]; exact h.block i hi hn⟩
theorem Upd.setRow (w : World) (b : Nat) (cs : Array Value) : Upd (fun k => k = b) w (w.setRow b cs) :=
  ⟨rfl, rfl, rfl, by simp [World.setRow], fun k _ hs => setRow_other w b k cs hs⟩
theorem Upd.one (w : World) (b i : Nat) (v : Value) : Upd (fun k => k = b) w (w.setCell ⟨b, i, none⟩ v) := Upd.setCell (p := ⟨b, i, none⟩) (Upd.refl (fun k => k = b) w) (.inl rfl) v
theorem Upd.two (w : World) (b i j : Nat) (v u : Value) : Upd (fun k => k = b) w ((w.setCell ⟨b, i, none⟩ v).setCell ⟨b, j, none⟩ u) := Upd.setCell (p := ⟨b, j, none⟩) (Upd.one w b i v) (.inl rfl) u
theorem Upd.of_below {S : Nat → Prop} {a b : World} (h : Below a.heap.size a b) : Upd S a b := ⟨h.os, h.tape, h.output, h.size, fun k hk _ => h.block k hk⟩
/-- What turns blocks from B on alone leaves all below B. -/
theorem Upd.below {S : Nat → Prop} {B : Nat} {w a b : World} (h : Upd S a b) (hw : Below B w a) (hB : B ≤ a.heap.size) (hs : ∀ i, S i → B ≤ i) : Below B w b :=
  hw.trans ⟨h.os, h.tape, h.output, h.size, fun k hk => h.block k (by omega) (fun e => by have := hs k e; omega)⟩
theorem Upd.none {a b : World} (h : Upd (fun _ => False) a b) : Below a.heap.size a b := ⟨h.os, h.tape, h.output, h.size, fun k hk => h.block k hk id⟩
/-- A store of a whole array or struct into a block that is known whole: the world behind it under a name. -/
theorem wpList_store_whole {P : Program} {ops : Array Oper} {rest : List Oper} {o : Oper} {a : Act} {w : World} {Q : Exit → Act → World → Prop} (hgd : o.guard = none) (ty : TypeId) (x y : Operand) (ho : o.op = .store ty x y)
    (g : Nat) (cells : Array Value) (hx : a.eval x = .pointer (some ⟨g, 0, none⟩)) (hy : a.eval y = .agg cells) {old : List Value} (hg : Row w g old) (hi : (P.info? ty).map (·.size) = some cells.size)
    (hold : old.length = cells.size) (h1 : cells.all (·.oneCell') = true)
    (h : ∀ w', Row w' g cells.toList → Upd (fun k => k = g) w w' → wpList P ops Q rest (a.put o.dst undef) w') : wpList P ops Q (o :: rest) a w := by
  obtain ⟨T, hT⟩ := id hg
  exact wpList_store_row hgd ty x y ho g cells hx hy T _ hT hi (by simpa using hold) h1 (h _ (hg.setRow cells) (Upd.setRow w g cells))
theorem Row.upd {S : Nat → Prop} {w w' : World} {b : Nat} {l : List Value} (h : Row w b l) (hu : Upd S w w') (hs : ¬ S b) : Row w' b l := by
  have hl := h.lt
  obtain ⟨T, h⟩ := h
  exact ⟨T, by rw [hu.block b hl hs]; exact h⟩
theorem Row.below {B : Nat} {w w' : World} {b : Nat} {l : List Value} (h : Row w b l) (hu : Below B w w') (hs : b < B) : Row w' b l := by
  obtain ⟨T, h⟩ := h
  exact ⟨T, by rw [hu.block b hs]; exact h⟩

end Go.Proofs.Ytnmldhagdgghoaa.Heap
