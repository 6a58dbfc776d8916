/- Slices of integers that can be read: those that came in, and those of one's own. No program in sight. -/
import Derived.Test.YtnmldhagdgghoaaArr
import Derived.Test.YtnmldhagdgghoaaVec
import Derived.Test.YtnmldhagdgghoaaOpen
namespace Go.Proofs.Ytnmldhagdgghoaa.Open
open Go Go.RowKit Go.Deep Go.Proofs.Ytnmldhagdgghoaa.Heap

/-- A slice of integers that can be read; a nil one has no room. -/
def Src1 (w : World) (v : Value) (k : IntKind) (xs : List Int) : Prop :=
  ∃ (a : Option Addr) (cap : Nat), v = .slice a xs.length cap ∧ (a = none → cap = 0 ∧ xs.length = 0) ∧
    (0 < xs.length → ∃ b off, a = some ⟨b, off, none⟩ ∧ b < w.heap.size ∧ ∀ i, i < xs.length → w.cell? ⟨b, off + i, none⟩ = some (.int k (xs.getD i 0)))
theorem Src1.readable {w : World} {v : Value} {k : IntKind} {xs : List Int} (h : Src1 w v k xs) : Readable w v xs.length (ints k xs) := by
  obtain ⟨a, cap, rfl, hn, hc⟩ := h
  cases a with
  | none =>
    obtain ⟨rfl, h0⟩ := hn rfl
    exact .inl ⟨by rw [h0], h0, by rw [List.eq_nil_of_length_eq_zero h0]; rfl⟩
  | some ad =>
    refine .inr ⟨ad, cap, rfl, fun j u hj => ?_⟩
    have hlt : j < xs.length := by
      have := (List.getElem?_eq_some_iff.1 hj).1
      simpa [ints] using this
    obtain ⟨b, off, e, hb, hcell⟩ := hc (by omega)
    simp only [Option.some.injEq] at e
    subst e
    rw [ints_get hlt] at hj
    have e2 : ((⟨b, off, none⟩ : Addr).add j) = ⟨b, off + j, none⟩ := by
      unfold Addr.add
      split
      · rename_i h; subst h; rfl
      · rfl
    rw [e2, hcell j hlt, hj]
theorem Src1.below {w w' : World} {v : Value} {k : IntKind} {xs : List Int} (h : Src1 w v k xs) (hb : Below w.heap.size w w') : Src1 w' v k xs := by
  obtain ⟨a, cap, hv, hn, hc⟩ := h
  refine ⟨a, cap, hv, hn, fun hp => ?_⟩
  obtain ⟨b, off, e, hlt, hcell⟩ := hc hp
  exact ⟨b, off, e, Nat.lt_of_lt_of_le hlt hb.size, fun i hi => (hb.cell (p := ⟨b, off + i, none⟩) hlt).trans (hcell i hi)⟩
theorem Src1.of_owned {w : World} {B : Nat} {e : TypeId} {v : Value} {k : IntKind} {xs : List Int} (h : w.ownsRow B e 1 v xs.length (ints k xs)) : Src1 w v k xs := by
  rcases id h.2 with ⟨rfl, h0⟩ | ⟨g, cap, cur, rfl, hB, hh, hc1, hc2, hc3, hc4⟩
  · exact ⟨none, 0, by rw [h0], fun _ => ⟨rfl, h0⟩, fun hp => by omega⟩
  · refine ⟨some ⟨g, 0, none⟩, cap, rfl, fun e => by simp at e, fun hp => ?_⟩
    obtain ⟨g', cap', hv, _, hr⟩ := owned h hp
    simp only [Value.slice.injEq, Option.some.injEq, Addr.mk.injEq] at hv
    obtain ⟨⟨rfl, -, -⟩, -, -⟩ := hv
    exact ⟨g, 0, rfl, hr.lt, fun i hi => by rw [Nat.zero_add]; exact hr.cell (ints_get hi)⟩
theorem Src1.of_ints {w : World} {v : Value} {k : IntKind} {xs : List Int} (h : Ints w v k xs) (hn : ∀ len cap, v = .slice none len cap → cap = 0) : Src1 w v k xs := by
  obtain ⟨⟨a, cap, rfl, h1, h2, h3⟩, _⟩ := h
  refine ⟨a, cap, rfl, fun e => ?_, fun hp => ?_⟩
  · subst e
    have := hn _ _ rfl
    exact ⟨this, by omega⟩
  · obtain ⟨b, off, e, hb, hc⟩ := h3 hp
    refine ⟨b, off, e, hb, fun i hi => ?_⟩
    have := hc i hi 0 (.int k (xs.getD i 0)) (by decide) rfl
    simpa using this
theorem own_base1 {w : World} {B B' : Nat} {e : TypeId} {size : Nat} {v : Value} {n : Nat} {l : List Value} (h : w.ownsRow B e size v n l) (hB : B' ≤ B) : w.ownsRow B' e size v n l := by
  obtain ⟨h1, h2⟩ := h
  refine ⟨h1, ?_⟩
  rcases h2 with h2 | ⟨g, cap, cur, hv, hb, hr⟩
  · exact .inl h2
  · exact .inr ⟨g, cap, cur, hv, by omega, hr⟩
/-- The value of a slice of so many. -/
theorem owned_len1 {w : World} {B : Nat} {e : TypeId} {size : Nat} {v : Value} {n : Nat} {l : List Value} (h : w.ownsRow B e size v n l) : ∃ a cap, v = .slice a n cap := by
  rcases h.2 with ⟨rfl, rfl⟩ | ⟨g, cap, cur, rfl, _⟩
  · exact ⟨_, _, rfl⟩
  · exact ⟨_, _, rfl⟩
/-- 'make([]T, n)' for an element of one cell, whatever its zero value is spelt like. -/
theorem run_make_cells {P : Program} (t e : TypeId) (z c : Value) (b : Nat) (ht : P.underlying t = some (.slice e)) (hi : (P.info? e).map (fun i => (i.zero, i.size, i.bytes)) = some (some z, 1, b)) (hz : z.cells = #[c])
    (n : Nat) (hb : b * n ≤ 281474976710656) (h63 : n ≤ 9223372036854775807) (W : World) :
    (Instr.makeSlice t (.int .i64 (n : Int)) (.int .i64 (n : Int))).run P W = .ok (.slice (some ⟨W.heap.size, 0, none⟩) n n) (W.alloc (.cells (zeros n c) e)) := by
  obtain ⟨i, hi, hz0, hz1, hz2⟩ := info_parts hi
  have hb' : (i.bytes : Int) * (n : Int) ≤ 281474976710656 := by
    rw [hz2]
    have h : ((b * n : Nat) : Int) ≤ 281474976710656 := by omega
    rwa [Int.natCast_mul] at h
  have hr := run_make (P := P) W t e i z ht hi hz0 .i64 .i64 n n (by omega) (Int.le_refl _) hb' (by omega)
  simp only [Int.toNat_natCast, hz1, Nat.mul_one, hz] at hr
  rw [hr]
  have : madeCells #[c] n = zeros n c := by
    apply Array.toList_inj.1
    rw [toList_madeCells_one]; rfl
  rw [this]
theorem madeCells_same (z : Array Value) (c : Value) (hz : ∀ i, i < z.size → z[i]! = c) (h0 : 0 < z.size) (n : Nat) : madeCells z n = zeros n c := by
  apply Array.toList_inj.1
  apply List.ext_getElem?
  intro i
  by_cases hi : i < n
  · simp [madeCells, zeros, hi, hz (i % z.size) (Nat.mod_lt _ h0)]
  · simp [madeCells, zeros, hi]
/-- 'make([]T, n)' for an element of m cells that are all alike. -/
theorem run_make_many {P : Program} (t e : TypeId) (z c : Value) (m b : Nat) (ht : P.underlying t = some (.slice e)) (hi : (P.info? e).map (fun i => (i.zero, i.size, i.bytes)) = some (some z, m, b)) (hz : ∀ i, i < z.cells.size → z.cells[i]! = c) (hs : 0 < z.cells.size)
    (n : Nat) (hb : b * n ≤ 281474976710656) (h63 : n ≤ 9223372036854775807) (W : World) :
    (Instr.makeSlice t (.int .i64 (n : Int)) (.int .i64 (n : Int))).run P W = .ok (.slice (some ⟨W.heap.size, 0, none⟩) n n) (W.alloc (.cells (zeros (n * m) c) e)) := by
  obtain ⟨i, hi, hz0, hz1, hz2⟩ := info_parts hi
  have hb' : (i.bytes : Int) * (n : Int) ≤ 281474976710656 := by
    rw [hz2]
    have h : ((b * n : Nat) : Int) ≤ 281474976710656 := by omega
    rwa [Int.natCast_mul] at h
  have hr := run_make (P := P) W t e i z ht hi hz0 .i64 .i64 n n (by omega) (Int.le_refl _) hb' (by omega)
  simp only [Int.toNat_natCast, hz1] at hr
  rw [hr, madeCells_same _ c hz hs]
/-- A slice of integers that has just been written down. -/
theorem src_lit (w : World) (k : IntKind) (xs : List Int) (a : Array Value) (T : TypeId) (b n m : Nat) (ha : a = (ints k xs).toArray) (hb : b = w.heap.size) (hn : n = xs.length) : Src1 (w.alloc (.cells a T)) (.slice (some ⟨b, 0, none⟩) n m) k xs := by
  subst ha hb hn
  exact ⟨some ⟨w.heap.size, 0, none⟩, m, rfl, fun e => by simp at e, fun _ => ⟨w.heap.size, 0, rfl, by simp, fun i hi => by
    rw [Nat.zero_add]; exact (Row.new' (a := (ints k xs).toArray) rfl).cell (ints_get hi)⟩⟩
end Go.Proofs.Ytnmldhagdgghoaa.Open
