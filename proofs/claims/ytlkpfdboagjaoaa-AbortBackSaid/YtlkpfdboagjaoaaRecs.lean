/- Slices of structs of integers and truths that came in, each element its cells. No program in sight. -/
import Derived.Test.YtlkpfdboagjaoaaOpen
namespace Go.Proofs.Ytlkpfdboagjaoaa.Open
open Go Go.ChangeShapes Go.WideShapes Go.Deep Go.RowKit

/-- A cell of a kind: an integer in its range, or a truth. -/
def CellOk : Option IntKind → Value → Prop
  | some k, v => ∃ n, v = .int k n ∧ (Lit.int k n).wf = true
  | none, v => ∃ b, v = .bool b
def RecOk : List (Option IntKind) → List Value → Prop
  | [], [] => True
  | k :: ks, x :: xs => CellOk k x ∧ RecOk ks xs
  | _, _ => False
theorem RecOk.of : ∀ (ks : List (Option IntKind)) (xs : List Value), (∀ (j : Nat) (k : Option IntKind), ks[j]? = some k → ∃ x, xs[j]? = some x ∧ CellOk k x) → xs.length = ks.length → RecOk ks xs
  | [], [], _, _ => trivial
  | k :: ks, x :: xs, h, hl => by
    obtain ⟨y, hy, hk⟩ := h 0 k rfl
    simp at hy; subst hy
    exact ⟨hk, RecOk.of ks xs (fun j k hj => by obtain ⟨y, hy, hk⟩ := h (j + 1) k (by simpa using hj); exact ⟨y, by simpa using hy, hk⟩) (by simpa using hl)⟩
  | [], _ :: _, _, hl => by simp at hl
  | _ :: _, [], _, hl => by simp at hl
/-- A slice of structs: of each its cells. -/
def Recs (w : World) (v : Value) (ks : List (Option IntKind)) (xs : List (List Value)) : Prop :=
  Came w v xs.length ks.length (fun i => xs.getD i []) ∧ ∀ x ∈ xs, RecOk ks x
/-- The type of a cell. -/
def KindOf (P : Program) (t : TypeId) : Option IntKind → Prop
  | some k => P.underlying t = some (.int k)
  | none => P.underlying t = some .bool
section
variable {H : Type} {enc : TypeId × Value → H} {P : Program} {w : World} {base : Nat} {spare : Nat → Bool} {held : Bool} {b0 : Nat}
theorem recs1 (ks : List (Option IntKind)) {t e : TypeId} {fs : Array Field} {v : Value} {fuel : Nat} {x : DataW H × List MemPlace} (ht : P.underlying t = some (.slice e)) (he : P.underlying e = some (.struct fs))
    (hone : oneCellFields P fs = true) (hC : P.cellsOf e = fs.size) (hf0 : 0 < fs.size) (hl : fs.size = ks.length) (hsc : ∀ (j : Nat) (f : Field) k, fs[j]? = some f → ks[j]? = some k → KindOf P f.type k)
    (hf : DataW.trod enc P w base spare held fuel t [v] = some x) : ∃ xs, Recs w v ks xs := by
  have kof : ∀ (j : Nat) (f : Field), fs[j]? = some f → ∃ k, ks[j]? = some k ∧ KindOf P f.type k := by
    intro j f hj
    have hlt := (Array.getElem?_eq_some_iff.1 hj).1
    have hk : ks[j]? = some (ks[j]'(by omega)) := List.getElem?_eq_getElem (by omega)
    exact ⟨_, hk, hsc j f _ hj hk⟩
  obtain ⟨len, g, hc, hg⟩ := came_structs1 ht he hone hC hf0 (by
    intro j f hj
    obtain ⟨k, _, hk⟩ := kof j f hj
    cases k with
    | some k => exact .inl ⟨k, hk⟩
    | none => exact .inr hk) hf
  have key : ∀ i, i < len → ∃ l : List Value, RecOk ks l ∧ ∀ j y, j < ks.length → l[j]? = some y → (g i)[j]? = some y := by
    intro i hi
    have kj : ∀ j, j < ks.length → ∃ y : Value, (g i)[j]? = some y ∧ ∀ k, ks[j]? = some k → CellOk k y := by
      intro j hj
      have hjs : fs[j]? = some (fs[j]'(by omega)) := Array.getElem?_eq_getElem (by omega)
      obtain ⟨y, h1, h2⟩ := hg i hi j _ hjs
      refine ⟨y, h1, fun k hk => ?_⟩
      have hkk := hsc j _ k hjs hk
      cases k with
      | some k => obtain ⟨n, rfl, hw⟩ := h2.int hkk; exact ⟨n, rfl, hw⟩
      | none => obtain ⟨n, rfl⟩ := h2.bool hkk; exact ⟨n, rfl⟩
    obtain ⟨f, hf⟩ := choose_lt kj
    refine ⟨(List.range ks.length).map f, RecOk.of _ _ ?_ (by simp), ?_⟩
    · intro j k hj
      have hlt := (List.getElem?_eq_some_iff.1 hj).1
      exact ⟨f j, by simp [hlt], (hf j hlt).2 k hj⟩
    · intro j y hj hy
      simp [hj] at hy
      subst hy
      exact (hf j hj).1
  obtain ⟨f, hF⟩ := choose_lt key
  obtain ⟨a, cap, rfl, hl1, hm, hx⟩ := hc
  refine ⟨(List.range len).map f, ⟨a, cap, by simp, by simpa using hl1, by simpa using hm, fun hpos => ?_⟩, ?_⟩
  · obtain ⟨b, off, ha, hb, hcell⟩ := hx (by simpa using hpos)
    refine ⟨b, off, ha, hb, fun i hi j x hj hxj => ?_⟩
    have hi' : i < len := by simpa using hi
    have e : ((List.range len).map f).getD i [] = f i := by simp [List.getD, hi']
    have hxj2 : (((List.range len).map f).getD i [])[j]? = some x := hxj
    rw [e] at hxj2
    rw [← hl]
    exact hcell i hi' j x (by omega) ((hF i hi').2 j x hj hxj2)
  · intro x hx
    obtain ⟨i, hi, rfl⟩ := List.mem_map.1 hx
    exact (hF i (by simpa using hi)).1
theorem recs_of (ks : List (Option IntKind)) {t e : TypeId} {fs : Array Field} {v : Value} {d : DataW H} {p : List MemPlace} (ht : P.underlying t = some (.slice e)) (he : P.underlying e = some (.struct fs))
    (hone : oneCellFields P fs = true) (hC : P.cellsOf e = fs.size) (hf0 : 0 < fs.size) (hl : fs.size = ks.length) (hsc : ∀ (j : Nat) (f : Field) k, fs[j]? = some f → ks[j]? = some k → KindOf P f.type k)
    (hv : Value.okWide P w .any b0 t v) (h : DataW.Trod enc P w base spare held t v d p) : ∃ xs, Recs w v ks xs := by
  obtain ⟨a0, len, cap, rfl⟩ := okWide_slice ht hv
  obtain ⟨fuel, hf⟩ := h
  exact recs1 ks ht he hone hC hf0 hl hsc hf
end
/-- The cells of one element, in whatever world behind. -/
theorem Recs.cells {w w' : World} {ao : Option Addr} {len cap : Nat} {ks : List (Option IntKind)} {xs : List (List Value)} (h : Recs w (.slice ao len cap) ks xs) (hb : Below w.heap.size w w') {i : Nat} (hi : i < xs.length) :
    ∃ b off, ao = some ⟨b, off, none⟩ ∧ b < w.heap.size ∧ RecOk ks (xs.getD i []) ∧ ∀ j x, j < ks.length → (xs.getD i [])[j]? = some x → w'.cell? ⟨b, off + i * ks.length + j, none⟩ = some x := by
  obtain ⟨⟨a, cap', hv, _, _, hx⟩, hw⟩ := h
  simp only [Value.slice.injEq] at hv
  obtain ⟨rfl, _, _⟩ := hv
  obtain ⟨b, off, ha, hb2, hc⟩ := hx (by omega)
  refine ⟨b, off, ha, hb2, hw _ ?_, fun j x hj hxj => (hb.cell (p := ⟨b, off + i * ks.length + j, none⟩) hb2).trans (hc i hi j x hj hxj)⟩
  rw [List.getD, List.getElem?_eq_getElem hi]; exact List.getElem_mem hi
theorem Recs.len {w : World} {v : Value} {ks : List (Option IntKind)} {xs : List (List Value)} (h : Recs w v ks xs) : ∃ ao cap, v = .slice ao xs.length cap ∧ xs.length ≤ cap ∧ xs.length ≤ maxLen := by
  obtain ⟨⟨a, cap, rfl, h1, h2, _⟩, _⟩ := h; exact ⟨a, cap, rfl, h1, h2⟩
theorem RecOk.two {k1 k2 : Option IntKind} {x : List Value} (h : RecOk [k1, k2] x) : ∃ a b, x = [a, b] ∧ CellOk k1 a ∧ CellOk k2 b := by
  match x, h with | [a, b], ⟨h1, h2, _⟩ => exact ⟨a, b, rfl, h1, h2⟩
theorem RecOk.three {k1 k2 k3 : Option IntKind} {x : List Value} (h : RecOk [k1, k2, k3] x) : ∃ a b c, x = [a, b, c] ∧ CellOk k1 a ∧ CellOk k2 b ∧ CellOk k3 c := by
  match x, h with | [a, b, c], ⟨h1, h2, h3, _⟩ => exact ⟨a, b, c, rfl, h1, h2, h3⟩
theorem RecOk.four {k1 k2 k3 k4 : Option IntKind} {x : List Value} (h : RecOk [k1, k2, k3, k4] x) : ∃ a b c d, x = [a, b, c, d] ∧ CellOk k1 a ∧ CellOk k2 b ∧ CellOk k3 c ∧ CellOk k4 d := by
  match x, h with | [a, b, c, d], ⟨h1, h2, h3, h4, _⟩ => exact ⟨a, b, c, d, rfl, h1, h2, h3, h4⟩
theorem RecOk.five {k1 k2 k3 k4 k5 : Option IntKind} {x : List Value} (h : RecOk [k1, k2, k3, k4, k5] x) : ∃ a b c d e, x = [a, b, c, d, e] ∧ CellOk k1 a ∧ CellOk k2 b ∧ CellOk k3 c ∧ CellOk k4 d ∧ CellOk k5 e := by
  match x, h with | [a, b, c, d, e], ⟨h1, h2, h3, h4, h5, _⟩ => exact ⟨a, b, c, d, e, rfl, h1, h2, h3, h4, h5⟩
theorem wf_u32 {x : Int} (h : (Lit.int .u32 x).wf = true) : 0 ≤ x ∧ x < 4294967296 := by
  simp [Lit.wf, IntKind.min, IntKind.max, IntKind.bits, IntKind.signed] at h; omega
theorem wf_i64 {x : Int} (h : (Lit.int .i64 x).wf = true) : -9223372036854775808 ≤ x ∧ x < 9223372036854775808 := by
  simp [Lit.wf, IntKind.min, IntKind.max, IntKind.bits, IntKind.signed] at h; omega
/-- Integers that came in can be read, in whatever world behind. -/
theorem Ints.cell {w w' : World} {ao : Option Addr} {len cap : Nat} {k : IntKind} {xs : List Int} (h : Ints w (.slice ao len cap) k xs) (hb : Below w.heap.size w w') {i : Nat} (hi : i < xs.length) :
    ∃ b off, ao = some ⟨b, off, none⟩ ∧ b < w.heap.size ∧ (Lit.int k (xs.getD i 0)).wf = true ∧ w'.cell? ⟨b, off + i, none⟩ = some (.int k (xs.getD i 0)) := by
  obtain ⟨⟨a, cap', hv, _, _, hx⟩, hw⟩ := h
  simp only [Value.slice.injEq] at hv
  obtain ⟨rfl, _, _⟩ := hv
  obtain ⟨b, off, ha, hb2, hc⟩ := hx (by omega)
  have hc2 := hc i hi 0 (.int k (xs.getD i 0)) (by decide) rfl
  simp only [Nat.mul_one, Nat.add_zero] at hc2
  refine ⟨b, off, ha, hb2, hw _ ?_, (hb.cell (p := ⟨b, off + i, none⟩) hb2).trans hc2⟩
  rw [List.getD, List.getElem?_eq_getElem hi]; exact List.getElem_mem hi
theorem Ints.len {w : World} {v : Value} {k : IntKind} {xs : List Int} (h : Ints w v k xs) : ∃ ao cap, v = .slice ao xs.length cap ∧ xs.length ≤ cap ∧ xs.length ≤ maxLen := by
  obtain ⟨⟨a, cap, rfl, h1, h2, _⟩, _⟩ := h; exact ⟨a, cap, rfl, h1, h2⟩
/-- A nil slice of integers has no room. -/
theorem nil_room {H : Type} {enc : TypeId × Value → H} {P : Program} {w : World} {base : Nat} {spare : Nat → Bool} {held : Bool} {b0 : Nat} {t e : TypeId} {k : IntKind} {v : Value} {d : DataW H} {p : List MemPlace}
    (ht : P.underlying t = some (.slice e)) (he : P.underlying e = some (.int k)) (hc : P.cellsOf e = 1)
    (hv : Value.okWide P w .any b0 t v) (h : DataW.Trod enc P w base spare held t v d p) : ∀ len cap, v = .slice none len cap → cap = 0 := by
  obtain ⟨a0, len, cap, rfl⟩ := okWide_slice ht hv
  obtain ⟨fuel, hf⟩ := h
  intro len' cap' e
  simp only [Value.slice.injEq] at e
  obtain ⟨rfl, rfl, rfl⟩ := e
  rcases open_ints ht he hc hf with ⟨hcs, _⟩ | ⟨a, len', cap', zs, hcs, _⟩
  · simp [Value.cells] at hcs
    exact hcs.2
  · simp [Value.cells] at hcs
end Go.Proofs.Ytlkpfdboagjaoaa.Open
