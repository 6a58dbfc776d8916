/- Arguments of a law, opened to cells: slices of integers, slices of structs of integers and truths. No program in sight. -/
import Derived.Deep.Slices
import Derived.Deep.Fields
import Derived.ChangeSame
import Derived.ProofKit
import Derived.OpenShut
namespace Go.Proofs.Ytnmldhagdgghoaa.Open
open Go Go.ChangeShapes Go.WideShapes Go.Deep Go.RowKit

/-- A slice that came in: its value, how many elements of s cells each, and the cells of each. -/
def Came (w : World) (v : Value) (len s : Nat) (g : Nat → List Value) : Prop :=
  ∃ (a : Option Addr) (cap : Nat), v = .slice a len cap ∧ len ≤ cap ∧ len ≤ maxLen ∧
    (0 < len → ∃ b off, a = some ⟨b, off, none⟩ ∧ b < w.heap.size ∧ ∀ i, i < len → ∀ j x, j < s → (g i)[j]? = some x → w.cell? ⟨b, off + i * s + j, none⟩ = some x)

/-- A cell of an integer or a truth. -/
def ScalarOk (P : Program) (t : TypeId) (x : Value) : Prop :=
  (∃ k n, P.underlying t = some (.int k) ∧ x = .int k n ∧ (Lit.int k n).wf = true) ∨ (P.underlying t = some .bool ∧ ∃ b, x = .bool b)
theorem ScalarOk.int {P : Program} {t : TypeId} {x : Value} {k : IntKind} (h : ScalarOk P t x) (ht : P.underlying t = some (.int k)) : ∃ n, x = .int k n ∧ (Lit.int k n).wf = true := by
  rcases h with ⟨k', n, hk, rfl, hw⟩ | ⟨hk, _⟩
  · rw [ht] at hk; simp at hk; subst hk; exact ⟨n, rfl, hw⟩
  · rw [ht] at hk; simp at hk
theorem ScalarOk.bool {P : Program} {t : TypeId} {x : Value} (h : ScalarOk P t x) (ht : P.underlying t = some .bool) : ∃ b, x = .bool b := by
  rcases h with ⟨k', n, hk, rfl, hw⟩ | ⟨_, b, rfl⟩
  · rw [ht] at hk; simp at hk
  · exact ⟨b, rfl⟩

section
variable {H : Type} {enc : TypeId × Value → H} {P : Program} {w : World} {base : Nat} {spare : Nat → Bool} {held : Bool} {b0 : Nat}

theorem plain_of_cell {w : World} {a : Addr} {x : Value} (h : w.cell? a = some x) : a = ⟨a.block, a.off, none⟩ := by
  obtain ⟨b, o, s⟩ := a
  cases s with
  | none => rfl
  | some s => unfold World.cell? at h; split at h <;> simp at h
theorem add_spell (b off i s j : Nat) : ((⟨b, off, none⟩ : Addr).add (i * s + j)) = ⟨b, off + i * s + j, none⟩ := by
  unfold Addr.add
  split
  · rename_i h; congr 1; omega
  · simp; omega

theorem came_structs1 {t e : TypeId} {fs : Array Field} {v : Value} {fuel : Nat} {x : DataW H × List MemPlace} (ht : P.underlying t = some (.slice e)) (he : P.underlying e = some (.struct fs))
    (hone : oneCellFields P fs = true) (hC : P.cellsOf e = fs.size) (hf0 : 0 < fs.size)
    (hsc : ∀ (j : Nat) (f : Field), fs[j]? = some f → (∃ k, P.underlying f.type = some (.int k)) ∨ P.underlying f.type = some .bool)
    (hf : DataW.trod enc P w base spare held fuel t [v] = some x) :
    ∃ len g, Came w v len fs.size g ∧ ∀ i, i < len → ∀ (j : Nat) (f : Field), fs[j]? = some f → ∃ x, (g i)[j]? = some x ∧ ScalarOk P f.type x := by
  rcases open_slice ht hf with ⟨hcs, _⟩ | ⟨a, len, cap, m, n, D, Pl, hcs, hb, hl, hm, hmm, hx, hi⟩
  · simp at hcs
    subst hcs
    exact ⟨0, fun _ => [], ⟨none, 0, rfl, Nat.le_refl _, Nat.zero_le _, fun h => absurd h (Nat.lt_irrefl _)⟩, fun i hi => absurd hi (Nat.not_lt_zero _)⟩
  · simp at hcs
    subst hcs
    have hlm : len ≤ m := by rw [hmm]; split <;> omega
    have key : ∀ i, i < len → ∃ cs : List Value, cs.length = fs.size ∧ ∀ (j : Nat) (f : Field), fs[j]? = some f → ∃ x, cs[j]? = some x ∧ w.cell? (a.add (i * fs.size + j)) = some x ∧ ScalarOk P f.type x := by
      intro i hil
      obtain ⟨cs', hc, ht'⟩ := hi i (by omega)
      rw [hC] at hc
      obtain ⟨ys, n', hn', hy, hlen, hyl, hg⟩ := DataW.trod_struct he ht'
      obtain ⟨_, hcl, hat⟩ := World.cells?_some hc
      refine ⟨cs', by omega, fun j f hj => ?_⟩
      obtain ⟨ho, hk⟩ := hone_of hone j f hj
      have hjl : j < fs.size := (Array.getElem?_eq_some_iff.1 hj).1
      have hcell := hat j hjl
      have hv : cs'[j]? = some (cs'[j]'(by omega)) := List.getElem?_eq_getElem (by omega)
      have h1 := hg j f hj
      rw [ho, hk] at h1
      have hone' : (cs'.drop j).take 1 = [cs'[j]'(by omega)] := by rw [List.drop_eq_getElem_cons (by omega)]; rfl
      rw [hone'] at h1
      have hys : ys[j]? = some (ys[j]'(by omega)) := List.getElem?_eq_getElem (by omega)
      have h2 := h1.trans hys
      refine ⟨_, hv, by rw [← Go.Deep.add_add, hcell, hv], ?_⟩
      rcases hsc j f hj with ⟨k, hk⟩ | hk
      · obtain ⟨q, e1, _, e2⟩ := DataW.trod_int hk h2
        simp at e1
        exact .inl ⟨k, q, hk, e1, e2⟩
      · obtain ⟨q, e1, _⟩ := DataW.trod_bool hk h2
        simp at e1
        exact .inr ⟨hk, q, e1⟩
    obtain ⟨g, hg⟩ := choose_lt key
    refine ⟨len, g, ⟨some a, cap, rfl, hl, by omega, fun hpos => ?_⟩, fun i hil j f hj => ?_⟩
    · have hf00 : fs[0]? = some (fs[0]'hf0) := Array.getElem?_eq_getElem hf0
      obtain ⟨x, _, hx0, _⟩ := (hg 0 hpos).2 0 _ hf00
      have ha : a = ⟨a.block, a.off, none⟩ := by
        have := plain_of_cell hx0
        unfold Addr.add at this
        simpa using this
      refine ⟨a.block, a.off, by rw [← ha], ?_, fun i hil j x hj hx => ?_⟩
      · have := World.block_lt_of_cell? w _ hx0
        unfold Addr.add at this
        simpa using this
      · have hjs : fs[j]? = some (fs[j]'hj) := Array.getElem?_eq_getElem hj
        obtain ⟨y, hy1, hy2, _⟩ := (hg i hil).2 j _ hjs
        rw [hx] at hy1
        simp at hy1
        rw [ha, add_spell] at hy2
        rw [hy1]; exact hy2
    · obtain ⟨x, h1, _, h3⟩ := (hg i hil).2 j f hj
      exact ⟨x, h1, h3⟩

theorem came_structs {t e : TypeId} {fs : Array Field} {v : Value} {d : DataW H} {p : List MemPlace} (ht : P.underlying t = some (.slice e)) (he : P.underlying e = some (.struct fs))
    (hone : oneCellFields P fs = true) (hC : P.cellsOf e = fs.size) (hf0 : 0 < fs.size)
    (hsc : ∀ (j : Nat) (f : Field), fs[j]? = some f → (∃ k, P.underlying f.type = some (.int k)) ∨ P.underlying f.type = some .bool)
    (hv : Value.okWide P w .any b0 t v) (h : DataW.Trod enc P w base spare held t v d p) :
    ∃ len g, Came w v len fs.size g ∧ ∀ i, i < len → ∀ (j : Nat) (f : Field), fs[j]? = some f → ∃ x, (g i)[j]? = some x ∧ ScalarOk P f.type x := by
  obtain ⟨a0, len, cap, rfl⟩ := okWide_slice ht hv
  obtain ⟨fuel, hf⟩ := h
  exact came_structs1 ht he hone hC hf0 hsc hf

/-- A slice of structs of ints alone: of each its ints. -/
def I64s (w : World) (v : Value) (s : Nat) (xs : List (List Int)) : Prop :=
  Came w v xs.length s (fun i => (xs.getD i []).map (Value.int .i64)) ∧ ∀ x ∈ xs, x.length = s ∧ ∀ y ∈ x, (Lit.int .i64 y).wf = true
theorem came_i64s {t e : TypeId} {fs : Array Field} {v : Value} {fuel : Nat} {x : DataW H × List MemPlace} (ht : P.underlying t = some (.slice e)) (he : P.underlying e = some (.struct fs))
    (hone : oneCellFields P fs = true) (hC : P.cellsOf e = fs.size) (hf0 : 0 < fs.size) (hsc : ∀ (j : Nat) (f : Field), fs[j]? = some f → P.underlying f.type = some (.int .i64))
    (hf : DataW.trod enc P w base spare held fuel t [v] = some x) : ∃ xs, I64s w v fs.size xs := by
  obtain ⟨len, g, hc, hg⟩ := came_structs1 ht he hone hC hf0 (fun j f hj => .inl ⟨_, hsc j f hj⟩) hf
  have key : ∀ i, i < len → ∃ l : List Int, l.length = fs.size ∧ (∀ y ∈ l, (Lit.int .i64 y).wf = true) ∧ ∀ j y, j < fs.size → (l.map (Value.int .i64))[j]? = some y → (g i)[j]? = some y := by
    intro i hi
    have kj : ∀ j, j < fs.size → ∃ n : Int, (g i)[j]? = some (.int .i64 n) ∧ (Lit.int .i64 n).wf = true := by
      intro j hj
      have hjs : fs[j]? = some (fs[j]'hj) := Array.getElem?_eq_getElem hj
      obtain ⟨y, h1, h2⟩ := hg i hi j _ hjs
      obtain ⟨n, rfl, hw⟩ := h2.int (hsc j _ hjs)
      exact ⟨n, h1, hw⟩
    obtain ⟨f, hf⟩ := choose_lt kj
    refine ⟨(List.range fs.size).map f, by simp, ?_, ?_⟩
    · intro y hy
      obtain ⟨j, hj, rfl⟩ := List.mem_map.1 hy
      exact (hf j (by simpa using hj)).2
    · intro j y hj hy
      simp [hj] at hy
      subst hy
      exact (hf j hj).1
  obtain ⟨f, hF⟩ := choose_lt key
  obtain ⟨a, cap, rfl, hl, hm, hx⟩ := hc
  refine ⟨(List.range len).map f, ⟨a, cap, by simp, by simpa using hl, by simpa using hm, fun hpos => ?_⟩, ?_⟩
  · obtain ⟨b, off, ha, hb, hcell⟩ := hx (by simpa using hpos)
    refine ⟨b, off, ha, hb, fun i hi j x hj hxj => hcell i (by simpa using hi) j x hj ?_⟩
    have hi' : i < len := by simpa using hi
    have e : ((List.range len).map f).getD i [] = f i := by simp [List.getD, hi']
    have hxj2 : ((((List.range len).map f).getD i []).map (Value.int .i64))[j]? = some x := hxj
    rw [e] at hxj2
    exact (hF i hi').2.2 j x hj hxj2
  · intro x hx
    obtain ⟨i, hi, rfl⟩ := List.mem_map.1 hx
    have := hF i (by simpa using hi)
    exact ⟨this.1, this.2.1⟩

/-- A slice of integers, its elements. -/
def Ints (w : World) (v : Value) (k : IntKind) (xs : List Int) : Prop :=
  Came w v xs.length 1 (fun i => [.int k (xs.getD i 0)]) ∧ ∀ x ∈ xs, (Lit.int k x).wf = true
theorem came_ints {t e : TypeId} {k : IntKind} {v : Value} {d : DataW H} {p : List MemPlace} (ht : P.underlying t = some (.slice e)) (he : P.underlying e = some (.int k)) (hc : P.cellsOf e = 1)
    (hv : Value.okWide P w .any b0 t v) (h : DataW.Trod enc P w base spare held t v d p) : ∃ xs, Ints w v k xs := by
  obtain ⟨a0, len, cap, rfl⟩ := okWide_slice ht hv
  obtain ⟨fuel, hf⟩ := h
  rcases open_ints ht he hc hf with ⟨hcs, _⟩ | ⟨a, len', cap', zs, hcs, _, hl, hm, hz, _, hcell, hwz⟩
  · simp [Value.cells] at hcs
    obtain ⟨rfl, rfl, rfl⟩ := hcs
    exact ⟨[], ⟨none, 0, rfl, Nat.le_refl _, Nat.zero_le _, fun h => absurd h (Nat.lt_irrefl _)⟩, fun x hx => by cases hx⟩
  · simp [Value.cells] at hcs
    obtain ⟨rfl, rfl, rfl⟩ := hcs
    have hzl : len ≤ zs.length := by rw [hz]; split <;> omega
    have hlen : (zs.take len).length = len := by simp; omega
    refine ⟨zs.take len, ?_, fun x hx => hwz x (List.mem_of_mem_take hx)⟩
    rw [hlen]
    refine ⟨some a, cap, rfl, hl, by omega, fun hpos => ?_⟩
    have h0 := hcell 0 (by omega)
    have ha : a = ⟨a.block, a.off, none⟩ := by
      have := plain_of_cell h0
      unfold Addr.add at this
      simpa using this
    refine ⟨a.block, a.off, by rw [← ha], ?_, fun i hil j x hj hx => ?_⟩
    · have := World.block_lt_of_cell? w _ h0
      unfold Addr.add at this
      simpa using this
    · obtain rfl : j = 0 := by omega
      have h1 := hcell i (by omega)
      simp at hx
      subst hx
      rw [ha] at h1
      have e1 : ((⟨a.block, a.off, none⟩ : Addr).add i) = ⟨a.block, a.off + i * 1 + 0, none⟩ := by rw [← add_spell]; simp
      rw [e1] at h1
      rw [h1]
      simp [List.getD, hil]
end
end Go.Proofs.Ytnmldhagdgghoaa.Open
