/- Layer 22 (section): the laws' arguments, opened. -/
import Derived.Test.YtpagebcokikmkaaSecF
import Derived.Test.YtpagebcokikmkaaFit
namespace Go.Proofs.Ytpagebcokikmkaa.Sec
open Go Go.RowKit Go.Deep Go.Proofs.Ytpagebcokikmkaa.Heap Go.Proofs.Ytpagebcokikmkaa.Open

/-- Deeds that came in, as they came: a nil slice has no room. -/
def DeedsIn (w : World) (v : Value) (xs : List D) : Prop := Deeds w v xs ∧ ∀ len cap, v = .slice none len cap → cap = 0
theorem DeedsIn.src {w : World} {v : Value} {xs : List D} (h : DeedsIn w v xs) : Src w v xs := Src.of_deeds h.1 h.2
theorem Deeds.row {w : World} {a : Option Addr} {n cap : Nat} {xs : List D} (h : Deeds w (.slice a n cap) xs) (hp : 0 < xs.length) : ∃ b off, a = some ⟨b, off, none⟩ ∧ b < w.heap.size ∧ ∀ w', Below w.heap.size w w' → ∀ k, k < xs.length →
    w'.cell? ⟨b, off + k * 3, none⟩ = some (.int .i64 (xs.getD k default).k) ∧ w'.cell? ⟨b, off + k * 3 + 1, none⟩ = some (.int .i64 (xs.getD k default).c) ∧ w'.cell? ⟨b, off + k * 3 + 2, none⟩ = some (.int .u32 (xs.getD k default).n) := by
  obtain ⟨⟨a', cap', e, h1, h2, h3⟩, _, _⟩ := h
  simp only [Value.slice.injEq] at e
  obtain ⟨rfl, -, -⟩ := e
  obtain ⟨b, off, ha, hb, hc⟩ := h3 hp
  exact ⟨b, off, ha, hb, fun w' hw k hk => ⟨(hw.cell (p := ⟨b, off + k * 3, none⟩) hb).trans (hc k hk 0 _ (by decide) rfl), (hw.cell (p := ⟨b, off + k * 3 + 1, none⟩) hb).trans (hc k hk 1 _ (by decide) rfl), (hw.cell (p := ⟨b, off + k * 3 + 2, none⟩) hb).trans (hc k hk 2 _ (by decide) rfl)⟩⟩
/-- Cells that came in. -/
def CellsIn (v : Value) (cs : List Int) : Prop := v = .agg (ints .u32 cs).toArray ∧ cs.length = 16
section
variable {H : Type} {enc : TypeId × Value → H} {w : World} {base : Nat} {spare : Nat → Bool} {held : Bool} {b0 : Nat} {v : Value} {d : DataW H} {p : List MemPlace}
theorem cellsIn (hv : Value.okWide Try.prog w .any b0 24 v) (h : DataW.Trod enc Try.prog w base spare held 24 v d p) : ∃ cs, CellsIn v cs := by
  obtain ⟨xs, h1, h2, _⟩ := open_array_ints Try.underlying24 Try.underlying22 (by kernel_rfl) (by kernel_rfl) hv h
  exact ⟨xs, h1, h2⟩
theorem bytes_deed : Try.prog.bytesOf 30 = 24 := by kernel_rfl
theorem deeds (hv : Value.okWide Try.prog w .any b0 25 v) (h : DataW.Trod enc Try.prog w base spare held 25 v d p)
    (hs : ∀ a len cap, v = .slice a len cap → len * Try.prog.bytesOf 30 ≤ reachBytes) : ∃ xs, DeedsIn w v xs := by
  have hn := nil_cap Try.underlying25 h
  obtain ⟨len, g, hc, hg⟩ := came_structs Try.underlying25 Try.underlying30 (by kernel_rfl) (by kernel_rfl) (by decide)
    (by intro j f hj
        match j, hj with
        | 0, hj => simp at hj; subst hj; exact .inl ⟨_, Try.underlying3⟩
        | 1, hj => simp at hj; subst hj; exact .inl ⟨_, Try.underlying3⟩
        | 2, hj => simp at hj; subst hj; exact .inl ⟨_, Try.underlying22⟩) hv h
  have key : ∀ i, i < len → ∃ x : D, (∀ j y, j < 3 → x.cells[j]? = some y → (g i)[j]? = some y) ∧ x.wf := by
    intro i hi
    obtain ⟨x0, e0, s0⟩ := hg i hi 0 _ rfl
    obtain ⟨x1, e1, s1⟩ := hg i hi 1 _ rfl
    obtain ⟨x2, e2, s2⟩ := hg i hi 2 _ rfl
    obtain ⟨n0, rfl, w0⟩ := s0.int Try.underlying3
    obtain ⟨n1, rfl, w1⟩ := s1.int Try.underlying3
    obtain ⟨n2, rfl, w2⟩ := s2.int Try.underlying22
    refine ⟨⟨n0, n1, n2⟩, fun j y hj hy => ?_, w0, w1, w2⟩
    match j, hy with
    | 0, hy => simp [D.cells] at hy; subst hy; exact e0
    | 1, hy => simp [D.cells] at hy; subst hy; exact e1
    | 2, hy => simp [D.cells] at hy; subst hy; exact e2
  obtain ⟨f, hf⟩ := choose_lt key
  obtain ⟨a, cap, rfl, hl, hm, hx⟩ := hc
  have hfit := hs _ _ _ rfl
  rw [bytes_deed] at hfit
  refine ⟨(List.range len).map f, ⟨⟨a, cap, by simp, by simpa using hl, by simpa using hm, fun hpos => ?_⟩, ?_, by simpa [reachBytes] using hfit⟩, hn⟩
  · obtain ⟨b, off, ha, hb, hcell⟩ := hx (by simpa using hpos)
    refine ⟨b, off, ha, hb, fun i hi j x hj hxj => hcell i (by simpa using hi) j x hj ?_⟩
    have hi' : i < len := by simpa using hi
    have e : ((List.range len).map f).getD i default = f i := by simp [List.getD, hi']
    have hxj2 : ((((List.range len).map f).getD i default).cells)[j]? = some x := hxj
    rw [e] at hxj2
    exact (hf i hi').1 j x hj hxj2
  · intro x hx
    obtain ⟨i, hi, rfl⟩ := List.mem_map.1 hx
    exact (hf i (by simpa using hi)).2
end
end Go.Proofs.Ytpagebcokikmkaa.Sec
