/- Layer 3 (cache): a law's argument, a slice of touches. -/
import Derived.Test.YtcpbojjimfcbhaaLaw03
import Derived.Test.YtcpbojjimfcbhaaOpen
namespace Go.Proofs.Ytcpbojjimfcbhaa.Law03
open Go Go.RowKit Go.Deep Go.Proofs.Ytcpbojjimfcbhaa.Heap Go.Proofs.Ytcpbojjimfcbhaa.Cache Go.Proofs.Ytcpbojjimfcbhaa.Open

structure T where
  t : Int
  a : Int
  wr : Bool
def T.cells (x : T) : List Value := [.int .i64 x.t, .int .i64 x.a, .bool x.wr]
instance : Inhabited T := ⟨⟨0, 0, false⟩⟩
/-- A slice of touches that came in. -/
def Touches (w : World) (v : Value) (xs : List T) : Prop := Came w v xs.length 3 (fun i => (xs.getD i default).cells) ∧ ∀ x ∈ xs, (Lit.int .i64 x.t).wf = true ∧ (Lit.int .i64 x.a).wf = true

theorem touches {H : Type} {enc : TypeId × Value → H} {w : World} {base : Nat} {spare : Nat → Bool} {held : Bool} {b0 : Nat} {v : Value} {d : DataW H} {p : List MemPlace}
    (hv : Value.okWide Try.prog w .any b0 29 v) (h : DataW.Trod enc Try.prog w base spare held 29 v d p) : ∃ xs, Touches w v xs := by
  obtain ⟨len, g, hc, hg⟩ := came_structs Try.underlying29 Try.underlying32 (by kernel_rfl) (by kernel_rfl) (by decide)
    (by intro j f hj
        match j, hj with
        | 0, hj => simp at hj; subst hj; exact .inl ⟨_, Try.underlying3⟩
        | 1, hj => simp at hj; subst hj; exact .inl ⟨_, Try.underlying3⟩
        | 2, hj => simp at hj; subst hj; exact .inr Try.underlying4) hv h
  have key : ∀ i, i < len → ∃ x : T, (∀ j y, j < 3 → x.cells[j]? = some y → (g i)[j]? = some y) ∧ (Lit.int .i64 x.t).wf = true ∧ (Lit.int .i64 x.a).wf = true := by
    intro i hi
    obtain ⟨x0, e0, s0⟩ := hg i hi 0 _ rfl
    obtain ⟨x1, e1, s1⟩ := hg i hi 1 _ rfl
    obtain ⟨x2, e2, s2⟩ := hg i hi 2 _ rfl
    obtain ⟨n0, rfl, w0⟩ := s0.int Try.underlying3
    obtain ⟨n1, rfl, w1⟩ := s1.int Try.underlying3
    obtain ⟨n2, rfl⟩ := s2.bool Try.underlying4
    refine ⟨⟨n0, n1, n2⟩, fun j y hj hy => ?_, w0, w1⟩
    match j, hy with
    | 0, hy => simp [T.cells] at hy; subst hy; exact e0
    | 1, hy => simp [T.cells] at hy; subst hy; exact e1
    | 2, hy => simp [T.cells] at hy; subst hy; exact e2
  obtain ⟨f, hf⟩ := choose_lt key
  obtain ⟨a, cap, rfl, hl, hm, hx⟩ := hc
  refine ⟨(List.range len).map f, ⟨a, cap, by simp, by simpa using hl, by simpa using hm, fun hpos => ?_⟩, ?_⟩
  · obtain ⟨b, off, ha, hb, hcell⟩ := hx (by simpa using hpos)
    refine ⟨b, off, ha, hb, fun i hi j x hj hxj => hcell i (by simpa using hi) j x hj ?_⟩
    have hi' : i < len := by simpa using hi
    have e : ((List.range len).map f).getD i default = f i := by simp [List.getD, hi']
    have hxj2 : ((((List.range len).map f).getD i default).cells)[j]? = some x := hxj
    rw [e] at hxj2
    exact (hf i hi').1 j x hj hxj2
  · intro x hx
    obtain ⟨i, hi, rfl⟩ := List.mem_map.1 hx
    exact (hf i (by simpa using hi)).2
end Go.Proofs.Ytcpbojjimfcbhaa.Law03
