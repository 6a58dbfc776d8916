/- Layer 9 (seat): the laws' arguments, opened. -/
import Derived.Test.YtmfcjpbceckafaaLaw09
import Derived.Test.YtmfcjpbceckafaaOpen
import Derived.Lib.SmallJoins
namespace Go.Proofs.Ytmfcjpbceckafaa.Law09
open Go Go.RowKit Go.Deep Go.Joins Go.ChangeShapes Go.WideShapes Go.Proofs.Ytmfcjpbceckafaa.Heap Go.Proofs.Ytmfcjpbceckafaa.Open

section
variable {H : Type} {enc : TypeId × Value → H} {w : World} {base : Nat} {spare : Nat → Bool} {held : Bool} {b0 : Nat}
theorem ops1 {v : Value} {fuel : Nat} {x : DataW H × List MemPlace} (hf : DataW.trod enc Try.prog w base spare held fuel 30 [v] = some x) : ∃ xs, I64s w v 3 xs :=
  came_i64s Try.underlying30 Try.underlying32 (by kernel_rfl) (by kernel_rfl) (by decide)
    (by intro j f hj
        match j, hj with
        | 0, hj => simp at hj; subst hj; exact Try.underlying3
        | 1, hj => simp at hj; subst hj; exact Try.underlying3
        | 2, hj => simp at hj; subst hj; exact Try.underlying3) hf
theorem ops {v : Value} {d : DataW H} {p : List MemPlace} (hv : Value.okWide Try.prog w .any b0 30 v) (h : DataW.Trod enc Try.prog w base spare held 30 v d p) : ∃ xs, I64s w v 3 xs := by
  obtain ⟨a0, len, cap, rfl⟩ := okWide_slice Try.underlying30 hv
  obtain ⟨fuel, hf⟩ := h
  exact ops1 hf
/-- A case: how many contexts, what is taken, and calls. -/
theorem case9 {v : Value} {d : DataW H} {p : List MemPlace} (hv : Value.okWide Try.prog w .any b0 40 v) (h : DataW.Trod enc Try.prog w base spare held 40 v d p) :
    ∃ xs : List (List Int), ∃ n td pd l, v = .agg #[.int .i64 n, .bool td, .bool pd, l] ∧ (Lit.int .i64 n).wf = true ∧ I64s w l 3 xs := by
  obtain ⟨v0, v1, v2, v3, y0, y1, y2, y3, m, rfl, _, _, h0, h1, h2, h3⟩ := open_agg4 Try.underlying40 (by kernel_rfl) (by kernel_rfl) hv h
  obtain ⟨n, e0, _, w0⟩ := DataW.trod_int Try.underlying3 h0
  obtain ⟨td, e1, _⟩ := DataW.trod_bool Try.underlying4 h1
  obtain ⟨pd, e2, _⟩ := DataW.trod_bool Try.underlying4 h2
  simp at e0 e1 e2
  subst e0 e1 e2
  obtain ⟨xs, hx⟩ := ops1 h3
  exact ⟨xs, n, td, pd, v3, rfl, w0, hx⟩
end
end Go.Proofs.Ytmfcjpbceckafaa.Law09
