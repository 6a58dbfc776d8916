/- Layers 10 and on: the laws' arguments, opened. -/
import Derived.Test.YtgoaaijdlhhkkaaMach
import Derived.Test.YtgoaaijdlhhkkaaRecs
namespace Go.Proofs.Ytgoaaijdlhhkkaa.Args
open Go Go.RowKit Go.Proofs.Ytgoaaijdlhhkkaa.Heap Go.Proofs.Ytgoaaijdlhhkkaa.Open Go.Deep Go.ChangeShapes Go.WideShapes
section
variable {H : Type} {enc : TypeId × Value → H} {w : World} {base : Nat} {spare : Nat → Bool} {held : Bool} {b0 : Nat}
set_option maxRecDepth 100000 in
theorem homes {v : Value} {d : DataW H} {p : List MemPlace} (hv : Value.okWide Try.prog w .any b0 22 v) (h : DataW.Trod enc Try.prog w base spare held 22 v d p) : ∃ xs, Src1 w v .i64 xs := by
  obtain ⟨xs, hx⟩ : ∃ xs, Ints w v .i64 xs := came_ints Try.underlying22 Try.underlying3 (by kernel_rfl) hv h
  exact ⟨xs, Src1.of_ints hx (nil_room Try.underlying22 Try.underlying3 (by kernel_rfl) hv h)⟩
set_option maxRecDepth 100000 in
theorem ops {v : Value} {d : DataW H} {p : List MemPlace} (hv : Value.okWide Try.prog w .any b0 41 v) (h : DataW.Trod enc Try.prog w base spare held 41 v d p) : ∃ xs, I64s w v 4 xs := by
  obtain ⟨a0, len, cap, rfl⟩ := okWide_slice Try.underlying41 hv
  obtain ⟨fuel, hf⟩ := h
  exact came_i64s Try.underlying41 Try.underlying47 (by kernel_rfl) (by kernel_rfl) (by decide)
    (by intro j f hj
        match j, hj with
        | 0, hj => simp at hj; subst hj; exact Try.underlying3
        | 1, hj => simp at hj; subst hj; exact Try.underlying3
        | 2, hj => simp at hj; subst hj; exact Try.underlying3
        | 3, hj => simp at hj; subst hj; exact Try.underlying3) hf
end
end Go.Proofs.Ytgoaaijdlhhkkaa.Args
