/- Layer 6 (pool): the laws' arguments, opened. -/
import Derived.Test.YtnmldhagdgghoaaLaw06b
namespace Go.Proofs.Ytnmldhagdgghoaa.Law06
open Go Go.RowKit Go.Deep Go.ChangeShapes Go.WideShapes Go.Proofs.Ytnmldhagdgghoaa.Heap Go.Proofs.Ytnmldhagdgghoaa.Open
section
variable {H : Type} {enc : TypeId × Value → H} {w : World} {base : Nat} {spare : Nat → Bool} {held : Bool} {b0 : Nat}
theorem ops {v : Value} {d : DataW H} {p : List MemPlace} (hv : Value.okWide Try.prog w .any b0 35 v) (h : DataW.Trod enc Try.prog w base spare held 35 v d p) : ∃ xs, I64s w v 3 xs := by
  obtain ⟨a0, len, cap, rfl⟩ := okWide_slice Try.underlying35 hv
  obtain ⟨fuel, hf⟩ := h
  exact came_i64s Try.underlying35 Try.underlying37 (by kernel_rfl) (by kernel_rfl) (by decide)
    (by intro j f hj
        match j, hj with
        | 0, hj => simp at hj; subst hj; exact Try.underlying3
        | 1, hj => simp at hj; subst hj; exact Try.underlying3
        | 2, hj => simp at hj; subst hj; exact Try.underlying3) hf
end
end Go.Proofs.Ytnmldhagdgghoaa.Law06
