/- Layer 4 (port): the laws' arguments, opened. -/
import Derived.Test.YtfbbogemldaioaaRecs
import Derived.Test.YtfbbogemldaioaaLaw04
namespace Go.Proofs.Ytfbbogemldaioaa.Law04
open Go Go.RowKit Go.Proofs.Ytfbbogemldaioaa.Heap Go.Proofs.Ytfbbogemldaioaa.Open Go.Deep Go.ChangeShapes Go.WideShapes
section
variable {H : Type} {enc : TypeId × Value → H} {w : World} {base : Nat} {spare : Nat → Bool} {held : Bool} {b0 : Nat}
theorem u32s {v : Value} {d : DataW H} {p : List MemPlace} (hv : Value.okWide Try.prog w .any b0 22 v) (h : DataW.Trod enc Try.prog w base spare held 22 v d p) : ∃ xs, Ints w v .u32 xs :=
  came_ints Try.underlying22 Try.underlying28 (by kernel_rfl) hv h
/-- What came in, as a source. -/
def Src (k : IntKind) (w : World) (v : Value) (xs : List Int) : Prop := Ints w v k xs ∧ Src1 w v k xs
theorem u32src {v : Value} {d : DataW H} {p : List MemPlace} (hv : Value.okWide Try.prog w .any b0 22 v) (h : DataW.Trod enc Try.prog w base spare held 22 v d p) : ∃ xs, Src .u32 w v xs := by
  obtain ⟨xs, hx⟩ := u32s hv h
  exact ⟨xs, hx, Src1.of_ints hx (nil_room Try.underlying22 Try.underlying28 (by kernel_rfl) hv h)⟩
theorem i64src {v : Value} {d : DataW H} {p : List MemPlace} (hv : Value.okWide Try.prog w .any b0 27 v) (h : DataW.Trod enc Try.prog w base spare held 27 v d p) : ∃ xs, Src .i64 w v xs := by
  obtain ⟨xs, hx⟩ : ∃ xs, Ints w v .i64 xs := came_ints Try.underlying27 Try.underlying3 (by kernel_rfl) hv h
  exact ⟨xs, hx, Src1.of_ints hx (nil_room Try.underlying27 Try.underlying3 (by kernel_rfl) hv h)⟩
def kinds04 : List (Option IntKind) := [some .i64, some .i64, some .i64, some .u32, some .u32]
theorem ops04 {v : Value} {d : DataW H} {p : List MemPlace} (hv : Value.okWide Try.prog w .any b0 33 v) (h : DataW.Trod enc Try.prog w base spare held 33 v d p) : ∃ xs, Recs w v kinds04 xs :=
  recs_of kinds04 Try.underlying33 Try.underlying35 (by kernel_rfl) (by kernel_rfl) (by decide) rfl
    (by intro j f k hj hk
        match j, hj with
        | 0, hj => simp at hj; subst hj; simp [kinds04] at hk; subst hk; exact Try.underlying3
        | 1, hj => simp at hj; subst hj; simp [kinds04] at hk; subst hk; exact Try.underlying3
        | 2, hj => simp at hj; subst hj; simp [kinds04] at hk; subst hk; exact Try.underlying3
        | 3, hj => simp at hj; subst hj; simp [kinds04] at hk; subst hk; exact Try.underlying28
        | 4, hj => simp at hj; subst hj; simp [kinds04] at hk; subst hk; exact Try.underlying28) hv h
end
end Go.Proofs.Ytfbbogemldaioaa.Law04
