/- Layer 2 (mem): accesses, as the program and the document have them, walked. -/
import Derived.Test.YtoddbjmkdhaklaaMemO
import Derived.Test.YtoddbjmkdhaklaaRecs
namespace Go.Proofs.Ytoddbjmkdhaklaa.Mem
open Go Go.RowKit Go.Proofs.Ytoddbjmkdhaklaa.Heap Go.Proofs.Ytoddbjmkdhaklaa.Open



theorem src_of_rowP {w : World} {g cap : Nat} {k : IntKind} {xs : List Int} (h : RowP w g (ints k xs)) : Src1 w (.slice (some ⟨g, 0, none⟩) xs.length cap) k xs :=
  ⟨some ⟨g, 0, none⟩, cap, rfl, fun e => by simp at e, fun _ => ⟨g, 0, rfl, h.lt, fun i hi => by rw [Nat.zero_add]; exact h.cell (ints_get hi)⟩⟩
theorem src_of_row {w : World} {g cap : Nat} {k : IntKind} {xs : List Int} (h : Row w g (ints k xs)) : Src1 w (.slice (some ⟨g, 0, none⟩) xs.length cap) k xs := src_of_rowP h.toP

end Go.Proofs.Ytoddbjmkdhaklaa.Mem
