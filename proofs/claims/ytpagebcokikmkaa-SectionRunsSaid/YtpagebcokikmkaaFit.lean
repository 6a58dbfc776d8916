/- Slices that came in: how long they may be, and that a nil one has no room. No program in sight. -/
import Derived.Test.YtpagebcokikmkaaOpen
import Derived.SizedLaws
namespace Go.Proofs.Ytpagebcokikmkaa.Open
open Go Go.RowKit Go.Deep Go.ChangeShapes Go.WideShapes
section
variable {H : Type} {enc : TypeId × Value → H} {P : Program} {w : World} {base : Nat} {spare : Nat → Bool} {held : Bool}
theorem fit_slice {t e : TypeId} {v : Value} {d : DataW H} {p : List MemPlace} (ht : P.underlying t = some (.slice e)) (h : DataW.Trod enc P w base spare held t v d p) {ts : List TypeId} {ds : List (DataW H)}
    (hs : (DataW.weightsEach P ts ds).all (· ≤ reachBytes) = true) {j : Nat} (hj : ts[j]? = some t) (hd : ds[j]? = some d) : ∀ a len cap, v = .slice a len cap → len * P.bytesOf e ≤ reachBytes := by
  rintro a len cap rfl
  obtain ⟨fuel, hf⟩ := h
  rcases open_slice ht hf with ⟨hcs, _⟩ | ⟨a', len', cap', m, n, D, Pl, hcs, _, hl, _, hm, hx, _⟩
  · simp [Value.cells] at hcs; obtain ⟨_, rfl, _⟩ := hcs; rw [Nat.zero_mul]; exact Nat.zero_le _
  · simp [Value.cells] at hcs
    obtain ⟨_, rfl, _⟩ := hcs
    simp only [Prod.mk.injEq] at hx
    obtain ⟨rfl, _⟩ := hx
    have := sized_slice hs hj hd ht
    simp only [List.length_map, List.length_range] at this
    exact Nat.le_trans (Nat.mul_le_mul_right _ (Nat.le_add_right _ _)) this
theorem nil_cap {t e : TypeId} {v : Value} {d : DataW H} {p : List MemPlace} (ht : P.underlying t = some (.slice e)) (h : DataW.Trod enc P w base spare held t v d p) : ∀ len cap, v = .slice none len cap → cap = 0 := by
  rintro len cap rfl
  obtain ⟨fuel, hf⟩ := h
  rcases open_slice ht hf with ⟨hcs, _⟩ | ⟨a', len', cap', m, n, D, Pl, hcs, _⟩
  · simp [Value.cells] at hcs; exact hcs.2
  · simp [Value.cells] at hcs
end
end Go.Proofs.Ytpagebcokikmkaa.Open
