/- Layers 10 and on: the laws' arguments, opened. -/
import Derived.Test.YtlkpfdboagjaoaaMach
import Derived.Test.YtlkpfdboagjaoaaRecs
import Derived.Lib.SmallJoins
namespace Go.Proofs.Ytlkpfdboagjaoaa.Args
open Go Go.RowKit Go.Proofs.Ytlkpfdboagjaoaa.Heap Go.Proofs.Ytlkpfdboagjaoaa.Open Go.Deep Go.ChangeShapes Go.WideShapes
section
variable {H : Type} {enc : TypeId × Value → H} {w : World} {base : Nat} {spare : Nat → Bool} {held : Bool} {b0 : Nat}
set_option maxRecDepth 100000 in
theorem homes {v : Value} {d : DataW H} {p : List MemPlace} (hv : Value.okWide Try.prog w .any b0 22 v) (h : DataW.Trod enc Try.prog w base spare held 22 v d p) : ∃ xs, Src1 w v .i64 xs := by
  obtain ⟨xs, hx⟩ : ∃ xs, Ints w v .i64 xs := came_ints Try.underlying22 Try.underlying3 (by kernel_rfl) hv h
  exact ⟨xs, Src1.of_ints hx (nil_room Try.underlying22 Try.underlying3 (by kernel_rfl) hv h)⟩
set_option maxRecDepth 100000 in
theorem ops {v : Value} {d : DataW H} {p : List MemPlace} (hv : Value.okWide Try.prog w .any b0 41 v) (h : DataW.Trod enc Try.prog w base spare held 41 v d p) : ∃ xs, I64s w v 4 xs := by
  obtain ⟨a0, len, cap, rfl⟩ := okWide_slice Try.underlying41 hv
  obtain ⟨fuel, hf⟩ := h
  exact came_i64s Try.underlying41 Try.underlying47 (by kernel_rfl) (by kernel_rfl) (by decide)
    (by intro j f hj
        match j, hj with
        | 0, hj => simp at hj; subst hj; exact Try.underlying3
        | 1, hj => simp at hj; subst hj; exact Try.underlying3
        | 2, hj => simp at hj; subst hj; exact Try.underlying3
        | 3, hj => simp at hj; subst hj; exact Try.underlying3) hf
set_option maxRecDepth 100000 in
/-- Homes that stand in a struct. -/
theorem homes1 {v : Value} {fuel : Nat} {x : DataW H × List MemPlace} (hf : DataW.trod enc Try.prog w base spare held fuel 22 [v] = some x) : ∃ xs, Src1 w v .i64 xs := by
  rcases open_ints Try.underlying22 Try.underlying3 (by kernel_rfl) hf with ⟨hcs, _⟩ | ⟨a, len', cap', zs, hcs, _, hl, hm, hz, _, hcell, hwz⟩
  · simp at hcs
    subst hcs
    exact ⟨[], none, 0, rfl, (fun _ => ⟨rfl, rfl⟩), fun h => absurd h (Nat.lt_irrefl _)⟩
  · simp at hcs
    subst hcs
    have hzl : len' ≤ zs.length := by rw [hz]; split <;> omega
    have hlen : (zs.take len').length = len' := by simp; omega
    have hx : Ints w (.slice (some a) len' cap') .i64 (zs.take len') := by
      refine ⟨?_, fun x hx => hwz x (List.mem_of_mem_take hx)⟩
      rw [hlen]
      refine ⟨some a, cap', rfl, hl, by omega, fun hpos => ?_⟩
      have h0 := hcell 0 (by omega)
      have ha : a = ⟨a.block, a.off, none⟩ := by
        have := plain_of_cell h0
        unfold Addr.add at this
        simpa using this
      refine ⟨a.block, a.off, by rw [← ha], ?_, fun i hil j x hj hx => ?_⟩
      · have := World.block_lt_of_cell? w _ h0
        unfold Addr.add at this
        simpa using this
      · obtain rfl : j = 0 := by omega
        have h1 := hcell i (by omega)
        simp at hx
        subst hx
        rw [ha] at h1
        have e1 : ((⟨a.block, a.off, none⟩ : Addr).add i) = ⟨a.block, a.off + i * 1 + 0, none⟩ := by rw [← add_spell]; simp
        rw [e1] at h1
        rw [h1]
        simp [List.getD, hil]
    exact ⟨_, Src1.of_ints hx (fun len cap e => by simp at e)⟩
end
end Go.Proofs.Ytlkpfdboagjaoaa.Args
