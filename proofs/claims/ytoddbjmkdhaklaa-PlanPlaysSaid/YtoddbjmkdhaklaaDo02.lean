/- Layer 2 (mem): the document's access, in one contract; openers of the laws' arguments. -/
import Derived.Test.YtoddbjmkdhaklaaOps02
namespace Go.Proofs.Ytoddbjmkdhaklaa.Mem
open Go Go.RowKit Go.Proofs.Ytoddbjmkdhaklaa.Heap Go.Proofs.Ytoddbjmkdhaklaa.Open Go.Deep Go.ChangeShapes Go.WideShapes

set_option maxHeartbeats 1000000 in
theorem homes_all (w : World) (v : Value) (hs : List Int) (h : Src1 w v .i64 hs) (hl : hs.length ≤ 100000) : Calls Try.prog 14 #[v] w fun e w' => e = .returned (.bool (homesOk hs)) ∧ w = w' := by
  obtain ⟨a, cap, rfl, -, hcells⟩ := h
  have hl' : (hs.length : Int) ≤ 100000 := by omega
  go_enter Try.func14, Try.ntmps14
  go_wp2_with fail
  go_loop [7] (fun i => ∃ k : Nat, k ≤ hs.length ∧ i = .int .i64 k ∧ homesOk (hs.take k) = true) (fun i => hs.length - (intOf i).toNat)
  case atStart => exact ⟨0, Nat.zero_le _, rfl, rfl⟩
  case round =>
    obtain ⟨k, hk, rfl, hall⟩ := hrel
    by_cases hlt : k < hs.length
    · obtain ⟨b, off, rfl, hbl, hcell⟩ := hcells (by omega)
      have c0 := hcell k hlt
      obtain ⟨x, hx⟩ : ∃ x, hs.getD k 0 = x := ⟨_, rfl⟩
      have hsn : hs.take (k + 1) = hs.take k ++ [x] := by rw [← hx, getD_lt _ _ _ hlt, List.take_succ_eq_append_getElem hlt]
      have hbad : ¬ (0 ≤ x ∧ x < 8) → homesOk hs = false := by
        intro hn
        rw [Bool.eq_false_iff]; intro ht
        have := (List.all_eq_true.1 ht) x (by rw [← hx, getD_lt _ _ _ hlt]; exact List.getElem_mem hlt)
        exact hn (by simpa using this)
      rw [hx] at c0
      clear hx hcell hcells
      by_cases x0 : x < 0
      · have hb := Lib.hid (hbad (by omega))
        clear hsn hall hbad
        go_wp2_with fail
        go_ret
        exact ⟨by rw [hb.out]; rfl, rfl⟩
      by_cases x1 : 7 < x
      · have hb := Lib.hid (hbad (by omega))
        have x0' : 0 ≤ x := by omega
        clear hsn hall hbad
        go_wp2_with fail
        go_ret
        exact ⟨by rw [hb.out]; rfl, rfl⟩
      have x0' : 0 ≤ x := by omega
      have x1' : x ≤ 7 := by omega
      have hall' : homesOk (hs.take (k + 1)) = true := by
        rw [hsn]; simp only [homesOk, List.all_append, Bool.and_eq_true] at hall ⊢
        exact ⟨hall, by simp; omega⟩
      clear hsn hall hbad
      go_wp2_with fail
      go_round
      case rel => exact ⟨k + 1, by omega, by go_num, hall'⟩
      case measure => simp [intOf]; omega
    · obtain rfl : k = hs.length := by omega
      rw [List.take_length] at hall
      have hall' := Lib.hid hall
      clear hall hcells
      go_wp2_with fail
      go_ret
      exact ⟨by rw [hall'.out]; rfl, rfl⟩

section
variable {H : Type} {enc : TypeId × Value → H} {w : World} {base : Nat} {spare : Nat → Bool} {held : Bool} {b0 : Nat}
end
end Go.Proofs.Ytoddbjmkdhaklaa.Mem
