/- The law PackSlots: any counter's slot, of any size, is what the document says, that of the next counter the next slot, round too; for all inputs. -/
import Derived.Test.YtobodplkdojjdaaSlot
import Derived.OpenShut
namespace Go.Proofs.Ytobodplkdojjdaa.WalkPackSlots
open Go Go.RowKit Go.Proofs.Ytobodplkdojjdaa.Bits Go.Proofs.Ytobodplkdojjdaa.Pack

set_option maxHeartbeats 2000000 in
theorem walk (n size : Int) (w : World) (wf : (Lit.int .u32 n).wf = true) : Calls Try.prog 7 #[.int .u32 n, .int .i64 size] w fun e w' => e = .returned (.bool true) ∧ Below w.heap.size w w' := by
  obtain ⟨h0, h1⟩ := bounds_u32 wf
  clear wf
  by_cases hs : IsSize size
  · have hb := Lib.hid ((sizeB_iff size).2 hs)
    have l1 : n < 4294967296 := by omega
    have p1 : 1 ≤ size ∧ size ≤ 64 := by unfold IsSize at hs; omega
    obtain ⟨p1, p2⟩ := p1
    obtain ⟨r, hr⟩ : ∃ r, r = n % size := ⟨_, rfl⟩
    have r0 : 0 ≤ r := by rw [hr]; exact Int.emod_nonneg _ (by omega)
    have r1 : r < size := by rw [hr]; exact Int.emod_lt_of_pos _ (by omega)
    obtain ⟨q, hq⟩ : ∃ q, q = (r + 1) % size := ⟨_, rfl⟩
    obtain ⟨m, hm⟩ : ∃ m, m = IntKind.u32.wrap (n + 1) := ⟨_, rfl⟩
    have hm' : m = (n + 1) % 4294967296 := by rw [hm, IntKind.wrap_u32]
    have m0 : 0 ≤ m := by omega
    have m1 : m < 4294967296 := by omega
    have hqm : q = m % size := by
      unfold IsSize at hs
      rcases hs with rfl | rfl | rfl | rfl | rfl | rfl | rfl <;> omega
    have e1 : n.tmod size = r := by rw [Int.tmod_eq_emod_of_nonneg h0, hr]
    have e2 : (r + 1).tmod size = q := by rw [Int.tmod_eq_emod_of_nonneg (by omega), hq]
    have e3 : n % size = r := hr.symm
    have e4 : (r + 1) % size = q := hq.symm
    have e5 : IntKind.u32.wrap (n + 1) = m := hm.symm
    have HR := Lib.hid hr; have HQ := Lib.hid hqm
    clear hr hq hm hm' hqm
    go_enter Try.func7, Try.ntmps7
    go_wp2_with fail
    refine (slot_yes n size _ hs h0 l1 r HR.out).mono ?_
    rintro e w1 ⟨rfl, rfl⟩
    go_wp2_with fail
    refine (size_all _ _).mono ?_
    rintro e w1 ⟨rfl, rfl⟩
    rw [hb.out]
    go_wp2_with fail
    go_quiet ((first | (go_at_call 19; exact Calls.quiet_of_same ((slot_yes m size _ hs m0 m1 q HQ.out).mono fun e w' ⟨he, hw⟩ => ⟨he, hw.symm⟩)) | (go_at_call 16; exact Calls.quiet_of_same ((awake _).mono fun e w' ⟨he, hw⟩ => ⟨he, hw.symm⟩))))
    go_wp2
    go_ret
    exact ⟨rfl, ⟨rfl, rfl, rfl, Nat.le_refl _, fun _ _ => rfl⟩⟩
  · have hb : sizeB size = false := by rw [← Bool.not_eq_true, sizeB_iff]; exact hs
    have HB := Lib.hid hb
    clear hb
    go_enter Try.func7, Try.ntmps7
    go_wp2_with fail
    refine (slot_no n size _ hs).mono ?_
    rintro e w1 ⟨rfl, rfl⟩
    go_wp2_with fail
    refine (size_all _ _).mono ?_
    rintro e w1 ⟨rfl, rfl⟩
    rw [HB.out]
    go_wp2_with fail
    refine (awake _).mono ?_
    rintro e w1 ⟨rfl, rfl⟩
    go_wp2
    go_ret
    exact ⟨rfl, Below.refl _ _⟩
end Go.Proofs.Ytobodplkdojjdaa.WalkPackSlots
