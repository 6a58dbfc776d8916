/- The law PackApart: how far two counters are is what the document says, it and the one make the other, all sizes are told; for all inputs. -/
import Derived.Test.YtobodplkdojjdaaPPackApartx1
import Derived.KernelRfl
import Derived.OpenShut
namespace Go.Proofs.Ytobodplkdojjdaa.Pure
open Go.RowKit Go.Proofs.Ytobodplkdojjdaa.PPackApart Go.Proofs.YtobodplkdojjdaaW.PrintWords Go.Proofs.YtobodplkdojjdaaW.PrintLast

theorem sizes : pack_Sizes.f 20 = some [1, 2, 4, 8, 16, 32, 64] := by kernel_rfl
theorem loop (a b d : Int) : weighlocklaw01_PackApart.l0 20 a b d [1, 2, 4, 8, 16, 32, 64] [1, 2, 4, 8, 16, 32, 64] 7 0 =
    ((pack_Apart.f a b).bind fun t111 => (if (wrap64 (t111)) = d then ((pack_Apart.f a b).bind fun t112 => (if ((b + t112) % 4294967296) = a then (if (([1, 2, 4, 8, 16, 32, 64] : List Int).length : Int) = 7 then ((weighlocklaw01_awake.f).bind fun t113 => (some t113)) else (some false)) else (some false))) else (some false))) := by kernel_rfl
theorem aw : weighlocklaw01_awake.f = some true := by kernel_rfl

theorem PackApart : weighlocklaw01_PackApart.Pure := by
  intro a b ha hb
  obtain ⟨a0, a1⟩ := bounds_u32 ha
  obtain ⟨b0, b1⟩ := bounds_u32 hb
  refine ⟨20, ?_⟩
  unfold weighlocklaw01_PackApart.f
  rw [sizes]
  simp only [Option.bind_some]
  have hl : ((([1, 2, 4, 8, 16, 32, 64] : List Int).length : Nat) : Int) = 7 := rfl
  rw [hl, loop]
  have e1 : wrap64 a = a := by unfold wrap64; omega
  have e2 : wrap64 b = b := by unfold wrap64; omega
  have e3 : wrap64 (a - b) = a - b := by unfold wrap64; omega
  have e4 : wrap64 (a - b + 4294967296) = a - b + 4294967296 := by unfold wrap64; omega
  rw [e1, e2, e3, e4]
  rw [Int.tmod_eq_emod_of_nonneg (by omega)]
  unfold pack_Apart.f
  simp only [Option.bind_some]
  have e5 : wrap64 ((a - b) % 4294967296) = (a - b) % 4294967296 := by unfold wrap64; omega
  rw [e5, if_pos (by omega), if_pos (by omega), if_pos hl, aw]
  rfl

end Go.Proofs.Ytobodplkdojjdaa.Pure
