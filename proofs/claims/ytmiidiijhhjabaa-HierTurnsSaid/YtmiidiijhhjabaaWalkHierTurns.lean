/- The law HierTurns, walked. -/
import Derived.Test.YtmiidiijhhjabaaServW
import Derived.Test.YtmiidiijhhjabaaHierT
import Derived.Test.YtmiidiijhhjabaaLaw15
import Derived.Test.YtmiidiijhhjabaaOps10
namespace Go.Proofs.Ytmiidiijhhjabaa.WalkHierTurns
open Go Go.RowKit Go.Proofs.Ytmiidiijhhjabaa.Heap Go.Proofs.Ytmiidiijhhjabaa.Open Go.Proofs.Ytmiidiijhhjabaa.Seat Go.Proofs.Ytmiidiijhhjabaa.Mach Go.Proofs.Ytmiidiijhhjabaa.Has Go.Proofs.Ytmiidiijhhjabaa.Lk Go.Proofs.Ytmiidiijhhjabaa.StepU Go.Proofs.Ytmiidiijhhjabaa.Hier Go.Proofs.Ytmiidiijhhjabaa.Law15

set_option maxHeartbeats 4000000 in
theorem walk (v : Value) (hs : List Int) (c : Int) (w : World) (h0 : Src1 w v .i64 hs) (hc8 : (Lit.int .u8 c).wf = true) :
    Calls Try.prog 6 #[v, .int .u8 c] w fun e w' => e = .returned (.bool true) ∧ Below w.heap.size w w' := by
  have hc := bounds_u8 hc8
  clear hc8
  have KF : Calls Try.prog 16 #[v, .slice none 0 0] w fun e w' => e = .returned (.bool (fineB hs 0)) ∧ w = w' := fine w v hs h0 none 0 0
  cases hf : fineB hs 0 with
  | false =>
    rw [hf] at KF
    have HF := Lib.hid KF
    clear KF hf
    obtain ⟨a, c, rfl, -, -⟩ := h0
    go_enter Try.func6, Try.ntmps6
    go_wp2_with fail
    refine HF.out.mono ?_
    rintro e w' ⟨rfl, rfl⟩
    go_wp2_with fail
    refine (awake _).mono ?_
    rintro e w4 ⟨rfl, u4⟩
    go_wp2_with fail
    go_ret
    exact ⟨rfl, u4⟩
  | true =>
    rw [hf] at KF
    obtain ⟨n1, n8, hok, -⟩ := fineB_true hf
    have HF := Lib.hid KF
    obtain ⟨cl, hcl, hcl2⟩ : ∃ cl : Nat, (cl : Int) = c % 21 ∧ cl ≤ 20 := ⟨(c % 21).toNat, by omega, by omega⟩
    have hcm : Int.tmod c 21 = c % 21 := Int.tmod_eq_emod_of_nonneg hc.1
    have HKM := Lib.hid (madeC w v hs h0 n1 (by omega) hok)
    clear KF hf
    obtain ⟨a, c, rfl, -, -⟩ := h0
    go_enter Try.func6, Try.ntmps6
    go_wp2_with fail
    refine HF.out.mono ?_
    rintro e w' ⟨rfl, rfl⟩
    go_wp2_with fail
    refine HKM.out.mono ?_
    rintro e w3 ⟨l, s, lb, pb, cap, p, SP, rfl, hM⟩
    have KU : Calls Try.prog 35 #[.pointer (some ⟨l, 0, none⟩), .pointer (some ⟨p, 0, none⟩)] w3 fun e w' => e = .returned (.tuple #[]) ∧ (O l s lb pb cap p SP hs.length (hh hs) 0 w' 0 (st0 hs ([] ++ [(hs.length : Int) + 1] ++ List.replicate 8 0 ++ List.replicate hs.length 0 ++ [4294967292])) ∧ (st0 hs ([] ++ [(hs.length : Int) + 1] ++ List.replicate 8 0 ++ List.replicate hs.length 0 ++ [4294967292])).seats.length = hs.length) ∧ Upd (ft l s lb pb SP) w3 w' := by
      refine (useO hM.obj.at_ hM.obj.port hM.obj.sep).mono ?_
      rintro e w' ⟨he, ho, hu⟩
      exact ⟨he, ⟨ho, by simp [st0]⟩, hu⟩
    have g2 : ∀ t : Nat, SeatP.stt (st0 hs ([] ++ [(hs.length : Int) + 1] ++ List.replicate 8 0 ++ List.replicate hs.length 0 ++ [4294967292])).seats t = 0 := fun t => HierO.stt0 _ _
    have g0 : ∀ t : Nat, t < hs.length → state (st0 hs ([] ++ [(hs.length : Int) + 1] ++ List.replicate 8 0 ++ List.replicate hs.length 0 ++ [4294967292])).seats t = 0 := fun t _ => by rw [SeatP.state_nat]; exact g2 t
    have hg : HierT.GI hs.length hs (st0 hs ([] ++ [(hs.length : Int) + 1] ++ List.replicate 8 0 ++ List.replicate hs.length 0 ++ [4294967292])) := ⟨⟨_, HierO.start hs n8 hok⟩, fun t _ => by rw [g2]; decide⟩
    have g1 : ∀ t, t < hs.length → HierT.ph (st0 hs ([] ++ [(hs.length : Int) + 1] ++ List.replicate 8 0 ++ List.replicate hs.length 0 ++ [4294967292])) t = 0 := fun t _ => by
      unfold HierT.ph
      rw [g2]; rfl
    have KO := Mach.served (mach hs.length) n1 n8 cl hcl2 ((HierT.gear hs.length hs).serves n8 cl hcl2) p (st0 hs ([] ++ [(hs.length : Int) + 1] ++ List.replicate 8 0 ++ List.replicate hs.length 0 ++ [4294967292])) (GInv.start n8 cl _ hg g0) (gμ_start 11 (by decide) _ cl _ g1) w w3 hM.bel hM.ge KU
    rw [hcl] at KO
    have HKO := Lib.hid KO
    clear KO KU hM HKM
    unfold val at HKO
    go_wp2_with fail
    refine HKO.out.mono ?_
    rintro e w4 ⟨rfl, hB5⟩
    go_wp2_with fail
    refine (awake _).mono ?_
    rintro e w5 ⟨rfl, u5⟩
    go_wp2_with fail
    go_ret
    exact ⟨rfl, hB5.trans (u5.mono hB5.size)⟩
end Go.Proofs.Ytmiidiijhhjabaa.WalkHierTurns
