/- The law McsTurns, walked. -/
import Derived.Test.YtemcpnickdcekaaServW
import Derived.Test.YtemcpnickdcekaaMcsP
import Derived.Test.YtemcpnickdcekaaWalkMcsOrder
import Derived.Test.YtemcpnickdcekaaLaw13
import Derived.Test.YtemcpnickdcekaaOps10
namespace Go.Proofs.Ytemcpnickdcekaa.WalkMcsTurns
open Go Go.RowKit Go.Proofs.Ytemcpnickdcekaa.WalkMcsOrder Go.Proofs.Ytemcpnickdcekaa.Heap Go.Proofs.Ytemcpnickdcekaa.Open Go.Proofs.Ytemcpnickdcekaa.Seat Go.Proofs.Ytemcpnickdcekaa.Mach Go.Proofs.Ytemcpnickdcekaa.Has Go.Proofs.Ytemcpnickdcekaa.Lk Go.Proofs.Ytemcpnickdcekaa.Mcs Go.Proofs.Ytemcpnickdcekaa.StepU Go.Proofs.Ytemcpnickdcekaa.Law13

set_option maxHeartbeats 4000000 in
theorem walk (v : Value) (hs : List Int) (c : Int) (w : World) (h0 : Src1 w v .i64 hs) (hc8 : (Lit.int .u8 c).wf = true) :
    Calls Try.prog 4 #[v, .int .u8 c] w fun e w' => e = .returned (.bool true) ∧ Below w.heap.size w w' := by
  have hc := bounds_u8 hc8
  clear hc8
  have KF : Calls Try.prog 14 #[v, .slice none 0 0] w fun e w' => e = .returned (.bool (fineB hs 0)) ∧ w = w' := fine w v hs h0 none 0 0
  cases hf : fineB hs 0 with
  | false =>
    rw [hf] at KF
    have HF := Lib.hid KF
    clear KF hf
    obtain ⟨a, c, rfl, -, -⟩ := h0
    go_enter Try.func4, Try.ntmps4
    go_wp2_with fail
    refine HF.out.mono ?_
    rintro e w' ⟨rfl, rfl⟩
    go_wp2_with fail
    refine (awake _).mono ?_
    rintro e w4 ⟨rfl, u4⟩
    go_wp2_with fail
    go_ret
    exact ⟨rfl, u4⟩
  | true =>
    rw [hf] at KF
    obtain ⟨n1, n8, hok, -⟩ := fineB_true hf
    have HF := Lib.hid KF
    obtain ⟨cl, hcl, hcl2⟩ : ∃ cl : Nat, (cl : Int) = c % 21 ∧ cl ≤ 20 := ⟨(c % 21).toNat, by omega, by omega⟩
    have hcm : Int.tmod c 21 = c % 21 := Int.tmod_eq_emod_of_nonneg hc.1
    have HSRC := Lib.hid h0
    clear KF hf
    obtain ⟨a, c, rfl, -, -⟩ := h0
    go_enter Try.func4, Try.ntmps4
    go_wp2_with fail
    refine HF.out.mono ?_
    rintro e w' ⟨rfl, rfl⟩
    go_wp2_with fail
    refine (Plan.newPl _ hs.length).mono ?_
    rintro e w1 ⟨pl, rfl, hpl, hB1⟩
    have hz1 := hB1.size
    go_wp2_with fail
    refine (Mcs.new_yes _ pl (Mem.Btw w w1) hs.length [] [] hpl (by decide) _ hs (HSRC.out.below hB1) n1 (by omega) hok (by
      intro b hb h
      obtain ⟨_, _, hv, -, hcell⟩ := HSRC.out
      simp at hv
      obtain ⟨rfl, rfl⟩ := hv
      obtain ⟨b', off, rfl, hbw, -⟩ := hcell (by omega)
      simp [Value.ownBlock] at hb
      have := h.1; omega)).mono ?_
    rintro e w2 ⟨l, s, lb, pb, rfl, ha, ⟨S', hp2, hS', s1, s2, s3, s4⟩, b1, b2, b3, b4, hu2⟩
    have hB2 : Below w.heap.size w w2 := hu2.below hB1 hz1 (fun i hi => hi.1)
    have hz2 := hB2.size
    go_wp2_with fail
    refine (Plan.portPl _ pl S' hs.length _ _ hp2 (by simp; omega) (home2 hs n1 hok) (by intro y hy; simp at hy; omega) n1 (by omega)).mono ?_
    rintro e w3 ⟨p, rfl, hpo, hB3⟩
    have ha3 := ha.keep (Upd.of_below (S := fun _ => False) hB3) id id id id
    have hB4 := hB2.trans (hB3.mono hz2)
    have sep : ¬ Mem.Btw w2 w3 l ∧ ¬ Mem.Btw w2 w3 s ∧ ¬ Mem.Btw w2 w3 lb ∧ ¬ Mem.Btw w2 w3 pb :=
      ⟨fun h => by have := ha.top.lt; have := h.1; omega, fun h => by have := ha.seat.top.lt; have := h.1; omega, fun h => by have := ha.seat.row.lt; have := h.1; omega, fun h => by have := ha.plc.lt; have := h.1; omega⟩
    have hft : ∀ i, ft l s lb pb (Mem.Btw w2 w3) i → w.heap.size ≤ i := by
      intro i hi
      rcases hi with hi | rfl | rfl | rfl | rfl
      · have := hi.1; omega
      all_goals omega
    have KU : Calls Try.prog 23 #[.pointer (some ⟨l, 0, none⟩), .pointer (some ⟨p, 0, none⟩)] w3 fun e w' => e = .returned (.tuple #[]) ∧ (O l s lb pb p (Mem.Btw w2 w3) hs.length ([] ++ [hs.getD 0 0] ++ twice hs) 0 w' 0 (st0 hs.length ([] ++ [0] ++ List.replicate (2 * hs.length) 0)) ∧ (st0 hs.length ([] ++ [0] ++ List.replicate (2 * hs.length) 0)).seats.length = hs.length) ∧ Upd (ft l s lb pb (Mem.Btw w2 w3)) w3 w' := by
      refine (useO ha3 hpo sep).mono ?_
      rintro e w' ⟨he, ho, hu⟩
      exact ⟨he, ⟨ho, by simp [st0]⟩, hu⟩
    have hI := McsP.start hs.length n8
    have g0 : ∀ t : Nat, t < hs.length → state (st0 hs.length ([] ++ [0] ++ List.replicate (2 * hs.length) 0)).seats t = 0 := fun t _ => by rw [SeatP.state_nat]; exact McsP.stt0 _ _
    have hg : Ql.GI hs.length St.seats (McsP.I hs.length) (st0 hs.length ([] ++ [0] ++ List.replicate (2 * hs.length) 0)) := ⟨⟨_, _, hI⟩, fun t _ => by
      have : SeatP.stt (st0 hs.length ([] ++ [0] ++ List.replicate (2 * hs.length) 0)).seats t = 0 := McsP.stt0 _ _
      rw [this]; decide⟩
    have g1 : ∀ t, t < hs.length → McsP.ph (st0 hs.length ([] ++ [0] ++ List.replicate (2 * hs.length) 0)) t = 0 := fun t _ => by
      unfold McsP.ph
      rw [show SeatP.stt (st0 hs.length ([] ++ [0] ++ List.replicate (2 * hs.length) 0)).seats t = 0 from McsP.stt0 _ _]; rfl
    have KO := Mach.served (mach hs.length (by omega)) n1 n8 cl hcl2 ((McsP.ql hs.length).gear.serves n8 cl hcl2) p (st0 hs.length ([] ++ [0] ++ List.replicate (2 * hs.length) 0)) (GInv.start n8 cl _ hg g0) (gμ_start 10 (by decide) _ cl _ g1) w w3 hB4 hft KU
    rw [hcl] at KO
    have HKO := Lib.hid KO
    clear KO KU ha ha3 hpo hp2 hpl hu2 hB1
    unfold val at HKO
    go_wp2_with fail
    refine HKO.out.mono ?_
    rintro e w4 ⟨rfl, hB5⟩
    go_wp2_with fail
    refine (awake _).mono ?_
    rintro e w5 ⟨rfl, u5⟩
    go_wp2_with fail
    go_ret
    exact ⟨rfl, hB5.trans (u5.mono hB5.size)⟩
end Go.Proofs.Ytemcpnickdcekaa.WalkMcsTurns
