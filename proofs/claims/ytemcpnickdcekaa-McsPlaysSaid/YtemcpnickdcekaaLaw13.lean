/- Layer 13 (mcs): the laws' own helper, walked. -/
import Derived.Test.YtemcpnickdcekaaMcs3
namespace Go.Proofs.Ytemcpnickdcekaa.Law13
open Go Go.RowKit Go.Proofs.Ytemcpnickdcekaa.Heap Go.Proofs.Ytemcpnickdcekaa.Open Go.Proofs.Ytemcpnickdcekaa.Seat Go.Proofs.Ytemcpnickdcekaa.Mach Go.Proofs.Ytemcpnickdcekaa.Has Go.Proofs.Ytemcpnickdcekaa.Lk Go.Proofs.Ytemcpnickdcekaa.StepU Go.Proofs.Ytemcpnickdcekaa.Mcs

/-- Use, then the lock and the port are one. -/
theorem useO {l s lb pb p : Nat} {SP : Nat → Prop} {k : Nat} {hs : List Int} {tl : Int} {w : World} {sl : List (Int × Int)} {pl : List P2} {ws : List Int} {pv : Value} (h : At w l s lb pb pv tl sl pl) (hp : Port.O w p SP k ws hs [])
    (hsep : ¬ SP l ∧ ¬ SP s ∧ ¬ SP lb ∧ ¬ SP pb) :
    Calls Try.prog 23 #[.pointer (some ⟨l, 0, none⟩), .pointer (some ⟨p, 0, none⟩)] w fun e w' => e = .returned (.tuple #[]) ∧ O l s lb pb p SP k hs tl w' 0 ⟨sl, pl, ws, []⟩ ∧ Upd (ft l s lb pb SP) w w' :=
  (useC w pv sl pl h).mono fun e w' ⟨he, ha, hu⟩ => ⟨he, ⟨ha, hp.keep hu (fun i hi e => hsep.1 (e ▸ hi)), Nat.le_refl _, hsep⟩, hu.mono fun i _ e => by rw [e]; simp [ft]⟩
theorem did_got (w : World) : (binOp .eql 62 (.agg #[.int .i64 1, .bool true, .bool false, .bool false]) (.agg #[.int .i64 1, .bool true, .bool false, .bool false])).run Try.prog w = .ok (.bool true) w := by kernel_rfl
theorem did_rel (w : World) : (binOp .eql 62 (.agg #[.int .i64 3, .bool false, .bool false, .bool false]) (.agg #[.int .i64 3, .bool false, .bool false, .bool false])).run Try.prog w = .ok (.bool true) w := by kernel_rfl
set_option maxHeartbeats 4000000 in
theorem awake (w : World) : Calls Try.prog 7 #[] w fun e w' => e = .returned (.bool true) ∧ Below w.heap.size w w' := by
  go_enter Try.func7, Try.ntmps7
  go_wp2_with fail
  refine (Plan.newPl _ 1).mono ?_
  rintro e w1 ⟨pl, rfl, hpl, hB1⟩
  have hz1 := hB1.size
  go_wp2_with fail
  refine (Mcs.new_yes _ pl (Mem.Btw w w1) 1 [] [] (hpl.alloc _) (by decide) _ [0] (src_lit _ .i64 [0] _ _ _ _ _ rfl rfl rfl) (by decide) (by decide) (by decide) (by intro b hb h; simp [Value.ownBlock] at hb; subst hb; have := h.2; omega)).mono ?_
  rintro e w2 ⟨l, s, lb, pb, rfl, ha, ⟨S', hp2, hS', s1, s2, s3, s4⟩, b1, b2, b3, b4, hu2⟩
  have hB2 : Below w.heap.size w w2 := hu2.below (hB1.alloc hz1 _) (by simp; omega) (fun i hi => hi.1)
  have hz2 := hB2.size
  have hpw2 := hp2.lt
  go_wp2_with fail
  refine (Plan.portPl _ pl S' 1 _ _ hp2 (by decide) (by decide) (by intro x hx; simp at hx; omega) (by decide) (by decide)).mono ?_
  rintro e w3 ⟨p, rfl, hpo, hB3⟩
  have ha3 := ha.keep (Upd.of_below (S := fun _ => False) hB3) id id id id
  have hp3 := hp2.below hB3
  have hB4 := hB2.trans (hB3.mono hz2)
  have sep : ¬ Mem.Btw w2 w3 l ∧ ¬ Mem.Btw w2 w3 s ∧ ¬ Mem.Btw w2 w3 lb ∧ ¬ Mem.Btw w2 w3 pb :=
    ⟨fun h => by have := ha.top.lt; have := h.1; omega, fun h => by have := ha.seat.top.lt; have := h.1; omega, fun h => by have := ha.seat.row.lt; have := h.1; omega, fun h => by have := ha.plc.lt; have := h.1; omega⟩
  have hft : ∀ i, ft l s lb pb (Mem.Btw w2 w3) i → w.heap.size ≤ i := by
    intro i hi
    rcases hi with hi | rfl | rfl | rfl | rfl
    · have := hi.1; omega
    all_goals (simp at b1 b2 b3 b4; omega)
  have hSf : ∀ i, S' i → ¬ ft l s lb pb (Mem.Btw w2 w3) i := by
    intro i hi hj
    rcases hj with hj | rfl | rfl | rfl | rfl
    · have := hpw2 i hi; have := hj.1; omega
    · exact s1 hi
    · exact s2 hi
    · exact s3 hi
    · exact s4 hi
  have KU := useO ha3 hpo sep
  have HKU := Lib.hid KU
  clear KU ha hp2 hpl hu2 hB1
  go_wp2_with fail
  refine HKU.out.mono ?_
  rintro e w4 ⟨rfl, ho4, hu4⟩
  have hp4 := hp3.keep hu4 hSf
  have hB5 := hu4.below hB4 hB4.size hft
  have M := mach (l := l) (s := s) (lb := lb) (pb := pb) (p := p) (SP := Mem.Btw w2 w3) (k := 1) (hs := [0, 0, 0]) (tl := 0) 1 (by decide)
  have h4 : O l s lb pb p (Mem.Btw w2 w3) 1 [0, 0, 0] 0 w4 0 ⟨[(0, -1)], [(0, 0)], [0, 0, 0], []⟩ ∧ [((0 : Int), (-1 : Int))].length = 1 := ⟨ho4, rfl⟩
  have c4 := M.ptr h4
  have KL := M.lockC h4 0 (-1)
  rw [show lock (St.seats ⟨[(0, -1)], [(0, 0)], [0, 0, 0], []⟩) false 0 (-1) = (0, [(1, -1)]) by decide +kernel] at KL
  have HKL := Lib.hid KL
  clear KL ha3 hpo
  go_wp2_with fail
  refine HKL.out.mono ?_
  rintro e w5 ⟨rfl, h5, hu5⟩
  have hp5 := hp4.keep hu5 hSf
  have hB6 := hu5.below hB5 hB5.size hft
  have KS := Mcs.stepC h5.1 (by decide) (by decide) 0 0 0
  rw [show Mcs.step 1 0 (setS ⟨[(0, -1)], [(0, 0)], [0, 0, 0], []⟩ [(1, -1)]) 0 0 0 = ((0, false, false, false), ⟨[(1, -1)], [(1, 0)], [0, 0, 0], [⟨0, 1, true⟩]⟩) by kernel_rfl] at KS
  have HKS := Lib.hid KS
  have q1 := did_got
  have q2 := did_rel
  clear KS HKL h4
  go_wp2_with fail
  refine HKS.out.mono ?_
  rintro e w6 ⟨rfl, h6, hu6⟩
  have hp6 := hp5.keep hu6 hSf
  have hB7 := hu6.below hB6 hB6.size hft
  have KS := Mcs.stepC h6 (by decide) (by decide) 0 0 0
  rw [show Mcs.step 1 0 ⟨[(1, -1)], [(1, 0)], [0, 0, 0], [⟨0, 1, true⟩]⟩ 0 0 0 = ((1, true, false, false), ⟨[(2, -1)], [(0, 0)], [1, 0, 0], [⟨0, 1, true⟩, ⟨0, 0, true⟩]⟩) by kernel_rfl] at KS
  have HKS2 := Lib.hid KS
  clear KS h5
  unfold didv
  go_wp2_with fail
  refine HKS2.out.mono ?_
  rintro e w7 ⟨rfl, h7, hu7⟩
  have hp7 := hp6.keep hu7 hSf
  have hB8 := hu7.below hB7 hB7.size hft
  have hlt7 := h7.lt
  have h9 := h7.keep ((Upd.refl (fun _ => False) w7).alloc (.cells #[.int .i64 1, .bool true, .bool false, .bool false] 62)) (fun _ _ => id)
  have hp9 := hp7.alloc (.cells #[.int .i64 1, .bool true, .bool false, .bool false] 62)
  have R9 : Row (w7.alloc (.cells #[.int .i64 1, .bool true, .bool false, .bool false] 62)) w7.heap.size [.int .i64 1, .bool true, .bool false, .bool false] := Row.new' rfl
  have hB10 := hB8.alloc hB8.size (.cells #[.int .i64 1, .bool true, .bool false, .bool false] 62)
  have hz10 := hB10.size
  have KT := M.unlockC ⟨h9, rfl⟩ 0
  rw [show turn (St.seats ⟨[(2, -1)], [(0, 0)], [1, 0, 0], [⟨0, 1, true⟩, ⟨0, 0, true⟩]⟩) 0 3 = (0, [(3, -1)]) by decide +kernel] at KT
  have HKT := Lib.hid KT
  have c9 := h9.at_.top.cell (i := 0) rfl
  clear KT h6
  unfold didv
  go_wp2_with fail
  refine HKT.out.mono ?_
  rintro e w10 ⟨rfl, h10, hu10⟩
  have hp10 := hp9.keep hu10 hSf
  have hB11 := hu10.below hB10 hz10 hft
  have R10 := R9.upd hu10 (fun e => by have := hlt7 _ e; omega)
  have KS := Mcs.stepC h10.1 (by decide) (by decide) 0 0 0
  rw [show Mcs.step 1 0 (setS ⟨[(2, -1)], [(0, 0)], [1, 0, 0], [⟨0, 1, true⟩, ⟨0, 0, true⟩]⟩ [(3, -1)]) 0 0 0 = ((0, false, false, false), ⟨[(3, -1)], [(1, 0)], [1, 0, 0], [⟨0, 1, true⟩, ⟨0, 0, true⟩, ⟨0, 1, false⟩]⟩) by kernel_rfl] at KS
  have HKS3 := Lib.hid KS
  clear KS HKT h9 R9 HKS2 HKS
  go_wp2_with fail
  refine HKS3.out.mono ?_
  rintro e w11 ⟨rfl, h11, hu11⟩
  have hp11 := hp10.keep hu11 hSf
  have hB12 := hu11.below hB11 hB11.size hft
  have R11 := R10.upd hu11 (fun e => by have := hlt7 _ e; omega)
  have y0 := R11.cell (i := 0) rfl
  have y1 := R11.cell (i := 1) rfl
  have y2 := R11.cell (i := 2) rfl
  have y3 := R11.cell (i := 3) rfl
  have KS := Mcs.stepC h11 (by decide) (by decide) 0 0 0
  rw [show Mcs.step 1 0 ⟨[(3, -1)], [(1, 0)], [1, 0, 0], [⟨0, 1, true⟩, ⟨0, 0, true⟩, ⟨0, 1, false⟩]⟩ 0 0 0 = ((3, false, false, false), ⟨[(0, -1)], [(0, 0)], [0, 0, 0], [⟨0, 1, true⟩, ⟨0, 0, true⟩, ⟨0, 1, false⟩, ⟨0, 0, true⟩]⟩) by kernel_rfl] at KS
  have HKS4 := Lib.hid KS
  clear KS h10 R10
  unfold didv
  go_wp2_with fail
  refine HKS4.out.mono ?_
  rintro e w12 ⟨rfl, h12, hu12⟩
  have hp12 := hp11.keep hu12 hSf
  have hB13 := hu12.below hB12 hB12.size hft
  have KL := Plan.lenPl w12 pl _ _ _ _ hp12
  have HKP := Lib.hid KL
  clear KL
  unfold didv
  go_wp2_with fail
  refine HKP.out.mono ?_
  rintro e w13 ⟨rfl, rfl⟩
  go_wp2_with fail
  go_ret
  exact ⟨rfl, hB13⟩
end Go.Proofs.Ytemcpnickdcekaa.Law13
