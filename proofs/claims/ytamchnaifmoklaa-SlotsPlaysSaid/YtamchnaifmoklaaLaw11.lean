/- Layer 11 (slots): the laws' own helper, walked. -/
import Derived.Test.YtamchnaifmoklaaSlots3
namespace Go.Proofs.Ytamchnaifmoklaa.Law11
open Go Go.RowKit Go.Proofs.Ytamchnaifmoklaa.Heap Go.Proofs.Ytamchnaifmoklaa.Open Go.Proofs.Ytamchnaifmoklaa.Seat Go.Proofs.Ytamchnaifmoklaa.Mach Go.Proofs.Ytamchnaifmoklaa.Has Go.Proofs.Ytamchnaifmoklaa.Lk Go.Proofs.Ytamchnaifmoklaa.StepU Go.Proofs.Ytamchnaifmoklaa.Slots Go.Proofs.Ytamchnaifmoklaa.Pack

/-- Use, then the lock and the port are one. -/
theorem useO {l s lb pb p : Nat} {SP : Nat → Prop} {k : Nat} {hs : List Int} {tl kn : Int} {w : World} {sl : List (Int × Int)} {pl : List P2} {ws : List Int} {pv : Value} (h : At w l s lb pb pv tl kn sl pl) (hp : Port.O w p SP k ws hs [])
    (hsep : ¬ SP l ∧ ¬ SP s ∧ ¬ SP lb ∧ ¬ SP pb) :
    Calls Try.prog 19 #[.pointer (some ⟨l, 0, none⟩), .pointer (some ⟨p, 0, none⟩)] w fun e w' => e = .returned (.tuple #[]) ∧ O l s lb pb p SP k hs tl kn w' 0 ⟨sl, pl, ws, []⟩ ∧ Upd (ft l s lb pb SP) w w' :=
  (useC w pv sl pl h).mono fun e w' ⟨he, ha, hu⟩ => ⟨he, ⟨ha, hp.keep hu (fun i hi e => hsep.1 (e ▸ hi)), Nat.le_refl _, hsep⟩, hu.mono fun i _ e => by rw [e]; simp [ft]⟩
theorem did_got (w : World) : (binOp .eql 53 (.agg #[.int .i64 1, .bool false, .bool false, .bool false]) (.agg #[.int .i64 1, .bool false, .bool false, .bool false])).run Try.prog w = .ok (.bool true) w := by kernel_rfl
set_option maxHeartbeats 4000000 in
theorem awake (w : World) : Calls Try.prog 8 #[] w fun e w' => e = .returned (.bool true) ∧ Below w.heap.size w w' := by
  go_enter Try.func8, Try.ntmps8
  go_wp2_with fail
  refine (Plan.newPl _ 2).mono ?_
  rintro e w1 ⟨pl, rfl, hpl, hB1⟩
  have hz1 := hB1.size
  go_wp2_with fail
  refine (Slots.new_yes _ pl (Mem.Btw w w1) 2 [] [] (hpl.alloc _) (by decide) _ [0, 0] 2 5 (by decide) (src_lit _ .i64 [0, 0] _ _ _ _ _ rfl rfl rfl) (by decide) (by decide) (by decide) (by intro b hb h; simp [Value.ownBlock] at hb; subst hb; have := h.2; omega) (by decide) (.inr (.inl rfl))).mono ?_
  rintro e w2 ⟨l, s, lb, pb, rfl, ha, ⟨S', hp2, hS', s1, s2, s3, s4⟩, b1, b2, b3, b4, hu2⟩
  have hB2 : Below w.heap.size w w2 := hu2.below (hB1.alloc hz1 _) (by simp; omega) (fun i hi => hi.1)
  have hz2 := hB2.size
  have hS2 := hp2.lt
  go_wp2_with fail
  refine (Plan.portPl _ pl S' 2 _ _ hp2 (by decide) (by decide) (by intro x hx; revert x; decide) (by decide) (by decide)).mono ?_
  rintro e w3 ⟨p, rfl, hpo, hB3⟩
  have ha3 := ha.keep (Upd.of_below (S := fun _ => False) hB3) id id id id
  have hp3 := hp2.keep (Upd.of_below (S := fun _ => False) hB3) (fun _ _ => id)
  have hB4 := hB2.trans (hB3.mono hz2)
  have sep : ¬ Mem.Btw w2 w3 l ∧ ¬ Mem.Btw w2 w3 s ∧ ¬ Mem.Btw w2 w3 lb ∧ ¬ Mem.Btw w2 w3 pb :=
    ⟨fun h => by have := ha.top.lt; have := h.1; omega, fun h => by have := ha.seat.top.lt; have := h.1; omega, fun h => by have := ha.seat.row.lt; have := h.1; omega, fun h => by have := ha.plc.lt; have := h.1; omega⟩
  have hft : ∀ i, ft l s lb pb (Mem.Btw w2 w3) i → w.heap.size ≤ i := by
    intro i hi
    rcases hi with hi | rfl | rfl | rfl | rfl
    · have := hi.1; omega
    all_goals (simp at b1 b2 b3 b4; omega)
  have hSf : ∀ i, S' i → ¬ ft l s lb pb (Mem.Btw w2 w3) i := by
    intro i hi hf
    rcases hf with hf | rfl | rfl | rfl | rfl
    · have := hf.1; have := hS2 i hi; omega
    · exact s1 hi
    · exact s2 hi
    · exact s3 hi
    · exact s4 hi
  have KU := useO ha3 hpo sep
  have HKU := Lib.hid KU
  clear KU ha hp2 hpl hu2 hB1
  go_wp2_with fail
  refine HKU.out.mono ?_
  rintro e w4 ⟨rfl, ho4, hu4⟩
  have hB5 := hu4.below hB4 hB4.size hft
  have hp4 := hp3.keep hu4 hSf
  have M := mach (l := l) (s := s) (lb := lb) (pb := pb) (p := p) (SP := Mem.Btw w2 w3) (k := 2) (hs := [0, 0, 0]) (tl := 0) (kn := 2) 2
  have h4 : O l s lb pb p (Mem.Btw w2 w3) 2 [0, 0, 0] 0 2 w4 0 ⟨[(0, -1), (0, -1)], [(0, 0), (0, 0)], [5, 0, 1], []⟩ ∧ [((0 : Int), (-1 : Int)), (0, -1)].length = 2 := ⟨ho4, rfl⟩
  have c4 := M.ptr h4
  have KL := M.lockC h4 0 (-1)
  rw [show lock (St.seats ⟨[(0, -1), (0, -1)], [(0, 0), (0, 0)], [5, 0, 1], []⟩) false 0 (-1) = (0, [(1, -1), (0, -1)]) by decide +kernel] at KL
  have HKL := Lib.hid KL
  clear KL ha3 hpo
  go_wp2_with fail
  refine HKL.out.mono ?_
  rintro e w5 ⟨rfl, h5, hu5⟩
  have hB6 := hu5.below hB5 hB5.size hft
  have hp5 := hp4.keep hu5 hSf
  have KS := Slots.stepC h5.1 (by decide) 0 0 0
  rw [show Slots.step 2 0 2 (setS ⟨[(0, -1), (0, -1)], [(0, 0), (0, 0)], [5, 0, 1], []⟩ [(1, -1), (0, -1)]) 0 0 0 = ((0, true, false, false), ⟨[(1, -1), (0, -1)], [(5, 1), (0, 0)], [6, 0, 1], [⟨0, 0, true⟩]⟩) by kernel_rfl] at KS
  have HKS := Lib.hid KS
  have q1 := did_got
  clear KS HKL h4
  go_wp2_with fail
  refine HKS.out.mono ?_
  rintro e w6 ⟨rfl, h6, hu6⟩
  have hB7 := hu6.below hB6 hB6.size hft
  have hp6 := hp5.keep hu6 hSf
  have KS := Slots.stepC h6 (by decide) 0 0 0
  rw [show Slots.step 2 0 2 ⟨[(1, -1), (0, -1)], [(5, 1), (0, 0)], [6, 0, 1], [⟨0, 0, true⟩]⟩ 0 0 0 = ((0, false, false, false), ⟨[(1, -1), (0, -1)], [(5, 2), (0, 0)], [6, 0, 1], [⟨0, 0, true⟩, ⟨0, 2, false⟩]⟩) by kernel_rfl] at KS
  have HKS2 := Lib.hid KS
  clear KS h5
  unfold didv
  go_wp2_with fail
  refine HKS2.out.mono ?_
  rintro e w7 ⟨rfl, h7, hu7⟩
  have hB8 := hu7.below hB7 hB7.size hft
  have hp7 := hp6.keep hu7 hSf
  have KS := Slots.stepC h7 (by decide) 0 0 0
  rw [show Slots.step 2 0 2 ⟨[(1, -1), (0, -1)], [(5, 2), (0, 0)], [6, 0, 1], [⟨0, 0, true⟩, ⟨0, 2, false⟩]⟩ 0 0 0 = ((1, false, false, false), ⟨[(2, -1), (0, -1)], [(5, 2), (0, 0)], [6, 0, 0], [⟨0, 0, true⟩, ⟨0, 2, false⟩, ⟨0, 2, true⟩]⟩) by kernel_rfl] at KS
  have HKS3 := Lib.hid KS
  clear KS h6
  unfold didv
  go_wp2_with fail
  refine HKS3.out.mono ?_
  rintro e w8 ⟨rfl, h8, hu8⟩
  have hB9 := hu8.below hB8 hB8.size hft
  have hp8 := hp7.keep hu8 hSf
  have KP : Calls Try.prog 13 #[.pointer (some ⟨pl, 0, none⟩)] w8 fun e w' => e = .returned (.int .i64 3) ∧ w8 = w' := Plan.lenPl w8 pl _ _ _ _ hp8
  have HKP := Lib.hid KP
  clear KP h7
  unfold didv
  go_wp2_with fail
  refine HKP.out.mono ?_
  rintro e w9 ⟨rfl, rfl⟩
  go_wp2_with fail
  go_ret
  exact ⟨rfl, hB9⟩
end Go.Proofs.Ytamchnaifmoklaa.Law11
