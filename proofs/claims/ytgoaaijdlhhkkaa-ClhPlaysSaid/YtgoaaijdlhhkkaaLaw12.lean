/- Layer 12 (clh): the laws' own helper, walked. -/
import Derived.Test.YtgoaaijdlhhkkaaClh3
namespace Go.Proofs.Ytgoaaijdlhhkkaa.Law12
open Go Go.RowKit Go.Proofs.Ytgoaaijdlhhkkaa.Heap Go.Proofs.Ytgoaaijdlhhkkaa.Open Go.Proofs.Ytgoaaijdlhhkkaa.Seat Go.Proofs.Ytgoaaijdlhhkkaa.Mach Go.Proofs.Ytgoaaijdlhhkkaa.Has Go.Proofs.Ytgoaaijdlhhkkaa.Lk Go.Proofs.Ytgoaaijdlhhkkaa.StepU Go.Proofs.Ytgoaaijdlhhkkaa.Clh

/-- Use, then the lock and the port are one. -/
theorem useO {l s lb pb cap p : Nat} {SP : Nat → Prop} {k : Nat} {hs : List Int} {tl : Int} {w : World} {sl : List (Int × Int)} {pl : List P3} {ws : List Int} {pv : Value} (h : At w l s lb pb cap pv tl sl pl) (hp : Port.O w p SP k ws hs [])
    (hsep : ¬ SP l ∧ ¬ SP s ∧ ¬ SP lb ∧ ¬ SP pb) :
    Calls Try.prog 18 #[.pointer (some ⟨l, 0, none⟩), .pointer (some ⟨p, 0, none⟩)] w fun e w' => e = .returned (.tuple #[]) ∧ O l s lb pb cap p SP k hs tl w' 0 ⟨sl, pl, ws, []⟩ ∧ Upd (ft l s lb pb SP) w w' :=
  (useC w pv sl pl h).mono fun e w' ⟨he, ha, hu⟩ => ⟨he, ⟨ha, hp.keep hu (fun i hi e => hsep.1 (e ▸ hi)), Nat.le_refl _, hsep⟩, hu.mono fun i _ e => by rw [e]; simp [ft]⟩
theorem did_got (w : World) : (binOp .eql 51 (.agg #[.int .i64 1, .bool false, .bool false, .bool false]) (.agg #[.int .i64 1, .bool false, .bool false, .bool false])).run Try.prog w = .ok (.bool true) w := by kernel_rfl
theorem did_rel (w : World) : (binOp .eql 51 (.agg #[.int .i64 3, .bool false, .bool false, .bool false]) (.agg #[.int .i64 3, .bool false, .bool false, .bool false])).run Try.prog w = .ok (.bool true) w := by kernel_rfl
/-- A context's node. -/
theorem nodeC {l s lb pb cap : Nat} {tl : Int} {w : World} {sl : List (Int × Int)} {pl : List P3} {pv : Value} (h : At w l s lb pb cap pv tl sl pl) (t : Nat) (ht : t < sl.length) :
    Calls Try.prog 15 #[.pointer (some ⟨l, 0, none⟩), .int .i64 t] w fun e w' => e = .returned (.int .i64 (pl.getD t (0, 0, 0)).1) ∧ w = w' := by
  have c3 := h.top.cell (i := 3) rfl
  have c0 := h.c0 ht
  have h1 : (0 : Int) ≤ (t : Int) := by omega
  have h2 : (t : Int) < (sl.length : Int) := by omega
  go_enter Try.func15, Try.ntmps15
  go_wp2
  go_ret
  exact ⟨rfl, rfl⟩
set_option maxHeartbeats 4000000 in
theorem awake (w : World) : Calls Try.prog 8 #[] w fun e w' => e = .returned (.bool true) ∧ Below w.heap.size w w' := by
  go_enter Try.func8, Try.ntmps8
  go_wp2_with fail
  refine (Plan.newPl _ 1).mono ?_
  rintro e w1 ⟨pl, rfl, hpl, hB1⟩
  have hz1 := hB1.size
  go_wp2_with fail
  refine (Clh.new_yes _ pl (Mem.Btw w w1) 1 [] [] (hpl.alloc _) (by decide) _ [0] (src_lit _ .i64 [0] _ _ _ _ _ rfl rfl rfl) (by decide) (by decide) (by decide) (by intro b hb h; simp [Value.ownBlock] at hb; subst hb; have := h.2; omega)).mono ?_
  rintro e w2 ⟨l, s, lb, pb, cap, rfl, ha, ⟨S', hp2, hS', s1, s2, s3, s4⟩, b1, b2, b3, b4, hu2⟩
  have hB2 : Below w.heap.size w w2 := hu2.below (hB1.alloc hz1 _) (by simp; omega) (fun i hi => hi.1)
  have hz2 := hB2.size
  go_wp2_with fail
  refine (Plan.portPl _ pl S' 1 _ _ hp2 (by decide) (by decide) (by intro x hx; simp at hx; omega) (by decide) (by decide)).mono ?_
  rintro e w3 ⟨p, rfl, hpo, hB3⟩
  have ha3 := ha.keep (Upd.of_below (S := fun _ => False) hB3) id id id id
  have hB4 := hB2.trans (hB3.mono hz2)
  have sep : ¬ Mem.Btw w2 w3 l ∧ ¬ Mem.Btw w2 w3 s ∧ ¬ Mem.Btw w2 w3 lb ∧ ¬ Mem.Btw w2 w3 pb :=
    ⟨fun h => by have := ha.top.lt; have := h.1; omega, fun h => by have := ha.seat.top.lt; have := h.1; omega, fun h => by have := ha.seat.row.lt; have := h.1; omega, fun h => by have := ha.plc.lt; have := h.1; omega⟩
  have hft : ∀ i, ft l s lb pb (Mem.Btw w2 w3) i → w.heap.size ≤ i := by
    intro i hi
    rcases hi with hi | rfl | rfl | rfl | rfl
    · have := hi.1; omega
    all_goals (simp at b1 b2 b3 b4; omega)
  have KU := useO ha3 hpo sep
  have HKU := Lib.hid KU
  clear KU ha hp2 hpl hu2 hB1
  go_wp2_with fail
  refine HKU.out.mono ?_
  rintro e w4 ⟨rfl, ho4, hu4⟩
  have hB5 := hu4.below hB4 hB4.size hft
  have M := mach (l := l) (s := s) (lb := lb) (pb := pb) (cap := cap) (p := p) (SP := Mem.Btw w2 w3) (k := 1) (hs := [0, 0, 0]) (tl := 0) 1
  have h4 : O l s lb pb cap p (Mem.Btw w2 w3) 1 [0, 0, 0] 0 w4 0 ⟨[(0, -1)], [(1, 0, 0)], [0, 0, 0], []⟩ ∧ [((0 : Int), (-1 : Int))].length = 1 := ⟨ho4, rfl⟩
  have c4 := M.ptr h4
  have KL := M.lockC h4 0 (-1)
  rw [show lock (St.seats ⟨[(0, -1)], [(1, 0, 0)], [0, 0, 0], []⟩) false 0 (-1) = (0, [(1, -1)]) by decide +kernel] at KL
  have HKL := Lib.hid KL
  clear KL ha3 hpo
  go_wp2_with fail
  refine HKL.out.mono ?_
  rintro e w5 ⟨rfl, h5, hu5⟩
  have hB6 := hu5.below hB5 hB5.size hft
  have KS := Clh.stepC h5.1 (by decide) 0 0 0
  rw [show Clh.step 1 0 (setS ⟨[(0, -1)], [(1, 0, 0)], [0, 0, 0], []⟩ [(1, -1)]) 0 0 0 = ((0, false, false, false), ⟨[(1, -1)], [(1, 0, 1)], [0, 0, 1], [⟨0, 2, true⟩]⟩) by kernel_rfl] at KS
  have HKS := Lib.hid KS
  have q1 := did_got
  have q2 := did_rel
  clear KS HKL h4
  go_wp2_with fail
  refine HKS.out.mono ?_
  rintro e w6 ⟨rfl, h6, hu6⟩
  have hB7 := hu6.below hB6 hB6.size hft
  have KS := Clh.stepC h6 (by decide) 0 0 0
  rw [show Clh.step 1 0 ⟨[(1, -1)], [(1, 0, 1)], [0, 0, 1], [⟨0, 2, true⟩]⟩ 0 0 0 = ((0, true, false, false), ⟨[(1, -1)], [(1, 0, 2)], [1, 0, 1], [⟨0, 2, true⟩, ⟨0, 0, true⟩]⟩) by kernel_rfl] at KS
  have HKS2 := Lib.hid KS
  clear KS h5
  unfold didv
  go_wp2_with fail
  refine HKS2.out.mono ?_
  rintro e w7 ⟨rfl, h7, hu7⟩
  have hB8 := hu7.below hB7 hB7.size hft
  have KS := Clh.stepC h7 (by decide) 0 0 0
  rw [show Clh.step 1 0 ⟨[(1, -1)], [(1, 0, 2)], [1, 0, 1], [⟨0, 2, true⟩, ⟨0, 0, true⟩]⟩ 0 0 0 = ((1, false, false, false), ⟨[(2, -1)], [(1, 0, 2)], [1, 0, 1], [⟨0, 2, true⟩, ⟨0, 0, true⟩, ⟨0, 1, false⟩]⟩) by kernel_rfl] at KS
  have HKS3 := Lib.hid KS
  clear KS h6
  unfold didv
  go_wp2_with fail
  refine HKS3.out.mono ?_
  rintro e w8 ⟨rfl, h8, hu8⟩
  have hB9 := hu8.below hB8 hB8.size hft
  have hlt8 := h8.lt
  have h9 := h8.keep ((Upd.refl (fun _ => False) w8).alloc (.cells #[.int .i64 1, .bool false, .bool false, .bool false] 51)) (fun _ _ => id)
  have R9 : Row (w8.alloc (.cells #[.int .i64 1, .bool false, .bool false, .bool false] 51)) w8.heap.size [.int .i64 1, .bool false, .bool false, .bool false] := Row.new' rfl
  have hB10 := hB9.alloc hB9.size (.cells #[.int .i64 1, .bool false, .bool false, .bool false] 51)
  have hz10 := hB10.size
  have KT := M.unlockC ⟨h9, rfl⟩ 0
  rw [show turn (St.seats ⟨[(2, -1)], [(1, 0, 2)], [1, 0, 1], [⟨0, 2, true⟩, ⟨0, 0, true⟩, ⟨0, 1, false⟩]⟩) 0 3 = (0, [(3, -1)]) by decide +kernel] at KT
  have HKT := Lib.hid KT
  have c9 := h9.at_.top.cell (i := 0) rfl
  clear KT h7
  unfold didv
  go_wp2_with fail
  refine HKT.out.mono ?_
  rintro e w10 ⟨rfl, h10, hu10⟩
  have hB11 := hu10.below hB10 hz10 hft
  have R10 := R9.upd hu10 (fun e => by have := hlt8 _ e; omega)
  have y0 := R10.cell (i := 0) rfl
  have y1 := R10.cell (i := 1) rfl
  have y2 := R10.cell (i := 2) rfl
  have y3 := R10.cell (i := 3) rfl
  have KN := nodeC h10.1.at_ 0 (by decide)
  have HKN := Lib.hid KN
  have KS := Clh.stepC h10.1 (by decide) 0 0 0
  rw [show Clh.step 1 0 (setS ⟨[(2, -1)], [(1, 0, 2)], [1, 0, 1], [⟨0, 2, true⟩, ⟨0, 0, true⟩, ⟨0, 1, false⟩]⟩ [(3, -1)]) 0 0 0 = ((3, false, false, false), ⟨[(0, -1)], [(0, 0, 0)], [1, 0, 0], [⟨0, 2, true⟩, ⟨0, 0, true⟩, ⟨0, 1, false⟩, ⟨0, 2, true⟩]⟩) by kernel_rfl] at KS
  have HKS4 := Lib.hid KS
  clear KS KN HKT h9 R9 HKS3 HKS2 HKS
  go_wp2_with fail
  refine HKN.out.mono ?_
  rintro e w11 ⟨rfl, rfl⟩
  go_wp2_with fail
  refine HKS4.out.mono ?_
  rintro e w12 ⟨rfl, h12, hu12⟩
  have hB12 := hu12.below hB11 hB11.size hft
  have KN := nodeC h12.at_ 0 (by decide)
  have HKN2 := Lib.hid KN
  clear KN
  unfold didv
  go_wp2_with fail
  refine HKN2.out.mono ?_
  rintro e w13 ⟨rfl, rfl⟩
  go_wp2_with fail
  go_ret
  exact ⟨rfl, hB12⟩
end Go.Proofs.Ytgoaaijdlhhkkaa.Law12
