/- Layer 10 (flat): the laws' own helper, walked. -/
import Derived.Test.YtoohkcpkodpnmaaFlat3
namespace Go.Proofs.Ytoohkcpkodpnmaa.Law10
open Go Go.RowKit Go.Proofs.Ytoohkcpkodpnmaa.Heap Go.Proofs.Ytoohkcpkodpnmaa.Open Go.Proofs.Ytoohkcpkodpnmaa.Seat Go.Proofs.Ytoohkcpkodpnmaa.Mach Go.Proofs.Ytoohkcpkodpnmaa.Has Go.Proofs.Ytoohkcpkodpnmaa.Lk Go.Proofs.Ytoohkcpkodpnmaa.Flat

/-- Use, then the lock and the port are one. -/
theorem useO {l s lb nb db p : Nat} {SP : Nat → Prop} {k : Nat} {hs : List Int} {nx ow : Int} {w : World} {sl : List (Int × Int)} {nums : List Int} {drew : List Bool} {ws : List Int} {pv : Value} (h : At w l s lb nb db pv nx ow sl nums drew) (hp : Port.O w p SP k ws hs [])
    (hsep : ¬ SP l ∧ ¬ SP s ∧ ¬ SP lb ∧ ¬ SP nb ∧ ¬ SP db) :
    Calls Try.prog 19 #[.pointer (some ⟨l, 0, none⟩), .pointer (some ⟨p, 0, none⟩)] w fun e w' => e = .returned (.tuple #[]) ∧ O l s lb nb db p SP k hs nx ow w' 0 ⟨sl, nums, drew, ws, []⟩ ∧ Upd (ft l s lb nb db SP) w w' :=
  (useC w l s lb nb db p pv nx ow sl nums drew h).mono fun e w' ⟨he, ha, hu⟩ => ⟨he, ⟨ha, hp.keep hu (fun i hi e => hsep.1 (e ▸ hi)), Nat.le_refl _, hsep⟩, hu.mono fun i _ e => by rw [e]; simp [ft]⟩
theorem did_enq (w : World) : (binOp .eql 61 (.agg #[.int .i64 0, .bool true, .bool false, .bool false]) (.agg #[.int .i64 0, .bool true, .bool false, .bool false])).run Try.prog w = .ok (.bool true) w := by kernel_rfl
theorem did_got (w : World) : (binOp .eql 61 (.agg #[.int .i64 1, .bool false, .bool false, .bool false]) (.agg #[.int .i64 1, .bool false, .bool false, .bool false])).run Try.prog w = .ok (.bool true) w := by kernel_rfl

set_option maxHeartbeats 4000000 in
theorem awake (w : World) : Calls Try.prog 7 #[] w fun e w' => e = .returned (.bool true) ∧ Below w.heap.size w w' := by
  go_enter Try.func7, Try.ntmps7
  go_wp2_with fail
  refine (Plan.newPl _ 1).mono ?_
  rintro e w1 ⟨pl, rfl, hpl, hB1⟩
  have hz1 := hB1.size
  go_wp2_with fail
  refine (Flat.new_yes _ pl (Mem.Btw w w1) 1 [] [] (hpl.alloc _) (by decide) _ [0] 7 (src_lit _ .i64 [0] _ _ _ _ _ rfl rfl rfl) (by decide) (by decide) (by decide) (by intro b hb h; simp [Value.ownBlock] at hb; subst hb; have := h.2; omega)).mono ?_
  rintro e w2 ⟨l, s, lb, nb, db, rfl, ha, ⟨S', hp2, hS', s1, s2, s3, s4, s5⟩, b1, b2, b3, b4, b5, hu2⟩
  have hB2 : Below w.heap.size w w2 := hu2.below (hB1.alloc hz1 _) (by simp; omega) (fun i hi => hi.1)
  have hz2 := hB2.size
  go_wp2_with fail
  refine (Plan.portPl _ pl S' 1 _ _ hp2 (by decide) (by decide) (by intro x hx; simp at hx; omega) (by decide) (by decide)).mono ?_
  rintro e w3 ⟨p, rfl, hpo, hB3⟩
  have ha3 := ha.keep (Upd.of_below (S := fun _ => False) hB3) id id id id id
  have hB4 := hB2.trans (hB3.mono hz2)
  have sep : ¬ Mem.Btw w2 w3 l ∧ ¬ Mem.Btw w2 w3 s ∧ ¬ Mem.Btw w2 w3 lb ∧ ¬ Mem.Btw w2 w3 nb ∧ ¬ Mem.Btw w2 w3 db :=
    ⟨fun h => by have := ha.top.lt; have := h.1; omega, fun h => by have := ha.seat.top.lt; have := h.1; omega, fun h => by have := ha.seat.row.lt; have := h.1; omega, fun h => by have := ha.num.lt; have := h.1; omega, fun h => by have := ha.drw.lt; have := h.1; omega⟩
  have hft : ∀ i, ft l s lb nb db (Mem.Btw w2 w3) i → w.heap.size ≤ i := by
    intro i hi
    rcases hi with hi | rfl | rfl | rfl | rfl | rfl
    · have := hi.1; omega
    all_goals (simp at b1 b2 b3 b4 b5; omega)
  have KU := useO ha3 hpo sep
  have HKU := Lib.hid KU
  clear KU ha hp2 hpl hu2 hB1
  go_wp2_with fail
  refine HKU.out.mono ?_
  rintro e w4 ⟨rfl, ho4, hu4⟩
  have hB5 := hu4.below hB4 hB4.size hft
  have M := mach (l := l) (s := s) (lb := lb) (nb := nb) (db := db) (p := p) (SP := Mem.Btw w2 w3) (k := 1) (hs := [0, 0]) (nx := 0) (ow := 1) 1
  have h4 : O l s lb nb db p (Mem.Btw w2 w3) 1 [0, 0] 0 1 w4 0 ⟨[(0, -1)], [0], [false], [7, 7], []⟩ ∧ [((0 : Int), (-1 : Int))].length = 1 := ⟨ho4, rfl⟩
  have c4 := M.ptr h4
  have KL := M.lockC h4 0 (-1)
  rw [show lock (St.seats ⟨[(0, -1)], [0], [false], [7, 7], []⟩) false 0 (-1) = (0, [(1, -1)]) by decide +kernel] at KL
  have HKL := Lib.hid KL
  clear KL ha3 hpo
  go_wp2_with fail
  refine HKL.out.mono ?_
  rintro e w5 ⟨rfl, h5, hu5⟩
  have hB6 := hu5.below hB5 hB5.size hft
  have KS := Flat.stepC h5.1 (by decide) 0 0 0
  rw [show Flat.step 1 0 1 (setS ⟨[(0, -1)], [0], [false], [7, 7], []⟩ [(1, -1)]) 0 0 0 = ((0, true, false, false), ⟨[(1, -1)], [7], [true], [8, 7], [⟨0, 0, true⟩]⟩) by kernel_rfl] at KS
  have HKS := Lib.hid KS
  have q1 := did_enq
  have q2 := did_got
  clear KS HKL h4
  go_wp2_with fail
  refine HKS.out.mono ?_
  rintro e w6 ⟨rfl, h6, hu6⟩
  have hB7 := hu6.below hB6 hB6.size hft
  have KS := Flat.stepC h6 (by decide) 0 0 0
  rw [show Flat.step 1 0 1 ⟨[(1, -1)], [7], [true], [8, 7], [⟨0, 0, true⟩]⟩ 0 0 0 = ((1, false, false, false), ⟨[(2, -1)], [7], [true], [8, 7], [⟨0, 0, true⟩, ⟨0, 1, false⟩]⟩) by kernel_rfl] at KS
  have HKS2 := Lib.hid KS
  clear KS h5
  unfold didv
  go_wp2_with fail
  refine HKS2.out.mono ?_
  rintro e w7 ⟨rfl, h7, hu7⟩
  have hB8 := hu7.below hB7 hB7.size hft
  have c7 := h7.at_.top.cell (i := 0) rfl
  have KT := state_all _ _ _ _ _ _ h7.at_.seat 0
  rw [show state [(2, -1)] 0 = 2 by decide +kernel] at KT
  have HKT := Lib.hid KT
  clear KT h6
  unfold didv
  go_wp2_with fail
  refine HKT.out.mono ?_
  rintro e w8 ⟨rfl, rfl⟩
  go_wp2_with fail
  go_ret
  exact ⟨rfl, hB8⟩
end Go.Proofs.Ytoohkcpkodpnmaa.Law10
