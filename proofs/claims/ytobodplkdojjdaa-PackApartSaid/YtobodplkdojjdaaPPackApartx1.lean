-- PRINTED BY print.sh 35421559b90ae4d0a3588c463048766b98c2df88dd9212a6774a882060cdf62d: not written by this session
import Derived.Test.YtobodplkdojjdaaPPackApartx0
namespace Go.Proofs.Ytobodplkdojjdaa.PPackApart
open Go.RowKit Go.Proofs.YtobodplkdojjdaaW.PrintWords Go.Proofs.YtobodplkdojjdaaW.PrintLast Go.Proofs.YtobodplkdojjdaaW.PrintMore
attribute [local go_sem] max2_int min2_int max_two min_two max_three min_three max_four min_four   -- for this text's walks alone
set_option linter.unusedVariables false
set_option linter.unusedSimpArgs false

/-! ### pack_Pack: function 9 -/
def pack_Pack.f (a0 : Int) (a1 : Bool) (a2 : Bool) : Option (Int) := if a1 = true then (if a2 = true then (some (Go.bits .or .u32 (Go.bits .or .u32 ((mn (mx a0 0) 1073741823) * 4) 2) 1)) else (some (Go.bits .or .u32 ((mn (mx a0 0) 1073741823) * 4) 2))) else (if a2 = true then (some (Go.bits .or .u32 ((mn (mx a0 0) 1073741823) * 4) 1)) else (some ((mn (mx a0 0) 1073741823) * 4)))
set_option maxHeartbeats 8000000 in
set_option maxRecDepth 100000 in
theorem pack_Pack.calls (a0 : Int) (a1 : Bool) (a2 : Bool) (r : Int) (w : World) (h : pack_Pack.f a0 a1 a2 = some r) :
    Calls Try.prog 9 #[.int .i64 a0, .bool a1, .bool a2] w fun e w' => e = .returned (.int .u32 r) ∧ Below w.heap.size w w' := by
  have HB := Aside0.mk (Below.refl w.heap.size w)
  have H : (if a1 = true then (if a2 = true then (some (Go.bits .or .u32 (Go.bits .or .u32 ((mn (mx a0 0) 1073741823) * 4) 2) 1)) else (some (Go.bits .or .u32 ((mn (mx a0 0) 1073741823) * 4) 2))) else (if a2 = true then (some (Go.bits .or .u32 ((mn (mx a0 0) 1073741823) * 4) 1)) else (some ((mn (mx a0 0) 1073741823) * 4)))) = some r := h
  clear h
  obtain ⟨ji4, hji4⟩ : ∃ j_ : Int, (mx a0 0) = j_ := ⟨_, rfl⟩
  replace H : (if a1 = true then (if a2 = true then (some (Go.bits .or .u32 (Go.bits .or .u32 ((mn (ji4) 1073741823) * 4) 2) 1)) else (some (Go.bits .or .u32 ((mn (ji4) 1073741823) * 4) 2))) else (if a2 = true then (some (Go.bits .or .u32 ((mn (ji4) 1073741823) * 4) 1)) else (some ((mn (ji4) 1073741823) * 4)))) = some r := by first | (rw [hji4] at H; exact H) | (simp only [hji4] at H ⊢; exact H)
  (try (have hji4l : 0 ≤ ji4 := by (rw [← hji4]; unfold mx; (repeat' split) <;> omega)))
  (try (have hji4m : 0 ≤ ji4 := by omega))
  have hji4_ : (if a0 < 0 then 0 else a0) = ji4 := hji4
  obtain ⟨ji5, hji5⟩ : ∃ j_ : Int, (mn (ji4) 1073741823) = j_ := ⟨_, rfl⟩
  replace H : (if a1 = true then (if a2 = true then (some (Go.bits .or .u32 (Go.bits .or .u32 ((ji5) * 4) 2) 1)) else (some (Go.bits .or .u32 ((ji5) * 4) 2))) else (if a2 = true then (some (Go.bits .or .u32 ((ji5) * 4) 1)) else (some ((ji5) * 4)))) = some r := by first | (rw [hji5] at H; exact H) | (simp only [hji5] at H ⊢; exact H)
  have hji5_ : (if 1073741823 < (ji4) then 1073741823 else (ji4)) = ji5 := hji5
  by_cases c6 : a1 = true
  · subst c6
    have H1 : (if a2 = true then (some (Go.bits .or .u32 (Go.bits .or .u32 ((ji5) * 4) 2) 1)) else (some (Go.bits .or .u32 ((ji5) * 4) 2))) = some r := by rw [if_pos rfl] at H; exact H
    clear H
    have H := H1
    clear H1
    by_cases c7 : a2 = true
    · subst c7
      have H1 : (some (Go.bits .or .u32 (Go.bits .or .u32 ((ji5) * 4) 2) 1)) = some r := by rw [if_pos rfl] at H; exact H
      clear H
      have H := H1
      clear H1
      obtain rfl := Option.some.inj H
      go_enter Try.func9, Try.ntmps9
      go_wp2
      go_ret
      exact ⟨by first | rfl | (simp [errW_none, errW_some] <;> rfl) | (simp only [← hji4, ← hji5]; first | rfl | (simp [errW_none, errW_some] <;> rfl)) | (simp [*, errW_none, errW_some] <;> rfl), by repeat (first | (with_reducible first | exact HB.out | apply below_alloc | apply pw_below_drewN | apply below_drew1) | exact HB.out)⟩
    · replace c7 := Bool.eq_false_iff.mpr c7
      subst c7
      have H1 : (some (Go.bits .or .u32 ((ji5) * 4) 2)) = some r := by rw [if_neg (show ¬ (false = true) by decide)] at H; exact H
      clear H
      have H := H1
      clear H1
      obtain rfl := Option.some.inj H
      go_enter Try.func9, Try.ntmps9
      go_wp2
      go_ret
      exact ⟨by first | rfl | (simp [errW_none, errW_some] <;> rfl) | (simp only [← hji4, ← hji5]; first | rfl | (simp [errW_none, errW_some] <;> rfl)) | (simp [*, errW_none, errW_some] <;> rfl), by repeat (first | (with_reducible first | exact HB.out | apply below_alloc | apply pw_below_drewN | apply below_drew1) | exact HB.out)⟩
  · replace c6 := Bool.eq_false_iff.mpr c6
    subst c6
    have H1 : (if a2 = true then (some (Go.bits .or .u32 ((ji5) * 4) 1)) else (some ((ji5) * 4))) = some r := by rw [if_neg (show ¬ (false = true) by decide)] at H; exact H
    clear H
    have H := H1
    clear H1
    by_cases c8 : a2 = true
    · subst c8
      have H1 : (some (Go.bits .or .u32 ((ji5) * 4) 1)) = some r := by rw [if_pos rfl] at H; exact H
      clear H
      have H := H1
      clear H1
      obtain rfl := Option.some.inj H
      go_enter Try.func9, Try.ntmps9
      go_wp2
      go_ret
      exact ⟨by first | rfl | (simp [errW_none, errW_some] <;> rfl) | (simp only [← hji4, ← hji5]; first | rfl | (simp [errW_none, errW_some] <;> rfl)) | (simp [*, errW_none, errW_some] <;> rfl), by repeat (first | (with_reducible first | exact HB.out | apply below_alloc | apply pw_below_drewN | apply below_drew1) | exact HB.out)⟩
    · replace c8 := Bool.eq_false_iff.mpr c8
      subst c8
      have H1 : (some ((ji5) * 4)) = some r := by rw [if_neg (show ¬ (false = true) by decide)] at H; exact H
      clear H
      have H := H1
      clear H1
      obtain rfl := Option.some.inj H
      go_enter Try.func9, Try.ntmps9
      go_wp2
      go_ret
      exact ⟨by first | rfl | (simp [errW_none, errW_some] <;> rfl) | (simp only [← hji4, ← hji5]; first | rfl | (simp [errW_none, errW_some] <;> rfl)) | (simp [*, errW_none, errW_some] <;> rfl), by repeat (first | (with_reducible first | exact HB.out | apply below_alloc | apply pw_below_drewN | apply below_drew1) | exact HB.out)⟩

/-! ### weighlocklaw01_awake: function 16 -/
def weighlocklaw01_awake.f  : Option (Bool) := (pack_Pack.f 3 true false).bind fun t101 => (some (t101 == 14))
set_option maxHeartbeats 8000000 in
set_option maxRecDepth 100000 in
theorem weighlocklaw01_awake.calls  (r : Bool) (w : World) (h : weighlocklaw01_awake.f  = some r) :
    Calls Try.prog 16 #[] w fun e w' => e = .returned (.bool r) ∧ Below w.heap.size w w' := by
  have HB := Aside0.mk (Below.refl w.heap.size w)
  have H : ((pack_Pack.f 3 true false).bind fun t101 => (some (t101 == 14))) = some r := h
  clear h
  replace H := Option.bind_eq_some_iff.mp H
  obtain ⟨t101, A10, H⟩ := H
  replace H : (some (t101 == 14)) = some r := H
  have A1 := Aside0.mk A10
  clear A10
  obtain rfl := Option.some.inj H
  go_enter Try.func16, Try.ntmps16
  go_wp2_with (first | ((with_reducible refine gate_callee (f := 9) rfl ?_); refine goesL_ (some 1) rfl rfl Try.func9 (by kernel_rfl) rfl #[.int .i64 3, .bool true, .bool false] rfl (by (try simp only [List.map_toArray, List.map_cons, List.map_nil]); first | done | rfl | (simp only [List.length_drop, List.length_take]; rfl)) ?_; (with_reducible refine (pack_Pack.calls 3 true false t101 _ A1.out).mono ?_); rintro e w2 ⟨rfl, hb⟩; refine ⟨_, rfl, ?_⟩; have n0_ := Aside0.mk (below_step (by repeat (first | (with_reducible first | exact HB.out | apply below_alloc | apply pw_below_drewN | apply below_drew1) | exact HB.out)) hb); clear HB; have HB := n0_; clear n0_; (try clear hb); (try clear hb2); (try clear hk); (try clear hi)))
  go_ret
  exact ⟨by first | rfl | (simp [errW_none, errW_some] <;> rfl) | (simp [*, errW_none, errW_some] <;> rfl), by repeat (first | (with_reducible first | exact HB.out | apply below_alloc | apply pw_below_drewN | apply below_drew1) | exact HB.out)⟩

/-! ### weighlockref01_Size: function 20 -/
def weighlockref01_Size.l0 : Nat → Int → Int → Option (Bool)
  | 0, _, _ => none
  | k + 1, x0, x3 => if x3 ≤ 64 then (if x3 = x0 then (some true) else (weighlockref01_Size.l0 k x0 (wrap64 (x3 * 2)))) else (some false)
def weighlockref01_Size.f (k : Nat) (a0 : Int) : Option (Bool) := weighlockref01_Size.l0 k a0 1
theorem weighlockref01_Size.mono_l : ∀ k, (∀ y0 y1, LeO (weighlockref01_Size.l0 k y0 y1) (weighlockref01_Size.l0 (k + 1) y0 y1))
  | 0 => fun _ _ r h => by simp [weighlockref01_Size.l0] at h
  | k + 1 => by
    have ih0 := weighlockref01_Size.mono_l k
    · intro y0 y1
      unfold weighlockref01_Size.l0
      repeat' first
      | (with_reducible exact ih0 _ _)
      | (with_reducible exact LeO.refl _)
      | (with_reducible exact LeO.none _)
      | (with_reducible refine LeO.ite ?_ ?_)
      | (with_reducible refine LeO.bind ?_ (fun _ => ?_))
      | exact ih0 _ _
      | exact LeO.none _
      | refine LeO.ite ?_ ?_
      | refine LeO.bind ?_ (fun _ => ?_)
theorem weighlockref01_Size.mono : ∀ a0 k, LeO (weighlockref01_Size.f k a0) (weighlockref01_Size.f (k + 1) a0) := by
  intro a0 k
  have ih0 := weighlockref01_Size.mono_l k
  unfold weighlockref01_Size.f
  repeat' first
      | (with_reducible exact ih0 _ _)
      | (with_reducible exact LeO.refl _)
      | (with_reducible exact LeO.none _)
      | (with_reducible refine LeO.ite ?_ ?_)
      | (with_reducible refine LeO.bind ?_ (fun _ => ?_))
      | exact ih0 _ _
      | exact LeO.none _
      | refine LeO.ite ?_ ?_
      | refine LeO.bind ?_ (fun _ => ?_)
set_option maxHeartbeats 8000000 in
set_option maxRecDepth 100000 in
theorem weighlockref01_Size.calls (k : Nat) (a0 : Int) (r : Bool) (w : World) (h : weighlockref01_Size.f k a0 = some r) :
    Calls Try.prog 20 #[.int .i64 a0] w fun e w' => e = .returned (.bool r) ∧ Drawn0 w w' := by
  have H : (weighlockref01_Size.l0 k a0 1) = some r := h
  clear h
  have H' := Aside0.mk H
  clear H
  go_enter Try.func20, Try.ntmps20
  go_wp2
  go_loopg [3] k (fun kq v3 w' => ∃ (x3_1 : Int), v3 = .int .i64 x3_1 ∧ Aside0 (weighlockref01_Size.l0 kq a0 x3_1 = some r) ∧ Aside0 (kq ≤ k) ∧ Drawn0 w w')
  case atStart => exact ⟨(1), (by first | rfl | (simp; done) | (simp [*]; done)), H', ⟨Nat.le_refl _⟩, by repeat (first | exact Drawn0.refl _ | apply Drawn0.step)⟩
  case round =>
    clear H'
    obtain ⟨x3_1, rfl, HA, HK1, ⟨m1, rfl⟩⟩ := hrel
    cases gk with
    | zero => exact absurd HA.out (by simp [weighlockref01_Size.l0])
    | succ k1 =>
      have H := HA.out
      clear HA
      simp only [weighlockref01_Size.l0] at H
      by_cases c2 : x3_1 ≤ 64
      · rw [if_pos c2] at H
        have c2b0 : decide (x3_1 ≤ 64) = true := decide_eq_true c2
        clear c2
        by_cases c3 : x3_1 = a0
        · rw [if_pos c3] at H
          have c3b0 : (x3_1 == a0) = true := beq_iff_eq.mpr c3
          have c3b1 : (x3_1 != a0) = false := bne_eq_false_iff_eq.mpr c3
          clear c3
          obtain rfl := Option.some.inj H
          go_wp2
          go_ret
          exact ⟨by first | rfl | (simp; done) | (simp [*]; done), by repeat (first | exact Drawn0.refl _ | apply Drawn0.step)⟩
        · rw [if_neg c3] at H
          have c3b0 : (x3_1 == a0) = false := beq_eq_false_iff_ne.mpr c3
          have c3b1 : (x3_1 != a0) = true := bne_iff_ne.mpr c3
          have H' := Aside0.mk H
          clear H
          go_wp2
          go_roundg k1
          case measure => have := HK1.out; omega
          case rel => exact ⟨(wrap64 (x3_1 * 2)), (by first | rfl | (simp; done) | (simp [*]; done)), H', ⟨by have := HK1.out; omega⟩, by repeat (first | exact Drawn0.refl _ | apply Drawn0.step)⟩
      · rw [if_neg c2] at H
        have c2b0 : decide (x3_1 ≤ 64) = false := decide_eq_false c2
        clear c2
        obtain rfl := Option.some.inj H
        go_wp2
        go_ret
        exact ⟨by first | rfl | (simp; done) | (simp [*]; done), by repeat (first | exact Drawn0.refl _ | apply Drawn0.step)⟩

/-! ### pack_Sizes: function 21 -/
def pack_Sizes.l0 : Nat → List Int → Int → Option (List Int)
  | 0, _, _ => none
  | k + 1, x1, x2 => if x2 ≤ 64 then (if x1.length < 17592186044416 then (pack_Sizes.l0 k (x1 ++ [x2]) (wrap64 (x2 * 2))) else (none)) else (some x1)
def pack_Sizes.f (k : Nat)  : Option (List Int) := pack_Sizes.l0 k ([] : List Int) 1
theorem pack_Sizes.mono_l : ∀ k, (∀ y0 y1, LeO (pack_Sizes.l0 k y0 y1) (pack_Sizes.l0 (k + 1) y0 y1))
  | 0 => fun _ _ r h => by simp [pack_Sizes.l0] at h
  | k + 1 => by
    have ih0 := pack_Sizes.mono_l k
    · intro y0 y1
      unfold pack_Sizes.l0
      repeat' first
      | (with_reducible exact ih0 _ _)
      | (with_reducible exact LeO.refl _)
      | (with_reducible exact LeO.none _)
      | (with_reducible refine LeO.ite ?_ ?_)
      | (with_reducible refine LeO.bind ?_ (fun _ => ?_))
      | exact ih0 _ _
      | exact LeO.none _
      | refine LeO.ite ?_ ?_
      | refine LeO.bind ?_ (fun _ => ?_)
theorem pack_Sizes.mono : ∀ k, LeO (pack_Sizes.f k ) (pack_Sizes.f (k + 1) ) := by
  intro  k
  have ih0 := pack_Sizes.mono_l k
  unfold pack_Sizes.f
  repeat' first
      | (with_reducible exact ih0 _ _)
      | (with_reducible exact LeO.refl _)
      | (with_reducible exact LeO.none _)
      | (with_reducible refine LeO.ite ?_ ?_)
      | (with_reducible refine LeO.bind ?_ (fun _ => ?_))
      | exact ih0 _ _
      | exact LeO.none _
      | refine LeO.ite ?_ ?_
      | refine LeO.bind ?_ (fun _ => ?_)
set_option maxHeartbeats 8000000 in
set_option maxRecDepth 100000 in
theorem pack_Sizes.calls (k : Nat)  (r : List Int) (w : World) (h : pack_Sizes.f k  = some r) :
    Calls Try.prog 21 #[] w fun e w' => ∃ v0_ : Value, e = .returned (v0_) ∧ Kd.R (Kd.int .i64) 3 w' w.heap.size (fun _ => True) v0_ r ∧ Below w.heap.size w w' := by
  have HB := Aside0.mk (Below.refl w.heap.size w)
  have H : (pack_Sizes.l0 k ([] : List Int) 1) = some r := h
  clear h
  have H' := Aside0.mk H
  clear H
  go_enter Try.func21, Try.ntmps21
  go_wp2
  go_loopg [1, 2] k (fun kq v1 v2 w' => ∃ (x1_1 : List Int) (x2_1 : Int), v2 = .int .i64 x2_1 ∧ Aside0 (pack_Sizes.l0 kq x1_1 x2_1 = some r) ∧ Aside0 (kq ≤ k) ∧ Aside0 (Kd.R (Kd.int .i64) 3 w' w.heap.size (fun _ => True) v1 x1_1) ∧ Aside0 (Below w.heap.size w w'))
  case atStart => exact ⟨(([] : List Int)), (1), (by first | rfl | (simp; done) | (simp [*]; done)), H', ⟨Nat.le_refl _⟩, ⟨by first | exact Kd.R_nil _ _ _ _ _ | exact Kd.N_nil _ _ _ _ _ | exact Kd.V_nil _ _ _ _ _ | exact Kd.Q_nil _ _ _ _ _ | exact Kd.S_nil _ _ _ _ _⟩, ⟨by repeat (first | (with_reducible first | exact HB.out | apply below_alloc | apply pw_below_drewN | apply below_drew1) | exact HB.out)⟩⟩
  case round =>
    clear H'
    obtain ⟨x1_1, x2_1, rfl, HA, HK1, HO_1, HB⟩ := hrel
    cases gk with
    | zero => exact absurd HA.out (by simp [pack_Sizes.l0])
    | succ k1 =>
      have H := HA.out
      clear HA
      simp only [pack_Sizes.l0] at H
      by_cases c1 : x2_1 ≤ 64
      · rw [if_pos c1] at H
        have c1b0 : decide (x2_1 ≤ 64) = true := decide_eq_true c1
        clear c1
        by_cases c2 : x1_1.length < 17592186044416
        · rw [if_pos c2] at H
          have LMc2 := Aside0.mk c2
          clear c2
          obtain ⟨y102, hy102⟩ : ∃ y_ : List Int, y_ = (x1_1 ++ [x2_1]) := ⟨_, rfl⟩
          replace H : (pack_Sizes.l0 k1 y102 (wrap64 (x2_1 * 2))) = some r := by first | (rw [hy102]; with_reducible exact H) | (have H2_ := (Option.bind_some _ _).symm.trans H; rw [hy102]; with_reducible exact H2_) | (have H2_ := (Option.bind_some _ _).symm.trans H; with_reducible exact H2_) | with_reducible exact H | (rw [hy102]; exact H) | exact H
          have Ny102 := Aside0.mk hy102
          clear hy102
          have H' := Aside0.mk H
          clear H
          go_wp2_with (first | ((with_reducible refine gate_builtin (b := .append) (xs := #[.tmp 7, .tmp 9]) rfl ?_); at_builtin; refine Kd.R_append (Kd.int .i64) (w0 := w) w.heap.size rfl (.tmp 7) (.tmp 9) 36 3 (.int .i64 0) 8 rfl Try.underlying36 info3 rfl (by decide) (by omega) u1 x1_1 x2_1 [.int .i64 x2_1] (fun _ => True) (fun _ => False) rfl rfl ?aP (fun _ hk => hk.elim) ?aF ?aO ?aB ?aS ?aL ?_; (case aP => exact rfl); (case aB => exact (by repeat (first | (with_reducible first | exact HB.out | apply below_alloc | apply pw_below_drewN | apply below_drew1) | exact HB.out))); (case aF => exact (fun _ _ => trivial)); (case aO => exact (by (with_reducible repeat (first | apply Kd.R_alloc | apply Kd.R_drewN | apply Kd.R_drew)); exact HO_1.out)); (case aS => exact (below_size (by repeat (first | (with_reducible first | exact HB.out | apply below_alloc | apply pw_below_drewN | apply below_drew1) | exact HB.out)))); (case aL => have := LMc2.out; omega); intro v103 w3 ho hb hg hat; rw [← Ny102.out] at ho; have n0_ := Aside0.mk (hb); have n1_ := Aside0.mk (ho); clear HB; clear HO_1; have HB := n0_; have HO104 := n1_; clear n0_ n1_; clear ho hb hg hat))
          go_roundg k1
          case measure => have := HK1.out; omega
          case rel => exact ⟨(y102), (wrap64 (x2_1 * 2)), (by first | rfl | (simp; done) | (simp [*]; done)), H', ⟨by have := HK1.out; omega⟩, ⟨by (with_reducible repeat (first | apply Kd.R_alloc | apply Kd.R_drewN | apply Kd.R_drew)); exact HO104.out⟩, ⟨by repeat (first | (with_reducible first | exact HB.out | apply below_alloc | apply pw_below_drewN | apply below_drew1) | exact HB.out)⟩⟩
        · rw [if_neg c2] at H
          exact absurd H (by simp)
      · rw [if_neg c1] at H
        have c1b0 : decide (x2_1 ≤ 64) = false := decide_eq_false c1
        clear c1
        obtain rfl := Option.some.inj H
        go_wp2
        go_ret
        exact ⟨_, by first | rfl | (simp [errW_none, errW_some] <;> rfl) | (simp [*, errW_none, errW_some] <;> rfl), by (with_reducible repeat (first | apply Kd.R_alloc | apply Kd.R_drewN | apply Kd.R_drew)); exact HO_1.out, by repeat (first | (with_reducible first | exact HB.out | apply below_alloc | apply pw_below_drewN | apply below_drew1) | exact HB.out)⟩

/-! ### pack_Apart: function 22 -/
def pack_Apart.f (a0 : Int) (a1 : Int) : Option (Int) := some ((a0 - a1) % 4294967296)
set_option maxHeartbeats 8000000 in
set_option maxRecDepth 100000 in
theorem pack_Apart.calls (a0 : Int) (a1 : Int) (r : Int) (w : World) (h : pack_Apart.f a0 a1 = some r) :
    Calls Try.prog 22 #[.int .u32 a0, .int .u32 a1] w fun e w' => e = .returned (.int .u32 r) ∧ Drawn0 w w' := by
  have H : (some ((a0 - a1) % 4294967296)) = some r := h
  clear h
  obtain rfl := Option.some.inj H
  go_enter Try.func22, Try.ntmps22
  go_wp2
  go_ret
  exact ⟨by first | rfl | (simp; done) | (simp [*]; done), by repeat (first | exact Drawn0.refl _ | apply Drawn0.step)⟩

/-! ### weighlocklaw01_PackApart: function 8 -/
def weighlocklaw01_PackApart.l0 : Nat → Int → Int → Int → List Int → List Int → Int → Int → Option (Bool)
  | 0, _, _, _, _, _, _, _ => none
  | k + 1, x0, x1, x5, x6, x17, x18, x19 => if x19 < x18 then (if 0 ≤ x19 then (if x19 < (x17.length : Int) then ((weighlockref01_Size.f k (rd x17 x19)).bind fun t109 => (if t109 = true then (if x19 > 0 then (if 0 ≤ (wrap64 (x19 - 1)) then (if (wrap64 (x19 - 1)) < (x6.length : Int) then (if (rd x17 x19) = (wrap64 (2 * (rd x6 (wrap64 (x19 - 1))))) then (weighlocklaw01_PackApart.l0 k x0 x1 x5 x6 x17 x18 (wrap64 (x19 + 1))) else (some false)) else (none)) else (none)) else (weighlocklaw01_PackApart.l0 k x0 x1 x5 x6 x17 x18 (wrap64 (x19 + 1)))) else (some false))) else (none)) else (none)) else ((pack_Apart.f x0 x1).bind fun t111 => (if (wrap64 (t111)) = x5 then ((pack_Apart.f x0 x1).bind fun t112 => (if ((x1 + t112) % 4294967296) = x0 then (if (x6.length : Int) = 7 then ((weighlocklaw01_awake.f).bind fun t113 => (some t113)) else (some false)) else (some false))) else (some false)))
def weighlocklaw01_PackApart.f (k : Nat) (a0 : Int) (a1 : Int) : Option (Bool) := (pack_Sizes.f k).bind fun t105 => (weighlocklaw01_PackApart.l0 k a0 a1 (Int.tmod (wrap64 ((wrap64 ((wrap64 (a0)) - (wrap64 (a1)))) + 4294967296)) 4294967296) t105 t105 (t105.length : Int) 0)
theorem weighlocklaw01_PackApart.mono_l : ∀ k, (∀ y0 y1 y2 y3 y4 y5 y6, LeO (weighlocklaw01_PackApart.l0 k y0 y1 y2 y3 y4 y5 y6) (weighlocklaw01_PackApart.l0 (k + 1) y0 y1 y2 y3 y4 y5 y6))
  | 0 => fun _ _ _ _ _ _ _ r h => by simp [weighlocklaw01_PackApart.l0] at h
  | k + 1 => by
    have ih0 := weighlocklaw01_PackApart.mono_l k
    · intro y0 y1 y2 y3 y4 y5 y6
      unfold weighlocklaw01_PackApart.l0
      repeat' first
      | (with_reducible exact ih0 _ _ _ _ _ _ _)
      | (with_reducible exact pack_Sizes.mono _)
      | (with_reducible exact weighlockref01_Size.mono _ _)
      | (with_reducible exact LeO.refl _)
      | (with_reducible exact LeO.none _)
      | (with_reducible refine LeO.ite ?_ ?_)
      | (with_reducible refine LeO.bind ?_ (fun _ => ?_))
      | exact ih0 _ _ _ _ _ _ _
      | exact pack_Sizes.mono _
      | exact weighlockref01_Size.mono _ _
      | exact LeO.none _
      | refine LeO.ite ?_ ?_
      | refine LeO.bind ?_ (fun _ => ?_)
theorem weighlocklaw01_PackApart.mono : ∀ a0 a1 k, LeO (weighlocklaw01_PackApart.f k a0 a1) (weighlocklaw01_PackApart.f (k + 1) a0 a1) := by
  intro a0 a1 k
  have ih0 := weighlocklaw01_PackApart.mono_l k
  unfold weighlocklaw01_PackApart.f
  repeat' first
      | (with_reducible exact ih0 _ _ _ _ _ _ _)
      | (with_reducible exact pack_Sizes.mono _)
      | (with_reducible exact weighlockref01_Size.mono _ _)
      | (with_reducible exact LeO.refl _)
      | (with_reducible exact LeO.none _)
      | (with_reducible refine LeO.ite ?_ ?_)
      | (with_reducible refine LeO.bind ?_ (fun _ => ?_))
      | exact ih0 _ _ _ _ _ _ _
      | exact pack_Sizes.mono _
      | exact weighlockref01_Size.mono _ _
      | exact LeO.none _
      | refine LeO.ite ?_ ?_
      | refine LeO.bind ?_ (fun _ => ?_)
set_option maxHeartbeats 8000000 in
set_option maxRecDepth 100000 in
theorem weighlocklaw01_PackApart.calls (k : Nat) (a0 : Int) (a1 : Int) (r : Bool) (w : World) (h : weighlocklaw01_PackApart.f k a0 a1 = some r) :
    Calls Try.prog 8 #[.int .u32 a0, .int .u32 a1] w fun e w' => e = .returned (.bool r) ∧ Below w.heap.size w w' := by
  have HB := Aside0.mk (Below.refl w.heap.size w)
  have H : ((pack_Sizes.f k).bind fun t105 => (weighlocklaw01_PackApart.l0 k a0 a1 (Int.tmod (wrap64 ((wrap64 ((wrap64 (a0)) - (wrap64 (a1)))) + 4294967296)) 4294967296) t105 t105 (t105.length : Int) 0)) = some r := h
  clear h
  replace H := Option.bind_eq_some_iff.mp H
  obtain ⟨t105, A30, H⟩ := H
  replace H : (weighlocklaw01_PackApart.l0 k a0 a1 (Int.tmod (wrap64 ((wrap64 ((wrap64 (a0)) - (wrap64 (a1)))) + 4294967296)) 4294967296) t105 t105 (t105.length : Int) 0) = some r := H
  have A3 := Aside0.mk A30
  clear A30
  have H' := Aside0.mk H
  clear H
  go_enter Try.func8, Try.ntmps8
  go_wp2_with (first | ((with_reducible refine gate_callee (f := 21) rfl ?_); refine goesL_ (some 16) rfl rfl Try.func21 (by kernel_rfl) rfl #[] rfl (by (try simp only [List.map_toArray, List.map_cons, List.map_nil]); first | done | rfl | (simp only [List.length_drop, List.length_take]; rfl)) ?_; (with_reducible refine (pack_Sizes.calls k  t105 _ A3.out).mono ?_); rintro e w4 ⟨v106, rfl, ho0, hb⟩; refine ⟨_, rfl, ?_⟩; have n0_ := Aside0.mk (Kd.R_lower ho0 (below_size (by repeat (first | (with_reducible first | exact HB.out | apply below_alloc | apply pw_below_drewN | apply below_drew1) | exact HB.out)))); have n1_ := Aside0.mk (below_step (by repeat (first | (with_reducible first | exact HB.out | apply below_alloc | apply pw_below_drewN | apply below_drew1) | exact HB.out)) hb); clear HB; have HO107 := n0_; have HB := n1_; clear n0_ n1_; (try clear hb); (try clear hb2); (try clear hk); (try clear hi); (try clear ho0); obtain ⟨Ao5, co5, eo5⟩ := Kd.R_slice HO107.out; subst eo5))
  go_loopg [19] k (fun kq v19 w' => ∃ (x19_1 : Int), v19 = .int .i64 x19_1 ∧ Aside0 (weighlocklaw01_PackApart.l0 kq a0 a1 (Int.tmod (wrap64 ((wrap64 ((wrap64 (a0)) - (wrap64 (a1)))) + 4294967296)) 4294967296) t105 t105 (t105.length : Int) x19_1 = some r) ∧ Aside0 (kq ≤ k) ∧ Aside0 (Kd.R (Kd.int .i64) 3 w' w.heap.size (fun _ => True) (.slice Ao5 t105.length co5) t105) ∧ Aside0 (Kd.R (Kd.int .i64) 3 w' w.heap.size (fun _ => True) (.slice Ao5 t105.length co5) t105) ∧ Aside0 (Below w.heap.size w w'))
  case atStart => exact ⟨(0), (by first | rfl | (simp; done) | (simp [*]; done)), H', ⟨Nat.le_refl _⟩, ⟨by (with_reducible repeat (first | apply Kd.R_alloc | apply Kd.R_drewN | apply Kd.R_drew)); exact HO107.out⟩, ⟨by (with_reducible repeat (first | apply Kd.R_alloc | apply Kd.R_drewN | apply Kd.R_drew)); exact HO107.out⟩, ⟨by repeat (first | (with_reducible first | exact HB.out | apply below_alloc | apply pw_below_drewN | apply below_drew1) | exact HB.out)⟩⟩
  case round =>
    clear H'
    try clear c2
    try clear p2
    obtain ⟨x19_1, rfl, HA, HK1, HO_6, HO_17, HB⟩ := hrel
    cases gk with
    | zero => exact absurd HA.out (by simp [weighlocklaw01_PackApart.l0])
    | succ k1 =>
      have H := HA.out
      clear HA
      simp only [weighlocklaw01_PackApart.l0] at H
      by_cases c6 : x19_1 < (t105.length : Int)
      · rw [if_pos c6] at H
        have c6b0 : decide (x19_1 < (t105.length : Int)) = true := decide_eq_true c6
        clear c6
        by_cases c7 : 0 ≤ x19_1
        · rw [if_pos c7] at H
          have c7b0 : decide (0 ≤ x19_1) = true := decide_eq_true c7
          clear c7
          by_cases c8 : x19_1 < (t105.length : Int)
          · rw [if_pos c8] at H
            have c8b0 : decide (x19_1 < (t105.length : Int)) = true := decide_eq_true c8
            clear c8
            replace H := Option.bind_eq_some_iff.mp H
            obtain ⟨t109, A90, H⟩ := H
            replace H : (if t109 = true then (if x19_1 > 0 then (if 0 ≤ (wrap64 (x19_1 - 1)) then (if (wrap64 (x19_1 - 1)) < (t105.length : Int) then (if (rd t105 x19_1) = (wrap64 (2 * (rd t105 (wrap64 (x19_1 - 1))))) then (weighlocklaw01_PackApart.l0 k1 a0 a1 (Int.tmod (wrap64 ((wrap64 ((wrap64 (a0)) - (wrap64 (a1)))) + 4294967296)) 4294967296) t105 t105 (t105.length : Int) (wrap64 (x19_1 + 1))) else (some false)) else (none)) else (none)) else (weighlocklaw01_PackApart.l0 k1 a0 a1 (Int.tmod (wrap64 ((wrap64 ((wrap64 (a0)) - (wrap64 (a1)))) + 4294967296)) 4294967296) t105 t105 (t105.length : Int) (wrap64 (x19_1 + 1)))) else (some false)) = some r := H
            have A9 := Aside0.mk A90
            clear A90
            by_cases c10 : t109 = true
            · subst c10
              have H1 : (if x19_1 > 0 then (if 0 ≤ (wrap64 (x19_1 - 1)) then (if (wrap64 (x19_1 - 1)) < (t105.length : Int) then (if (rd t105 x19_1) = (wrap64 (2 * (rd t105 (wrap64 (x19_1 - 1))))) then (weighlocklaw01_PackApart.l0 k1 a0 a1 (Int.tmod (wrap64 ((wrap64 ((wrap64 (a0)) - (wrap64 (a1)))) + 4294967296)) 4294967296) t105 t105 (t105.length : Int) (wrap64 (x19_1 + 1))) else (some false)) else (none)) else (none)) else (weighlocklaw01_PackApart.l0 k1 a0 a1 (Int.tmod (wrap64 ((wrap64 ((wrap64 (a0)) - (wrap64 (a1)))) + 4294967296)) 4294967296) t105 t105 (t105.length : Int) (wrap64 (x19_1 + 1)))) = some r := by rw [if_pos rfl] at H; exact H
              clear H
              have H := H1
              clear H1
              by_cases c11 : x19_1 > 0
              · rw [if_pos c11] at H
                have c11b0 : decide (0 < x19_1) = true := decide_eq_true c11
                clear c11
                obtain ⟨ji12, hji12⟩ : ∃ j_ : Int, (wrap64 (x19_1 - 1)) = j_ := ⟨_, rfl⟩
                replace H : (if 0 ≤ (ji12) then (if (ji12) < (t105.length : Int) then (if (rd t105 x19_1) = (wrap64 (2 * (rd t105 (ji12)))) then (weighlocklaw01_PackApart.l0 k1 a0 a1 (Int.tmod (wrap64 ((wrap64 ((wrap64 (a0)) - (wrap64 (a1)))) + 4294967296)) 4294967296) t105 t105 (t105.length : Int) (wrap64 (x19_1 + 1))) else (some false)) else (none)) else (none)) = some r := by first | (rw [hji12] at H; exact H) | (simp only [hji12] at H ⊢; exact H)
                (try rw [hji12] at A9)
                have hji12w : (IntKind.i64.wrap (x19_1 - 1)) = ji12 := (i64_w _).trans hji12
                by_cases c13 : 0 ≤ (ji12)
                · rw [if_pos c13] at H
                  have c13b0 : decide (0 ≤ (ji12)) = true := decide_eq_true c13
                  clear c13
                  by_cases c14 : (ji12) < (t105.length : Int)
                  · rw [if_pos c14] at H
                    have c14b0 : decide ((ji12) < (t105.length : Int)) = true := decide_eq_true c14
                    clear c14
                    by_cases c15 : (rd t105 x19_1) = (wrap64 (2 * (rd t105 (ji12))))
                    · rw [if_pos c15] at H
                      have c15b0 : ((rd t105 x19_1) == (wrap64 (2 * (rd t105 (ji12))))) = true := beq_iff_eq.mpr c15
                      have c15b1 : ((rd t105 x19_1) != (wrap64 (2 * (rd t105 (ji12))))) = false := bne_eq_false_iff_eq.mpr c15
                      clear c15
                      have H' := Aside0.mk H
                      clear H
                      have p108 : 0 ≤ (x19_1 : Int) := of_decide_eq_true (by first | (with_reducible assumption) | assumption)
                      have q108 : x19_1 < (t105.length : Int) := of_decide_eq_true (by first | (with_reducible assumption) | assumption)
                      obtain ⟨ad108, e108, hx108_0⟩ := Kd.at_int (Kd.R_reads' HO_17.out).2.2 x19_1 p108 q108
                      cases e108
                      replace p108 := eq_true p108
                      replace q108 := eq_true q108
                      go_wp2_with (first | ((with_reducible refine gate_callee (f := 20) rfl ?_); refine goesL_ (some 25) rfl rfl Try.func20 (by kernel_rfl) rfl #[.int .i64 (rd t105 x19_1)] rfl (by (try simp only [List.map_toArray, List.map_cons, List.map_nil]); first | done | rfl | (simp only [List.length_drop, List.length_take]; rfl)) ?_; (with_reducible refine (weighlockref01_Size.calls k1 (rd t105 x19_1) true _ A9.out).mono ?_); rintro e w' ⟨rfl, ⟨nd, rfl⟩⟩; refine ⟨_, rfl, ?_⟩; have p110 : 0 ≤ ((ji12) : Int) := of_decide_eq_true (by first | (with_reducible assumption) | assumption); have q110 : (ji12) < (t105.length : Int) := of_decide_eq_true (by first | (with_reducible assumption) | assumption); obtain ⟨ad110, e110, hx110_0⟩ := Kd.at_int (Kd.R_reads' HO_6.out).2.2 (ji12) p110 q110; obtain rfl : ad108 = ad110 := (by injection e110); replace p110 := eq_true p110; replace q110 := eq_true q110))
                      go_roundg k1
                      case measure => have := HK1.out; omega
                      case rel => exact ⟨(wrap64 (x19_1 + 1)), (by first | rfl | (simp; done) | (simp [*]; done)), H', ⟨by have := HK1.out; omega⟩, ⟨by (with_reducible repeat (first | apply Kd.R_alloc | apply Kd.R_drewN | apply Kd.R_drew)); exact HO_6.out⟩, ⟨by (with_reducible repeat (first | apply Kd.R_alloc | apply Kd.R_drewN | apply Kd.R_drew)); exact HO_17.out⟩, ⟨by repeat (first | (with_reducible first | exact HB.out | apply below_alloc | apply pw_below_drewN | apply below_drew1) | exact HB.out)⟩⟩
                    · rw [if_neg c15] at H
                      have c15b0 : ((rd t105 x19_1) == (wrap64 (2 * (rd t105 (ji12))))) = false := beq_eq_false_iff_ne.mpr c15
                      have c15b1 : ((rd t105 x19_1) != (wrap64 (2 * (rd t105 (ji12))))) = true := bne_iff_ne.mpr c15
                      obtain rfl := Option.some.inj H
                      have p108 : 0 ≤ (x19_1 : Int) := of_decide_eq_true (by first | (with_reducible assumption) | assumption)
                      have q108 : x19_1 < (t105.length : Int) := of_decide_eq_true (by first | (with_reducible assumption) | assumption)
                      obtain ⟨ad108, e108, hx108_0⟩ := Kd.at_int (Kd.R_reads' HO_17.out).2.2 x19_1 p108 q108
                      cases e108
                      replace p108 := eq_true p108
                      replace q108 := eq_true q108
                      go_wp2_with (first | ((with_reducible refine gate_callee (f := 20) rfl ?_); refine goesL_ (some 25) rfl rfl Try.func20 (by kernel_rfl) rfl #[.int .i64 (rd t105 x19_1)] rfl (by (try simp only [List.map_toArray, List.map_cons, List.map_nil]); first | done | rfl | (simp only [List.length_drop, List.length_take]; rfl)) ?_; (with_reducible refine (weighlockref01_Size.calls k1 (rd t105 x19_1) true _ A9.out).mono ?_); rintro e w' ⟨rfl, ⟨nd, rfl⟩⟩; refine ⟨_, rfl, ?_⟩; have p110 : 0 ≤ ((ji12) : Int) := of_decide_eq_true (by first | (with_reducible assumption) | assumption); have q110 : (ji12) < (t105.length : Int) := of_decide_eq_true (by first | (with_reducible assumption) | assumption); obtain ⟨ad110, e110, hx110_0⟩ := Kd.at_int (Kd.R_reads' HO_6.out).2.2 (ji12) p110 q110; obtain rfl : ad108 = ad110 := (by injection e110); replace p110 := eq_true p110; replace q110 := eq_true q110))
                      go_ret
                      exact ⟨by first | rfl | (simp [errW_none, errW_some] <;> rfl) | (simp only [← hji12]; first | rfl | (simp [errW_none, errW_some] <;> rfl)) | (simp [*, errW_none, errW_some] <;> rfl), by repeat (first | (with_reducible first | exact HB.out | apply below_alloc | apply pw_below_drewN | apply below_drew1) | exact HB.out)⟩
                  · rw [if_neg c14] at H
                    exact absurd H (by simp)
                · rw [if_neg c13] at H
                  exact absurd H (by simp)
              · rw [if_neg c11] at H
                have c11b0 : decide (0 < x19_1) = false := decide_eq_false c11
                clear c11
                have H' := Aside0.mk H
                clear H
                have p108 : 0 ≤ (x19_1 : Int) := of_decide_eq_true (by first | (with_reducible assumption) | assumption)
                have q108 : x19_1 < (t105.length : Int) := of_decide_eq_true (by first | (with_reducible assumption) | assumption)
                obtain ⟨ad108, e108, hx108_0⟩ := Kd.at_int (Kd.R_reads' HO_17.out).2.2 x19_1 p108 q108
                cases e108
                replace p108 := eq_true p108
                replace q108 := eq_true q108
                go_wp2_with (first | ((with_reducible refine gate_callee (f := 20) rfl ?_); refine goesL_ (some 25) rfl rfl Try.func20 (by kernel_rfl) rfl #[.int .i64 (rd t105 x19_1)] rfl (by (try simp only [List.map_toArray, List.map_cons, List.map_nil]); first | done | rfl | (simp only [List.length_drop, List.length_take]; rfl)) ?_; (with_reducible refine (weighlockref01_Size.calls k1 (rd t105 x19_1) true _ A9.out).mono ?_); rintro e w' ⟨rfl, ⟨nd, rfl⟩⟩; refine ⟨_, rfl, ?_⟩))
                go_roundg k1
                case measure => have := HK1.out; omega
                case rel => exact ⟨(wrap64 (x19_1 + 1)), (by first | rfl | (simp; done) | (simp [*]; done)), H', ⟨by have := HK1.out; omega⟩, ⟨by (with_reducible repeat (first | apply Kd.R_alloc | apply Kd.R_drewN | apply Kd.R_drew)); exact HO_6.out⟩, ⟨by (with_reducible repeat (first | apply Kd.R_alloc | apply Kd.R_drewN | apply Kd.R_drew)); exact HO_17.out⟩, ⟨by repeat (first | (with_reducible first | exact HB.out | apply below_alloc | apply pw_below_drewN | apply below_drew1) | exact HB.out)⟩⟩
            · replace c10 := Bool.eq_false_iff.mpr c10
              subst c10
              have H1 : (some false) = some r := by rw [if_neg (show ¬ (false = true) by decide)] at H; exact H
              clear H
              have H := H1
              clear H1
              obtain rfl := Option.some.inj H
              have p108 : 0 ≤ (x19_1 : Int) := of_decide_eq_true (by first | (with_reducible assumption) | assumption)
              have q108 : x19_1 < (t105.length : Int) := of_decide_eq_true (by first | (with_reducible assumption) | assumption)
              obtain ⟨ad108, e108, hx108_0⟩ := Kd.at_int (Kd.R_reads' HO_17.out).2.2 x19_1 p108 q108
              cases e108
              replace p108 := eq_true p108
              replace q108 := eq_true q108
              go_wp2_with (first | ((with_reducible refine gate_callee (f := 20) rfl ?_); refine goesL_ (some 25) rfl rfl Try.func20 (by kernel_rfl) rfl #[.int .i64 (rd t105 x19_1)] rfl (by (try simp only [List.map_toArray, List.map_cons, List.map_nil]); first | done | rfl | (simp only [List.length_drop, List.length_take]; rfl)) ?_; (with_reducible refine (weighlockref01_Size.calls k1 (rd t105 x19_1) false _ A9.out).mono ?_); rintro e w' ⟨rfl, ⟨nd, rfl⟩⟩; refine ⟨_, rfl, ?_⟩))
              go_ret
              exact ⟨by first | rfl | (simp [errW_none, errW_some] <;> rfl) | (simp [*, errW_none, errW_some] <;> rfl), by repeat (first | (with_reducible first | exact HB.out | apply below_alloc | apply pw_below_drewN | apply below_drew1) | exact HB.out)⟩
          · rw [if_neg c8] at H
            exact absurd H (by simp)
        · rw [if_neg c7] at H
          exact absurd H (by simp)
      · rw [if_neg c6] at H
        have c6b0 : decide (x19_1 < (t105.length : Int)) = false := decide_eq_false c6
        clear c6
        replace H := Option.bind_eq_some_iff.mp H
        obtain ⟨t111, A160, H⟩ := H
        replace H : (if (wrap64 (t111)) = (Int.tmod (wrap64 ((wrap64 ((wrap64 (a0)) - (wrap64 (a1)))) + 4294967296)) 4294967296) then ((pack_Apart.f a0 a1).bind fun t112 => (if ((a1 + t112) % 4294967296) = a0 then (if (t105.length : Int) = 7 then ((weighlocklaw01_awake.f).bind fun t113 => (some t113)) else (some false)) else (some false))) else (some false)) = some r := H
        have A16 := Aside0.mk A160
        clear A160
        by_cases c17 : (wrap64 (t111)) = (Int.tmod (wrap64 ((wrap64 ((wrap64 (a0)) - (wrap64 (a1)))) + 4294967296)) 4294967296)
        · rw [if_pos c17] at H
          have c17b0 : ((wrap64 (t111)) == (Int.tmod (wrap64 ((wrap64 ((wrap64 (a0)) - (wrap64 (a1)))) + 4294967296)) 4294967296)) = true := beq_iff_eq.mpr c17
          have c17b1 : ((wrap64 (t111)) != (Int.tmod (wrap64 ((wrap64 ((wrap64 (a0)) - (wrap64 (a1)))) + 4294967296)) 4294967296)) = false := bne_eq_false_iff_eq.mpr c17
          clear c17
          replace H := Option.bind_eq_some_iff.mp H
          obtain ⟨t112, A180, H⟩ := H
          replace H : (if ((a1 + t112) % 4294967296) = a0 then (if (t105.length : Int) = 7 then ((weighlocklaw01_awake.f).bind fun t113 => (some t113)) else (some false)) else (some false)) = some r := H
          have A18 := Aside0.mk A180
          clear A180
          by_cases c19 : ((a1 + t112) % 4294967296) = a0
          · rw [if_pos c19] at H
            have c19b0 : (((a1 + t112) % 4294967296) == a0) = true := beq_iff_eq.mpr c19
            have c19b1 : (((a1 + t112) % 4294967296) != a0) = false := bne_eq_false_iff_eq.mpr c19
            clear c19
            by_cases c20 : (t105.length : Int) = 7
            · rw [if_pos c20] at H
              have c20b0 : ((t105.length : Int) == 7) = true := beq_iff_eq.mpr c20
              have c20b1 : ((t105.length : Int) != 7) = false := bne_eq_false_iff_eq.mpr c20
              clear c20
              replace H := Option.bind_eq_some_iff.mp H
              obtain ⟨t113, A210, H⟩ := H
              replace H : (some t113) = some r := H
              have A21 := Aside0.mk A210
              clear A210
              obtain rfl := Option.some.inj H
              go_wp2_with (first | ((with_reducible refine gate_callee (f := 22) rfl ?_); refine goesL_ (some 44) rfl rfl Try.func22 (by kernel_rfl) rfl #[.int .u32 a0, .int .u32 a1] rfl (by (try simp only [List.map_toArray, List.map_cons, List.map_nil]); first | done | rfl | (simp only [List.length_drop, List.length_take]; rfl)) ?_; (with_reducible refine (pack_Apart.calls a0 a1 t111 _ A16.out).mono ?_); rintro e w' ⟨rfl, ⟨nd, rfl⟩⟩; refine ⟨_, rfl, ?_⟩) | (go_at_call 22; (with_reducible refine (pack_Apart.calls a0 a1 t112 _ A18.out).mono ?_); rintro e w' ⟨rfl, ⟨nd, rfl⟩⟩) | (go_at_call 16; (with_reducible refine (weighlocklaw01_awake.calls  t113 _ A21.out).mono ?_); rintro e w22 ⟨rfl, hb⟩; have n0_ := Aside0.mk (Kd.R_below (by (with_reducible repeat (first | apply Kd.R_alloc | apply Kd.R_drewN | apply Kd.R_drew)); exact HO_6.out) hb); have n1_ := Aside0.mk (Kd.R_below (by (with_reducible repeat (first | apply Kd.R_alloc | apply Kd.R_drewN | apply Kd.R_drew)); exact HO_17.out) hb); have n2_ := Aside0.mk (below_step (by repeat (first | (with_reducible first | exact HB.out | apply below_alloc | apply pw_below_drewN | apply below_drew1) | exact HB.out)) hb); clear HO_6; clear HO_17; clear HB; have HO_6 := n0_; have HO_17 := n1_; have HB := n2_; clear n0_ n1_ n2_; (try clear hb); (try clear hb2); (try clear hk); (try clear hi)))
              go_ret
              exact ⟨by first | rfl | (simp [errW_none, errW_some] <;> rfl) | (simp [*, errW_none, errW_some] <;> rfl), by repeat (first | (with_reducible first | exact HB.out | apply below_alloc | apply pw_below_drewN | apply below_drew1) | exact HB.out)⟩
            · rw [if_neg c20] at H
              have c20b0 : ((t105.length : Int) == 7) = false := beq_eq_false_iff_ne.mpr c20
              have c20b1 : ((t105.length : Int) != 7) = true := bne_iff_ne.mpr c20
              obtain rfl := Option.some.inj H
              go_wp2_with (first | ((with_reducible refine gate_callee (f := 22) rfl ?_); refine goesL_ (some 44) rfl rfl Try.func22 (by kernel_rfl) rfl #[.int .u32 a0, .int .u32 a1] rfl (by (try simp only [List.map_toArray, List.map_cons, List.map_nil]); first | done | rfl | (simp only [List.length_drop, List.length_take]; rfl)) ?_; (with_reducible refine (pack_Apart.calls a0 a1 t111 _ A16.out).mono ?_); rintro e w' ⟨rfl, ⟨nd, rfl⟩⟩; refine ⟨_, rfl, ?_⟩) | (go_at_call 22; (with_reducible refine (pack_Apart.calls a0 a1 t112 _ A18.out).mono ?_); rintro e w' ⟨rfl, ⟨nd, rfl⟩⟩))
              go_ret
              exact ⟨by first | rfl | (simp [errW_none, errW_some] <;> rfl) | (simp [*, errW_none, errW_some] <;> rfl), by repeat (first | (with_reducible first | exact HB.out | apply below_alloc | apply pw_below_drewN | apply below_drew1) | exact HB.out)⟩
          · rw [if_neg c19] at H
            have c19b0 : (((a1 + t112) % 4294967296) == a0) = false := beq_eq_false_iff_ne.mpr c19
            have c19b1 : (((a1 + t112) % 4294967296) != a0) = true := bne_iff_ne.mpr c19
            obtain rfl := Option.some.inj H
            go_wp2_with (first | ((with_reducible refine gate_callee (f := 22) rfl ?_); refine goesL_ (some 44) rfl rfl Try.func22 (by kernel_rfl) rfl #[.int .u32 a0, .int .u32 a1] rfl (by (try simp only [List.map_toArray, List.map_cons, List.map_nil]); first | done | rfl | (simp only [List.length_drop, List.length_take]; rfl)) ?_; (with_reducible refine (pack_Apart.calls a0 a1 t111 _ A16.out).mono ?_); rintro e w' ⟨rfl, ⟨nd, rfl⟩⟩; refine ⟨_, rfl, ?_⟩) | (go_at_call 22; (with_reducible refine (pack_Apart.calls a0 a1 t112 _ A18.out).mono ?_); rintro e w' ⟨rfl, ⟨nd, rfl⟩⟩))
            go_ret
            exact ⟨by first | rfl | (simp [errW_none, errW_some] <;> rfl) | (simp [*, errW_none, errW_some] <;> rfl), by repeat (first | (with_reducible first | exact HB.out | apply below_alloc | apply pw_below_drewN | apply below_drew1) | exact HB.out)⟩
        · rw [if_neg c17] at H
          have c17b0 : ((wrap64 (t111)) == (Int.tmod (wrap64 ((wrap64 ((wrap64 (a0)) - (wrap64 (a1)))) + 4294967296)) 4294967296)) = false := beq_eq_false_iff_ne.mpr c17
          have c17b1 : ((wrap64 (t111)) != (Int.tmod (wrap64 ((wrap64 ((wrap64 (a0)) - (wrap64 (a1)))) + 4294967296)) 4294967296)) = true := bne_iff_ne.mpr c17
          obtain rfl := Option.some.inj H
          go_wp2_with (first | ((with_reducible refine gate_callee (f := 22) rfl ?_); refine goesL_ (some 44) rfl rfl Try.func22 (by kernel_rfl) rfl #[.int .u32 a0, .int .u32 a1] rfl (by (try simp only [List.map_toArray, List.map_cons, List.map_nil]); first | done | rfl | (simp only [List.length_drop, List.length_take]; rfl)) ?_; (with_reducible refine (pack_Apart.calls a0 a1 t111 _ A16.out).mono ?_); rintro e w' ⟨rfl, ⟨nd, rfl⟩⟩; refine ⟨_, rfl, ?_⟩))
          go_ret
          exact ⟨by first | rfl | (simp [errW_none, errW_some] <;> rfl) | (simp [*, errW_none, errW_some] <;> rfl), by repeat (first | (with_reducible first | exact HB.out | apply below_alloc | apply pw_below_drewN | apply below_drew1) | exact HB.out)⟩

/-- THE ONE PURE STATEMENT of weighlocklaw01_PackApart: yours. -/
def weighlocklaw01_PackApart.Pure : Prop := ∀ (a0 : Int) (a1 : Int), (Lit.int .u32 a0).wf = true → (Lit.int .u32 a1).wf = true → ∃ k, weighlocklaw01_PackApart.f k a0 a1 = some true
theorem weighlocklaw01_PackApart.walk (P : weighlocklaw01_PackApart.Pure) (a0 : Int) (a1 : Int) (w : World) (w0 : (Lit.int .u32 a0).wf = true) (w1 : (Lit.int .u32 a1).wf = true) :
    Calls Try.prog 8 #[.int .u32 a0, .int .u32 a1] w fun e w' => e = .returned (.bool true) ∧ Below w.heap.size w w' := by
  obtain ⟨k, h⟩ := P a0 a1 w0 w1
  refine (weighlocklaw01_PackApart.calls k a0 a1 true w h).mono ?_
  rintro e w' ⟨rfl, hd⟩
  exact ⟨rfl, hd⟩

end Go.Proofs.Ytobodplkdojjdaa.PPackApart
