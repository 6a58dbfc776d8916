/- The law PlanRows, walked: a row is as many words, laid one by one. -/
import Derived.Test.YtoddbjmkdhaklaaLaw05
import Derived.Test.YtoddbjmkdhaklaaRecs
import Derived.Deep.RegionHeld3
namespace Go.Proofs.Ytoddbjmkdhaklaa.WalkPlanRows
open Go Go.RowKit Go.Proofs.Ytoddbjmkdhaklaa.Heap Go.Proofs.Ytoddbjmkdhaklaa.Open Go.Proofs.Ytoddbjmkdhaklaa.Plan Go.Proofs.Ytoddbjmkdhaklaa.Law05

theorem rep_ok (k : Nat) (h : Int) (h0 : 0 ≤ h) (h1 : h < 8) : Mem.homesOk (List.replicate k h) = true := by unfold Mem.homesOk; simp [h0, h1]
theorem rep_wd (k : Nat) (v : Int) (h0 : 0 ≤ v) (h1 : v < 4294967296) : Mem.Wd (List.replicate k v) := by intro x hx; rw [List.eq_of_mem_replicate hx]; exact ⟨h0, h1⟩
theorem rep_get (k : Nat) (v : Int) (i : Nat) (h : i < k) : (List.replicate k v).getD i 0 = v := by rw [getD_lt _ _ _ (by simpa using h), List.getElem_replicate]
set_option maxHeartbeats 8000000 in
set_option maxRecDepth 100000 in
theorem main (a b v : Int) (k : Nat) (h : Int) (w : World) (a0 : 0 ≤ a) (a1 : a < 256) (b0 : 0 ≤ b) (b1 : b < 256) (v0 : 0 ≤ v) (v1 : v < 4294967296) (hk : a % 100 = (k : Int)) (hh : b % 8 = h) :
    Calls Try.prog 3 #[.int .u8 a, .int .u8 b, .int .u32 v] w fun e w' => e = .returned (.bool true) ∧ Below w.heap.size w w' := by
  have k1 : k < 100 := by omega
  have h0 : 0 ≤ h := by omega
  have h8 : h < 8 := by omega
  have k1' : (k : Int) < 100 := by omega
  go_enter Try.func3, Try.ntmps3
  go_wp2_with fail
  refine (newPl _ 2).mono ?_
  rintro e w1 ⟨p, rfl, hp, c1⟩
  obtain ⟨S, hS, hS2, hp⟩ : ∃ S : Nat → Prop, (∀ b, S b → w.heap.size ≤ b) ∧ (∀ b, S b → b < w1.heap.size) ∧ Plan.O w1 p S 2 [] [] := ⟨_, fun b hb => hb.1, fun b hb => hb.2, hp⟩
  go_wp2_with fail
  refine (newPl _ 2).mono ?_
  rintro e w2 ⟨q, rfl, hq, c2⟩
  obtain ⟨R, hR, hR2, hq⟩ : ∃ S : Nat → Prop, (∀ b, S b → w1.heap.size ≤ b) ∧ (∀ b, S b → b < w2.heap.size) ∧ Plan.O w2 q S 2 [] [] := ⟨_, fun b hb => hb.1, fun b hb => hb.2, hq⟩
  have C2 := c1.trans (c2.mono c1.size)
  have z1 := c1.size
  have z2 := c2.size
  have K := rowPl _ _ _ _ _ _ (hp.below c2) (by decide) (k : Int) h v
  rw [show cnt (k : Int) = k by unfold cnt; omega, List.nil_append, List.nil_append] at K
  have HK := Lib.hid K
  have HKK := Lib.hid hk
  have HHH := Lib.hid hh
  clear K hp
  go_wp2_with fail
  refine HK.out.mono ?_
  rintro e w3 ⟨rfl, S1, hp3, u3, hS1⟩
  have hq3 := hq.keep u3 (fun b hb e => by have := hS2 b e; have := hR b hb; omega)
  have C3 := u3.below C2 C2.size hS
  have dis3 : ∀ b, R b → ¬ S1 b := fun b hb e => by
    rcases hS1 b e with e | e
    · have := hS2 b e; have := hR b hb; omega
    · have := hR2 b hb; omega
  have lo3 : ∀ b, S1 b → w.heap.size ≤ b := fun b hb => by
    rcases hS1 b hb with e | e
    · exact hS b e
    · omega
  clear hq u3
  go_wp2_with fail
  go_loopw [42] (fun i wr => ∃ j : Nat, j ≤ k ∧ i = .int .i64 j ∧ ∃ R1, Plan.O wr p S1 2 (List.replicate k h) (List.replicate k v) ∧ Plan.O wr q R1 2 (List.replicate j h) (List.replicate j v) ∧ (∀ b, R1 b → ¬ S1 b) ∧ (∀ b, R1 b → w.heap.size ≤ b) ∧ Below w.heap.size w wr) (fun i _ => k - (intOf i).toNat)
  case atStart => exact ⟨0, Nat.zero_le _, rfl, R, hp3, hq3, dis3, fun b hb => by have := hR b hb; omega, C3⟩
  case round =>
    obtain ⟨j, hj, rfl, R1, hpr, hqr, dis, lo, hbel⟩ := hrel
    by_cases hlt : j < k
    · have K := wordPl _ _ _ _ _ _ hqr (by simp; omega) h v
      rw [List.length_replicate, ← List.replicate_succ', ← List.replicate_succ'] at K
      have HK2 := Lib.hid K
      have hj' : (j : Int) < k := by omega
      have hbs := hbel.size
      clear K
      go_wp2_with fail
      refine HK2.out.mono ?_
      rintro e w4 ⟨rfl, R2, hq4, u4, hR2'⟩
      have hp4 := hpr.keep u4 (fun b hb e => dis b e hb)
      have C4 := u4.below hbel hbs lo
      go_wp2_with fail
      go_roundw
      case rel => exact ⟨j + 1, by omega, by go_num, R2, hp4, hq4, fun b hb e => by rcases hR2' b hb with x | x; exact dis b x e; have := hpr.lt b e; omega, fun b hb => by rcases hR2' b hb with x | x; exact lo b x; omega, C4⟩
      case measure => simp [intOf]; omega
    · obtain rfl : j = k := by omega
      have ok := rep_ok j h h0 h8
      have wd := rep_wd j v v0 v1
      have lnl : (List.replicate j v).length ≤ 4096 := by simp; omega
      have HK1 := Lib.hid (portPl _ _ _ 2 _ _ hpr lnl ok wd (by decide) (by decide))
      have hbs := hbel.size
      go_wp2_with fail
      refine HK1.out.mono ?_
      rintro e w5 ⟨x, rfl, hx, c5⟩
      have hq5 := hqr.below c5
      have HK2 := Lib.hid (portPl _ _ _ 2 _ _ hq5 lnl ok wd (by decide) (by decide))
      have hbs5 := c5.size
      go_wp2_with fail
      refine HK2.out.mono ?_
      rintro e w6 ⟨y, rfl, hy, c6⟩
      have hx6 := hx.below c6
      have C6 : Below w.heap.size w w6 := (hbel.trans (c5.mono hbs)).trans (c6.mono (by omega))
      obtain ⟨m1, T1, x0, hm1, -⟩ := hx6.step
      obtain ⟨m2, T2, y0, hm2, -⟩ := hy.step
      have xl := hx6.lt _ hx6.mem
      have yl := hy.lt _ hy.mem
      have KW1 := fun W (bb : Below w6.heap.size w6 W) => Mem.wordsO _ _ _ _ _ (hm1.below bb) lnl
      have KW2 := fun W (bb : Below w6.heap.size w6 W) => Mem.wordsO _ _ _ _ _ (hm2.below bb) lnl
      simp only [List.length_replicate] at KW1 KW2
      have HW1 := Lib.hid KW1
      have HW2 := Lib.hid KW2
      clear KW1 KW2 HK HK1 HK2
      go_wp2_with fail
      go_region_held3 (fun w' => w'.cell? ⟨x, 0, none⟩ = some (.pointer (some ⟨m1, 0, none⟩)) ∧ w'.cell? ⟨y, 0, none⟩ = some (.pointer (some ⟨m2, 0, none⟩))) ((first | exact ⟨x0, y0⟩ | exact ⟨x1, y1⟩ | exact ⟨x2, y2⟩))
        ((first
          | (go_at_call 9; have hh := c7'; refine (HW2.out _ hh).mono ?_; rintro e w8 ⟨rfl, row2, c8⟩; have c8' : Below w6.heap.size w6 w8 := hh.trans (c8.mono hh.size); have x2 := (c8'.cell (p := ⟨x, 0, none⟩) xl).trans x0; have y2 := (c8'.cell (p := ⟨y, 0, none⟩) yl).trans y0)
          | (go_at_call 9; refine (HW1.out _ (by first | exact below_drewN (Below.refl w6.heap.size w6) 1 | exact Below.refl _ _)).mono ?_; rintro e w7 ⟨rfl, row1, c7⟩; have c7' : Below w6.heap.size w6 w7 := (below_drewN (Below.refl w6.heap.size w6) 1).trans c7; have x1 := (c7'.cell (p := ⟨x, 0, none⟩) xl).trans x0; have y1 := (c7'.cell (p := ⟨y, 0, none⟩) yl).trans y0)))
      have r1 : Row w7 w6.heap.size (ints .u32 (List.replicate j v)) := row1
      have r1 := r1.below c8 r1.lt
      have hz7 := c7'.size
      have C8 : Below w.heap.size w w8 := C6.trans (c8'.mono C6.size)
      have xl8 := Nat.lt_of_lt_of_le xl c8'.size
      have yl8 := Nat.lt_of_lt_of_le yl c8'.size
      obtain ⟨H1, hH1⟩ : ∃ H, w6.heap.size = H := ⟨_, rfl⟩
      obtain ⟨H2, hH2⟩ : ∃ H, w7.heap.size = H := ⟨_, rfl⟩
      rw [hH1] at r1 ⊢
      rw [hH2] at row2 ⊢
      have hm18 := hm1.below c8'
      have hm28 := hm2.below c8'
      clear hH1 hH2 row1 c7 c7' c8 c8' x0 y0 x1 y1 hh HW1 HW2 hx hx6 hy hq5 hm1 hm2
      go_wp2_with fail
      go_loopw [98] (fun i wi => ∃ i' : Nat, i' ≤ j ∧ i = .int .i64 i' ∧ Below w8.heap.size w8 wi) (fun i _ => j - (intOf i).toNat)
      case atStart => exact ⟨0, Nat.zero_le _, rfl, Below.refl _ _⟩
      case round =>
        obtain ⟨i, hi, rfl, b9⟩ := hrel
        by_cases hi2 : i < j
        · have hi' : (i : Int) < j := by omega
          have d1 := (r1.below b9 r1.lt).cell (ints_get (k := .u32) (i := i) (xs := List.replicate j v) (by simpa using hi2))
          have d2 := (row2.below b9 row2.lt).cell (ints_get (k := .u32) (i := i) (xs := List.replicate j v) (by simpa using hi2))
          rw [rep_get j v i hi2] at d1 d2
          have e1 := (b9.cell (p := ⟨x, 0, none⟩) xl8).trans x2
          have e2 := (b9.cell (p := ⟨y, 0, none⟩) yl8).trans y2
          have K1 := Mem.homeO _ _ _ _ _ (hm18.below b9) (i : Int)
          have K2 := Mem.homeO _ _ _ _ _ (hm28.below b9) (i : Int)
          rw [Mem.get_in rfl (by simp [Mem.inB]; omega), rep_get j h i hi2] at K1 K2
          have HA := Lib.hid K1
          have HB := Lib.hid K2
          clear K1 K2 x2 y2
          go_wp2_with fail
          refine HA.out.mono ?_
          rintro e w9 ⟨rfl, rfl⟩
          go_wp2_with fail
          refine HB.out.mono ?_
          rintro e w9 ⟨rfl, rfl⟩
          go_wp2_with fail
          go_roundw
          case rel => exact ⟨i + 1, by omega, by go_num, b9⟩
          case measure => simp [intOf]; omega
        · have C9 := C8.trans (b9.mono C8.size)
          go_wp2_with fail
          refine (awake _).mono ?_
          rintro e wz ⟨rfl, uz⟩
          go_wp2
          go_ret
          exact ⟨rfl, C9.trans (uz.mono C9.size)⟩
theorem walk (a b v : Int) (w : World) (ha : (Lit.int .u8 a).wf = true) (hb : (Lit.int .u8 b).wf = true) (hv : (Lit.int .u32 v).wf = true) :
    Calls Try.prog 3 #[.int .u8 a, .int .u8 b, .int .u32 v] w fun e w' => e = .returned (.bool true) ∧ Below w.heap.size w w' := by
  have ha' : 0 ≤ a ∧ a < 256 := by simp [Lit.wf, IntKind.min, IntKind.max, IntKind.bits, IntKind.signed] at ha; omega
  have hb' : 0 ≤ b ∧ b < 256 := by simp [Lit.wf, IntKind.min, IntKind.max, IntKind.bits, IntKind.signed] at hb; omega
  have hv' := wf_u32 hv
  exact main a b v (a % 100).toNat (b % 8) w ha'.1 ha'.2 hb'.1 hb'.2 hv'.1 hv'.2 (by omega) rfl
end Go.Proofs.Ytoddbjmkdhaklaa.WalkPlanRows
