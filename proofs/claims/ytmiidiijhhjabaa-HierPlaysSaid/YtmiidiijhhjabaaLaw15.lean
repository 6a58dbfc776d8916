/- Layer 15 (hier): the laws' own helpers, walked. -/
import Derived.Test.YtmiidiijhhjabaaHier3
namespace Go.Proofs.Ytmiidiijhhjabaa.Law15
open Go Go.RowKit Go.Proofs.Ytmiidiijhhjabaa.Heap Go.Proofs.Ytmiidiijhhjabaa.Open Go.Proofs.Ytmiidiijhhjabaa.Seat Go.Proofs.Ytmiidiijhhjabaa.Mach Go.Proofs.Ytmiidiijhhjabaa.Has Go.Proofs.Ytmiidiijhhjabaa.Lk Go.Proofs.Ytmiidiijhhjabaa.StepU Go.Proofs.Ytmiidiijhhjabaa.Hier

/-- The homes of a new lock's words. -/
def hh (hs : List Int) : List Int := [] ++ [hs.getD 0 0] ++ idx 8 ++ hs ++ [hs.getD 0 0]
theorem ok_app (a b : List Int) : Mem.homesOk (a ++ b) = (Mem.homesOk a && Mem.homesOk b) := by simp [Mem.homesOk]
theorem hh_ok (hs : List Int) (n1 : 1 ≤ hs.length) (h : Mem.homesOk hs = true) : Mem.homesOk (hh hs) = true := by
  have h1 : Mem.homesOk [hs.getD 0 0] = true := by
    have hm : hs.getD 0 0 ∈ hs := by rw [getD_lt _ _ _ (by omega)]; exact List.getElem_mem _
    unfold Mem.homesOk at h ⊢
    rw [List.all_eq_true] at h
    rw [List.all_cons, h _ hm]; rfl
  have h2 : Mem.homesOk (idx 8) = true := by decide
  have h3 : Mem.homesOk [] = true := rfl
  unfold hh
  rw [ok_app, ok_app, ok_app, ok_app, h1, h2, h, h3]; rfl
theorem ws_wd (n : Nat) (hn : n ≤ 64) : Mem.Wd ([] ++ [(n : Int) + 1] ++ List.replicate 8 0 ++ List.replicate n 0 ++ [4294967292]) := by
  intro y hy
  simp only [List.nil_append, List.mem_append, List.mem_singleton, List.mem_replicate] at hy
  omega
/-- Use, then the lock and the port are one. -/
theorem useO {l s lb pb cap p : Nat} {SP : Nat → Prop} {k : Nat} {hs : List Int} {tl : Int} {w : World} {sl : List (Int × Int)} {pl : List P} {ws : List Int} {pv : Value} (h : At w l s lb pb cap pv tl sl pl) (hp : Port.O w p SP k ws hs [])
    (hsep : ¬ SP l ∧ ¬ SP s ∧ ¬ SP lb ∧ ¬ SP pb) :
    Calls Try.prog 35 #[.pointer (some ⟨l, 0, none⟩), .pointer (some ⟨p, 0, none⟩)] w fun e w' => e = .returned (.tuple #[]) ∧ O l s lb pb cap p SP k hs tl w' 0 ⟨sl, pl, ws, []⟩ ∧ Upd (ft l s lb pb SP) w w' :=
  (useC w pv sl pl h).mono fun e w' ⟨he, ha, hu⟩ => ⟨he, ⟨ha, hp.keep hu (fun i hi e => hsep.1 (e ▸ hi)), Nat.le_refl _, hsep⟩, hu.mono fun i _ e => by rw [e]; simp [ft]⟩
/-- A new lock as an object, with all that the laws need of it. -/
structure Made (w w' : World) (hs : List Int) (l s lb pb cap p : Nat) (SP : Nat → Prop) : Prop where
  obj : O l s lb pb cap p SP hs.length (hh hs) 0 w' 0 (st0 hs ([] ++ [(hs.length : Int) + 1] ++ List.replicate 8 0 ++ List.replicate hs.length 0 ++ [4294967292]))
  ge : ∀ i, ft l s lb pb SP i → w.heap.size ≤ i
  bel : Below w.heap.size w w'
set_option maxHeartbeats 4000000 in
theorem madeC (w : World) (v : Value) (hs : List Int) (h0 : Src1 w v .i64 hs) (n1 : 1 ≤ hs.length) (n2 : hs.length ≤ 64) (hok : Mem.homesOk hs = true) :
    Calls Try.prog 17 #[v] w fun e w' => ∃ l s lb pb cap p SP, e = .returned (.tuple #[.pointer (some ⟨l, 0, none⟩), .pointer (some ⟨p, 0, none⟩)]) ∧ Made w w' hs l s lb pb cap p SP := by
  have HSRC := Lib.hid h0
  obtain ⟨a, c, rfl, -, hcell⟩ := h0
  obtain ⟨hb, off, rfl, hbw, hcell⟩ := hcell (by omega)
  clear hcell
  go_enter Try.func17, Try.ntmps17
  go_wp2_with fail
  refine (Plan.newPl _ hs.length).mono ?_
  rintro e w1 ⟨pl, rfl, hpl, hB1⟩
  have hz1 := hB1.size
  go_wp2_with fail
  refine (Hier.new_yes _ pl (Mem.Btw w w1) hs.length [] [] hpl (by decide) _ hs (HSRC.out.below hB1) n1 n2 hok (by
    intro b hb9 h
    simp [Value.ownBlock] at hb9
    have := h.1; omega)).mono ?_
  rintro e w2 ⟨l, s, lb, pb, cap', rfl, ha, ⟨S', hp2, hS', s1, s2, s3, s4⟩, b1, b2, b3, b4, hu2⟩
  have hB2 : Below w.heap.size w w2 := hu2.below hB1 hz1 (fun i hi => hi.1)
  have hz2 := hB2.size
  go_wp2_with fail
  refine (Plan.portPl _ pl S' hs.length _ _ hp2 (by simp; omega) (hh_ok hs n1 hok) (ws_wd hs.length n2) n1 (by omega)).mono ?_
  rintro e w3 ⟨p, rfl, hpo, hB3⟩
  have ha3 := ha.keep (Upd.of_below (S := fun _ => False) hB3) id id id id
  have hB4 := hB2.trans (hB3.mono hz2)
  have sep : ¬ Mem.Btw w2 w3 l ∧ ¬ Mem.Btw w2 w3 s ∧ ¬ Mem.Btw w2 w3 lb ∧ ¬ Mem.Btw w2 w3 pb :=
    ⟨fun h => by have := ha.top.lt; have := h.1; omega, fun h => by have := ha.seat.top.lt; have := h.1; omega, fun h => by have := ha.seat.row.lt; have := h.1; omega, fun h => by have := ha.plc.lt; have := h.1; omega⟩
  have hft : ∀ i, ft l s lb pb (Mem.Btw w2 w3) i → w.heap.size ≤ i := by
    intro i hi
    rcases hi with hi | rfl | rfl | rfl | rfl
    · have := hi.1; omega
    all_goals omega
  have HU := Lib.hid (useO ha3 hpo sep)
  clear ha ha3 hpo hp2 hpl hu2 hB1
  go_wp2_with fail
  refine HU.out.mono ?_
  rintro e w4 ⟨rfl, ho, hu⟩
  go_wp2_with fail
  go_ret2
  exact ⟨l, s, lb, pb, cap', p, Mem.Btw w2 w3, rfl, ho, hft, hu.below hB4 hB4.size hft⟩
theorem neq_did (b1 b2 : Bool) (w : World) : (binOp .neq 50 (.agg #[.int .i64 0, .bool b1, .bool b2, .bool false]) (.agg #[.int .i64 0, .bool b1, .bool b2, .bool false])).run Try.prog w = .ok (.bool false) w := by
  cases b1 <;> cases b2 <;> kernel_rfl
theorem did_lead (w : World) : (binOp .eql 50 (.agg #[.int .i64 1, .bool false, .bool false, .bool true]) (.agg #[.int .i64 1, .bool false, .bool false, .bool true])).run Try.prog w = .ok (.bool true) w := by kernel_rfl
/-- The example's states. -/
def ex0 : St := setS (st0 [3] ([] ++ [((1 : Nat) : Int) + 1] ++ List.replicate 8 0 ++ List.replicate 1 0 ++ [4294967292])) [(1, -1)]
def ex : Nat → St
  | 0 => ex0
  | j + 1 => (Hier.step 1 0 (ex j) 0 0 0).2
set_option maxHeartbeats 8000000 in
theorem awake (w : World) : Calls Try.prog 8 #[] w fun e w' => e = .returned (.bool true) ∧ Below w.heap.size w w' := by
  go_enter Try.func8, Try.ntmps8
  go_wp2_with fail
  refine (madeC _ _ [3] (src_lit _ .i64 [3] _ _ _ _ _ rfl rfl rfl) (by decide) (by decide) (by decide)).mono ?_
  rintro e w1 ⟨l, s, lb, pb, cap, p, SP, rfl, hM⟩
  have hB1 : Below w.heap.size w w1 := ((Below.refl _ _).alloc (Nat.le_refl _) _).trans (hM.bel.mono (by simp))
  have hft : ∀ i, ft l s lb pb SP i → w.heap.size ≤ i := fun i hi => by have := hM.ge i hi; simp at this; omega
  have M := mach (l := l) (s := s) (lb := lb) (pb := pb) (cap := cap) (p := p) (SP := SP) (k := 1) (hs := hh [3]) (tl := 0) 1
  have h1 : O l s lb pb cap p SP 1 (hh [3]) 0 w1 0 (st0 [3] ([] ++ [((1 : Nat) : Int) + 1] ++ List.replicate 8 0 ++ List.replicate 1 0 ++ [4294967292])) ∧ (st0 [3] ([] ++ [((1 : Nat) : Int) + 1] ++ List.replicate 8 0 ++ List.replicate 1 0 ++ [4294967292])).seats.length = 1 := ⟨hM.obj, rfl⟩
  have c1 := M.ptr h1
  have KL := M.lockC h1 0 (-1)
  rw [show lock (St.seats (st0 [3] ([] ++ [((1 : Nat) : Int) + 1] ++ List.replicate 8 0 ++ List.replicate 1 0 ++ [4294967292]))) false 0 (-1) = (0, [(1, -1)]) by decide +kernel] at KL
  have HKL := Lib.hid KL
  clear KL hM
  go_wp2_with fail
  refine HKL.out.mono ?_
  rintro e w2 ⟨rfl, h2, hu2⟩
  have hB2 := hu2.below hB1 hB1.size hft
  have h2 : O l s lb pb cap p SP 1 (hh [3]) 0 w2 0 (ex 0) := h2.1
  clear h1 c1 hu2 hB1 HKL M
  go_wp2_with fail
  go_loopw [20] (fun i wr => ∃ j : Nat, j ≤ 6 ∧ i = .int .i64 j ∧ O l s lb pb cap p SP 1 (hh [3]) 0 wr j (ex j) ∧ Below w.heap.size w wr) (fun i _ => 6 - (intOf i).toNat)
  case atStart => exact ⟨0, Nat.zero_le _, rfl, h2, hB2⟩
  case round =>
    clear h2 hB2
    obtain ⟨j, hj, rfl, h3, hB3⟩ := hrel
    have KS := stepC h3 (by omega) 0 0 0
    by_cases hlt : j < 6
    · have hD : ∃ b1 b2, (Hier.step 1 0 (ex j) 0 0 0).1 = (0, b1, b2, false) ∧ b1 = decide (j = 1) ∧ b2 = decide (j = 3) := by
        rcases (show j = 0 ∨ j = 1 ∨ j = 2 ∨ j = 3 ∨ j = 4 ∨ j = 5 by omega) with rfl | rfl | rfl | rfl | rfl | rfl <;> exact ⟨_, _, by decide +kernel, rfl, rfl⟩
      obtain ⟨b1, b2, hd, e1, e2⟩ := hD
      rw [hd] at KS
      have HKS : Hid (Calls Try.prog 20 #[.pointer (some ⟨l, 0, none⟩), .int .i64 0, .int .i64 0, .int .i64 0] wr fun e w' => e = .returned (didv (0, b1, b2, false)) ∧ O l s lb pb cap p SP 1 (hh [3]) 0 w' (j + 1) (ex (j + 1)) ∧ Upd (ft l s lb pb SP) wr w') := Lib.hid KS
      have f1 : ((j : Int) == 1) = b1 := by rw [e1]; by_cases e : j = 1 <;> simp [e]; omega
      have f3 : ((j : Int) == 3) = b2 := by rw [e2]; by_cases e : j = 3 <;> simp [e]; omega
      have hlt' : (j : Int) < 6 := by omega
      have NQ := neq_did b1 b2
      clear KS hd h3 e1 e2
      go_wp2_with fail
      refine HKS.out.mono ?_
      rintro e w4 ⟨rfl, h4, hu4⟩
      have hB4 := hu4.below hB3 hB3.size hft
      unfold didv
      clear HKS
      go_wp2_with fail
      go_roundw
      case rel => exact ⟨j + 1, by omega, by go_num, h4, hB4⟩
      case measure => simp [intOf]; omega
    · have HJ6 := Lib.hid (show j = 6 by omega)
      have hge : (6 : Int) ≤ (j : Int) := by omega
      rw [show (Hier.step 1 0 (ex j) 0 0 0).1 = (1, false, false, true) by rw [HJ6.out]; decide +kernel] at KS
      have HKS := Lib.hid KS
      have EQ := did_lead
      clear KS h3
      go_wp2_with fail
      refine HKS.out.mono ?_
      rintro e w4 ⟨rfl, h4, hu4⟩
      have hB4 := hu4.below hB3 hB3.size hft
      unfold didv
      go_wp2_with fail
      go_ret
      exact ⟨rfl, hB4⟩
end Go.Proofs.Ytmiidiijhhjabaa.Law15
