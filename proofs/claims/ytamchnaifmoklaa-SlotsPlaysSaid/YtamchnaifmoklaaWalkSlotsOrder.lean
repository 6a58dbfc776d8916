/- The law SlotsOrder, walked. -/
import Derived.Test.YtamchnaifmoklaaOrd
import Derived.Test.YtamchnaifmoklaaSlotsP
import Derived.Test.YtamchnaifmoklaaLaw11
import Derived.Test.YtamchnaifmoklaaOps10
namespace Go.Proofs.Ytamchnaifmoklaa.WalkSlotsOrder
open Go Go.RowKit Go.Proofs.Ytamchnaifmoklaa.Heap Go.Proofs.Ytamchnaifmoklaa.Open Go.Proofs.Ytamchnaifmoklaa.Seat Go.Proofs.Ytamchnaifmoklaa.Mach Go.Proofs.Ytamchnaifmoklaa.Has Go.Proofs.Ytamchnaifmoklaa.Lk Go.Proofs.Ytamchnaifmoklaa.Slots Go.Proofs.Ytamchnaifmoklaa.Pack Go.Proofs.Ytamchnaifmoklaa.StepU Go.Proofs.Ytamchnaifmoklaa.Law11

theorem home3 (hs : List Int) (n1 : 1 ≤ hs.length) (m : Nat) (h : Mem.homesOk hs = true) : Mem.homesOk ([] ++ [hs.getD 0 0] ++ homesOf hs m) = true := by
  unfold Mem.homesOk at h ⊢
  rw [List.all_eq_true] at h ⊢
  have g : ∀ i, i < hs.length → hs.getD i 0 ∈ hs := fun i hi => by rw [getD_lt _ _ _ hi]; exact List.getElem_mem hi
  intro y hy
  simp only [List.nil_append, List.cons_append, List.mem_cons, homesOf, List.mem_map] at hy
  rcases hy with rfl | ⟨i, _, rfl⟩
  · exact h _ (g 0 (by omega))
  · exact h _ (g _ (Nat.mod_lt _ (by omega)))
theorem wd3 (x kn : Int) (m : Nat) (hx : 0 ≤ x ∧ x < 4294967296) : Mem.Wd ([] ++ [x] ++ flags kn x m) := by
  intro y hy
  simp only [List.nil_append, List.cons_append, List.mem_cons, flags, List.mem_map] at hy
  rcases hy with rfl | ⟨i, _, rfl⟩
  · exact hx
  · split <;> omega
set_option maxHeartbeats 4000000 in
theorem walk (v : Value) (z : List Int × List (List Int)) (w : World) (h : ∃ hv m x ov, v = .agg #[hv, .int .u8 m, .int .u32 x, ov] ∧ (Lit.int .u8 m).wf = true ∧ (Lit.int .u32 x).wf = true ∧ Src1 w hv .i64 z.1 ∧ I64s w ov 4 z.2) :
    Calls Try.prog 6 #[v] w fun e w' => e = .returned (.bool true) ∧ Below w.heap.size w w' := by
  obtain ⟨v, mi, x, v2, rfl, hm8, hx, h0, h2⟩ := h
  obtain ⟨hs, xs⟩ := z
  have hmb := bounds_u8 hm8
  have hxb := wf_u32 hx
  dsimp only at h0 h2
  clear hm8 hx
  have h2k := h2
  obtain ⟨⟨ao, cap, rfl, hlc, -, -⟩, -⟩ := h2
  have HF := Lib.hid (fun w' (hb : Below w.heap.size w w') => fine w' v hs (h0.below hb) ao xs.length cap)
  have HSI := Lib.hid (fun w' => size_all mi w')
  have hB1 : Below w.heap.size w (w.alloc (.cells #[v, .int .u8 mi, .int .u32 x, .slice ao xs.length cap] 44)) := (Below.refl _ _).alloc (Nat.le_refl _) _
  have hR1 : Row (w.alloc (.cells #[v, .int .u8 mi, .int .u32 x, .slice ao xs.length cap] 44)) w.heap.size [v, .int .u8 mi, .int .u32 x, .slice ao xs.length cap] := Row.new' rfl
  have HSRC := Lib.hid h0
  have HOPS := Lib.hid h2k
  clear h2k
  obtain ⟨a, c, rfl, -, -⟩ := h0
  obtain ⟨W1, hW⟩ : ∃ W1, w.alloc (.cells #[.slice a hs.length c, .int .u8 mi, .int .u32 x, .slice ao xs.length cap] 44) = W1 := ⟨_, rfl⟩
  obtain ⟨D, hD⟩ : ∃ D, w.heap.size = D := ⟨_, rfl⟩
  rw [hW] at hB1 hR1
  rw [hD] at hR1
  have HW := Lib.hid hW
  have HD := Lib.hid hD
  have HB1 := Lib.hid hB1
  have y0 := hR1.cell (i := 0) rfl
  have y1 := hR1.cell (i := 1) rfl
  have y2 := hR1.cell (i := 2) rfl
  have y3 := hR1.cell (i := 3) rfl
  clear hW hD hB1 hR1
  cases hf : fineB hs xs.length with
  | false =>
    rw [hf] at HF
    clear hf
    go_enter Try.func6, Try.ntmps6
    go_upto_region 1 with (fail)
    rw [HW.out, HD.out]
    go_wp2_with fail
    go_quiet (fail)
    obtain ⟨W2, hW2⟩ : ∃ W2, W1.drewN nq = W2 := ⟨_, rfl⟩
    have hB0 : Below w.heap.size w W2 := by rw [← hW2]; exact below_drewN HB1.out nq
    (try rw [hW2])
    clear hW2
    go_wp2_with fail
    refine (HF.out _ hB0).mono ?_
    rintro e w' ⟨rfl, rfl⟩
    go_wp2_with fail
    refine (awake _).mono ?_
    rintro e w4 ⟨rfl, u4⟩
    go_wp2_with fail
    go_ret
    exact ⟨rfl, hB0.trans (u4.mono hB0.size)⟩
  | true =>
  cases hs7 : sizeB mi with
  | false =>
    rw [hf] at HF
    rw [hs7] at HSI
    clear hf hs7
    go_enter Try.func6, Try.ntmps6
    go_upto_region 1 with (fail)
    rw [HW.out, HD.out]
    go_wp2_with fail
    go_quiet (fail)
    obtain ⟨W2, hW2⟩ : ∃ W2, W1.drewN nq = W2 := ⟨_, rfl⟩
    have hB0 : Below w.heap.size w W2 := by rw [← hW2]; exact below_drewN HB1.out nq
    (try rw [hW2])
    clear hW2
    go_wp2_with fail
    refine (HF.out _ hB0).mono ?_
    rintro e w' ⟨rfl, rfl⟩
    go_wp2_with fail
    refine (HSI.out _).mono ?_
    rintro e w' ⟨rfl, rfl⟩
    go_wp2_with fail
    refine (awake _).mono ?_
    rintro e w4 ⟨rfl, u4⟩
    go_wp2_with fail
    go_ret
    exact ⟨rfl, hB0.trans (u4.mono hB0.size)⟩
  | true =>
  by_cases hml : mi < (hs.length : Int)
  · rw [hf] at HF
    rw [hs7] at HSI
    clear hf hs7
    go_enter Try.func6, Try.ntmps6
    go_upto_region 1 with (fail)
    rw [HW.out, HD.out]
    go_wp2_with fail
    go_quiet (fail)
    obtain ⟨W2, hW2⟩ : ∃ W2, W1.drewN nq = W2 := ⟨_, rfl⟩
    have hB0 : Below w.heap.size w W2 := by rw [← hW2]; exact below_drewN HB1.out nq
    (try rw [hW2])
    clear hW2
    go_wp2_with fail
    refine (HF.out _ hB0).mono ?_
    rintro e w' ⟨rfl, rfl⟩
    go_wp2_with fail
    refine (HSI.out _).mono ?_
    rintro e w' ⟨rfl, rfl⟩
    go_wp2_with fail
    refine (awake _).mono ?_
    rintro e w4 ⟨rfl, u4⟩
    go_wp2_with fail
    go_ret
    exact ⟨rfl, hB0.trans (u4.mono hB0.size)⟩
  · obtain ⟨n1, n8, hok, hl⟩ := fineB_true hf
    have hsz := (sizeB_iff mi).1 hs7
    obtain ⟨m, hm⟩ : ∃ m : Nat, (m : Int) = mi := ⟨mi.toNat, by omega⟩
    have hnm : hs.length ≤ m := by omega
    rw [← hm] at hsz
    have HM := Lib.hid hm
    rw [hf] at HF
    rw [hs7] at HSI
    have hml' : (hs.length : Int) ≤ mi := by omega
    clear hf hs7 hml hm
    go_enter Try.func6, Try.ntmps6
    go_upto_region 1 with (fail)
    rw [HW.out, HD.out]
    go_wp2_with fail
    go_quiet (fail)
    obtain ⟨W2, hW2⟩ : ∃ W2, W1.drewN nq = W2 := ⟨_, rfl⟩
    have hB0 : Below w.heap.size w W2 := by rw [← hW2]; exact below_drewN HB1.out nq
    (try rw [hW2])
    clear hW2
    go_wp2_with fail
    refine (HF.out _ hB0).mono ?_
    rintro e w' ⟨rfl, rfl⟩
    go_wp2_with fail
    refine (HSI.out _).mono ?_
    rintro e w' ⟨rfl, rfl⟩
    go_wp2_with fail
    refine (Plan.newPl _ hs.length).mono ?_
    rintro e w1 ⟨pl, rfl, hpl, hB1'⟩
    have hB1 := hB0.trans (hB1'.mono hB0.size)
    have hz1 := hB1.size
    have hz0 := hB0.size
    have hz1' := hB1'.size
    go_wp2_with fail
    have KN := Slots.new_yes w1 pl (Mem.Btw W2 w1) hs.length [] [] hpl (by decide) (.slice a hs.length c) hs m x hxb (HSRC.out.below hB1) n1 (by omega) hok (by
      intro b hb h
      obtain ⟨_, _, hv, -, hcell⟩ := HSRC.out
      simp at hv
      obtain ⟨rfl, rfl⟩ := hv
      obtain ⟨b', off, rfl, hbw, -⟩ := hcell (by omega)
      simp [Value.ownBlock] at hb
      have := h.1; omega) hnm hsz
    rw [HM.out] at KN
    have HKN := Lib.hid KN
    clear KN
    refine HKN.out.mono ?_
    rintro e w2 ⟨l, s, lb, pb, rfl, ha, ⟨S', hp2, hS', s1, s2, s3, s4⟩, b1, b2, b3, b4, hu2⟩
    have hB2 : Below w.heap.size w w2 := hu2.below hB1 hz1 (fun i hi => by have := hi.1; omega)
    have hz2 := hB2.size
    go_wp2_with fail
    refine (Plan.portPl _ pl S' hs.length _ _ hp2 (by simp [flags]; have := size_pos hsz; omega) (home3 hs n1 m hok) (wd3 x mi m hxb) n1 (by omega)).mono ?_
    rintro e w3 ⟨p, rfl, hpo, hB3⟩
    have ha3 := ha.keep (Upd.of_below (S := fun _ => False) hB3) id id id id
    have hB4 := hB2.trans (hB3.mono hz2)
    have sep : ¬ Mem.Btw w2 w3 l ∧ ¬ Mem.Btw w2 w3 s ∧ ¬ Mem.Btw w2 w3 lb ∧ ¬ Mem.Btw w2 w3 pb :=
      ⟨fun h => by have := ha.top.lt; have := h.1; omega, fun h => by have := ha.seat.top.lt; have := h.1; omega, fun h => by have := ha.seat.row.lt; have := h.1; omega, fun h => by have := ha.plc.lt; have := h.1; omega⟩
    have hft : ∀ i, ft l s lb pb (Mem.Btw w2 w3) i → w.heap.size ≤ i := by
      intro i hi
      rcases hi with hi | rfl | rfl | rfl | rfl
      · have := hi.1; omega
      all_goals omega
    rw [← HM.out] at ha3 hpo
    have KU : Calls Try.prog 19 #[.pointer (some ⟨l, 0, none⟩), .pointer (some ⟨p, 0, none⟩)] w3 fun e w' => e = .returned (.tuple #[]) ∧ (O l s lb pb p (Mem.Btw w2 w3) hs.length ([] ++ [hs.getD 0 0] ++ homesOf hs m) 0 m w' 0 (st0 hs.length ([] ++ [x] ++ flags m x m)) ∧ (st0 hs.length ([] ++ [x] ++ flags m x m)).seats.length = hs.length) ∧ Upd (ft l s lb pb (Mem.Btw w2 w3)) w3 w' := by
      refine (useO ha3 hpo sep).mono ?_
      rintro e w' ⟨he, ho, hu⟩
      exact ⟨he, ⟨ho, by simp [st0]⟩, hu⟩
    have KO := ordered (mach hs.length) n8 (SlotsP.ql hs.length m x).keeps p (st0 hs.length ([] ++ [x] ++ flags m x m)) ⟨none, SlotsP.start hs.length m hnm hsz x hxb⟩ _ xs hl w w3 HOPS.out hB4 hft KU
    have HKO := Lib.hid KO
    clear KO KU ha ha3 hpo hp2 hpl hu2 hB1
    unfold val at HKO
    go_wp2_with fail
    refine HKO.out.mono ?_
    rintro e w4 ⟨rfl, hB5⟩
    go_wp2_with fail
    refine (awake _).mono ?_
    rintro e w5 ⟨rfl, u5⟩
    go_wp2_with fail
    go_ret
    exact ⟨rfl, hB5.trans (u5.mono hB5.size)⟩
end Go.Proofs.Ytamchnaifmoklaa.WalkSlotsOrder
