/- The law SectionRuns, walked: the cells behind any section are what the document says; step by step, too. -/
import Derived.Test.YtpagebcokikmkaaSecG
import Derived.Test.YtpagebcokikmkaaSecO
import Derived.Deep.MidRow
import Derived.Deep.CutRange
import Derived.Deep.DeepMust
namespace Go.Proofs.Ytpagebcokikmkaa.WalkSectionRuns
open Go Go.RowKit Go.Deep Go.Proofs.Ytpagebcokikmkaa.Heap Go.Proofs.Ytpagebcokikmkaa.Open Go.Proofs.Ytpagebcokikmkaa.Sec

/-- The cells c, and all that is older than W0, are as they were. -/
def Sx (C : Nat) (cs : List Int) (W0 w' : World) : Prop := Row w' C (ints .u32 cs) ∧ Below W0.heap.size W0 w'
theorem Sx.go {C : Nat} {cs : List Int} {W0 w' w'' : World} {U : Nat → Prop} (h : Sx C cs W0 w') (u : Upd U w' w'') (hC : C < W0.heap.size) (hU : ∀ i, U i → W0.heap.size ≤ i) : Sx C cs W0 w'' :=
  ⟨h.1.upd u (fun e => by have := hU C e; omega), u.below h.2 h.2.size hU⟩
theorem Sx.range {C : Nat} {cs : List Int} {W0 w' : World} (h : Sx C cs W0 w') : w'.rangeAt C 0 (ints .u32 cs) := fun j x hj => by rw [Nat.zero_add]; exact h.1.cell hj
theorem wpList_load_g {P : Program} {ops : Array Oper} {rest : List Oper} {o : Oper} {a : Act} {w : World} {Q : Exit → Act → World → Prop} (hw : Region.wanted o (yielded ops a.tmps) = true) (ty : TypeId) (x : Operand) (ho : o.op = .load ty x)
    (g : Nat) (hx : a.eval x = .pointer (some ⟨g, 0, none⟩)) {l : List Value} (hg : Row w g l) (d : TypeDesc) (hu : P.underlying ty = some d) (hd : (match d with | .struct _ | .array _ _ => true | _ => false) = true)
    (hi : (P.info? ty).map (·.size) = some l.length) (h : wpList P ops Q rest (a.put o.dst (.agg l.toArray)) w) : wpList P ops Q (o :: rest) a w := by
  obtain ⟨T, hT⟩ := id hg
  exact wpList_step fun K hK => by rw [if_pos hw]; exact wp_load_row ty x ho g hx T _ (0, 0) d hT hu hd (by simpa using hi) (hK _ _ h)
theorem fine_may {xs : List D} (h : fine xs = true) : (∀ x ∈ xs, x.may = true) ∧ xs.length ≤ 64 := by
  simp only [fine, Bool.and_eq_true, List.all_eq_true, decide_eq_true_eq] at h; exact h
theorem doneC {w : World} {r : Nat} {v : Value} {xs : List D} {k : Nat} {n : Int} (h : RunAt w r v xs k n) : Calls Try.prog 13 #[.pointer (some ⟨r, 0, none⟩)] w fun e w' => e = .returned (.int .i64 k) ∧ w = w' := by
  have c1 := h.top.cell (i := 1) rfl
  go_enter Try.func13, Try.ntmps13
  go_wp2
  go_ret
  exact ⟨rfl, rfl⟩
theorem leftC {w : World} {r : Nat} {v : Value} {xs : List D} {k : Nat} {n : Int} (h : RunAt w r v xs k n) (hk : k ≤ xs.length) (h64 : xs.length ≤ 64) : Calls Try.prog 14 #[.pointer (some ⟨r, 0, none⟩)] w fun e w' => e = .returned (.int .i64 ((xs.length : Int) - k)) ∧ ∃ m, w' = w.drewN m := by
  obtain ⟨a, c, rfl⟩ := owned_len h.own
  have c0 := h.top.cell (i := 0) rfl
  have c1 := h.top.cell (i := 1) rfl
  have hw : IntKind.i64.wrap ((xs.length : Int) - k) = (xs.length : Int) - k := IntWalk.i64_in _ (by omega)
  go_enter Try.func14, Try.ntmps14
  go_wp2_with fail
  go_quiet (fail)
  all_goals
    go_wp2_with fail
    go_ret
    exact ⟨rfl, _, rfl⟩
set_option maxHeartbeats 16000000 in
set_option maxRecDepth 20000 in
theorem walk (vc : Value) (cs : List Int) (va : Value) (xs : List D) (w : World) (hc : CellsIn vc cs) (ha : DeedsIn w va xs) :
    Calls Try.prog 5 #[vc, va] w fun e w' => e = .returned (.bool true) ∧ Below w.heap.size w w' := by
  obtain ⟨rfl, h16⟩ := hc
  obtain ⟨aa, ca, rfl⟩ := ha.src.len
  have hcl : (ints .u32 cs).length = 16 := by rw [ints_len]; exact h16
  have B0 : Below w.heap.size w (w.alloc (.cells (ints .u32 cs).toArray 24)) := (Below.refl _ _).alloc (Nat.le_refl _) _
  obtain ⟨C, hC⟩ : ∃ C, w.heap.size = C := ⟨_, rfl⟩
  go_enter Try.func5, Try.ntmps5
  go_wp2_with fail
  refine (fine_all _ _ xs (ha.1.below B0)).mono ?_
  rintro e w1 ⟨rfl, u1⟩
  have B1 : Below w.heap.size w w1 := B0.trans (u1.none.mono (by simp))
  have C1 : Row w1 w.heap.size (ints .u32 cs) := (Row.new' rfl).upd u1 id
  clear u1 B0
  cases hfa : fine xs
  · clear ha C1 hfa
    go_wp2_with fail
    refine (awake _).mono ?_
    rintro e w4 ⟨rfl, u4⟩
    go_wp2_with fail
    go_ret
    exact ⟨rfl, B1.trans (u4.mono B1.size)⟩
  obtain ⟨hma, h64⟩ := fine_may hfa
  rw [hC] at C1
  have HCW : Hid (C < w1.heap.size) := Lib.hid C1.lt
  have hfx : xs.length * 24 ≤ 140737488351232 := by omega
  have HD1 := Lib.hid (ha.1.below B1)
  have HSX := Lib.hid (ha.src.cellsIn B1)
  have hi24 : (Try.prog.info? 24).map (·.size) = some (ints .u32 cs).length := by rw [hcl]; exact info24
  have hu24 := Try.underlying24
  have hu23 := Try.underlying23
  obtain ⟨X, hX⟩ : ∃ X, (runs (cs, 0) xs).1 = X := ⟨_, rfl⟩
  obtain ⟨xx, hxx⟩ : ∃ xx, (runs (cs, 0) xs).2 = xx := ⟨_, rfl⟩
  have HX := Lib.hid hX
  have hX16 : X.length = 16 := by rw [← hX, runs_len]; exact h16
  have HXL := Lib.hid (show (ints .u32 X).length = 16 by rw [ints_len]; exact hX16)
  have HB1 := Lib.hid B1
  have HC1 := Lib.hid C1
  have HS0 : Hid (Sx C cs w1 w1.drew) := Lib.hid ⟨C1.drew, below_drewN (Below.refl _ _) 1⟩
  have HREFG : Hid (∀ W0, Below w1.heap.size w1 W0 → ∀ wv, Sx C cs W0 wv → Calls Try.prog 11 #[.slice aa xs.length ca] wv fun e w' => ∃ u, e = .returned u ∧ Sx C cs W0 w' ∧ w'.ownsRow W0.heap.size 45 3 u xs.length (flat xs) ∧ Upd (fun _ => False) wv w') := Lib.hid fun W0 hW0 wv hS => by
    refine (ref_all wv _ xs ((HD1.out.below hW0).below hS.2)).mono ?_
    rintro e w' ⟨u, he, hown, hu⟩
    exact ⟨u, he, hS.go hu (by have := HCW.out; have := hW0.size; omega) (fun _ h => h.elim), own_base hown hS.2.size, hu⟩
  have HRUNG : Hid (∀ W0, Below w1.heap.size w1 W0 → ∀ N, N ≤ xs.length → ∀ wv u2, wv.ownsRow W0.heap.size 45 3 u2 xs.length (flat xs) → Sx C cs W0 wv → Calls Try.prog 10 #[.agg (ints .u32 cs).toArray, u2, .int .i64 N] wv fun e w' => e = .returned (.tuple #[.agg (ints .u32 (runs (cs, 0) (xs.take N)).1).toArray, .int .u32 (runs (cs, 0) (xs.take N)).2]) ∧ Sx C cs W0 w' ∧ Upd (fun _ => False) wv w') := Lib.hid fun W0 hW0 N hN wv u2 hown hS => by
    refine (refrun wv _ u2 xs cs N hown h16 hma hN h64).mono ?_
    rintro e w' ⟨he, hu⟩
    exact ⟨he, hS.go hu (by have := HCW.out; have := hW0.size; omega) (fun _ h => h.elim), hu⟩
  have HREF := Lib.hid (HREFG.out w1 (Below.refl _ _))
  have HRUN : Hid (∀ wv u2, wv.ownsRow w1.heap.size 45 3 u2 xs.length (flat xs) → Sx C cs w1 wv → Calls Try.prog 10 #[.agg (ints .u32 cs).toArray, u2, .int .i64 xs.length] wv fun e w' => e = .returned (.tuple #[.agg (ints .u32 X).toArray, .int .u32 xx]) ∧ Sx C cs w1 w' ∧ Upd (fun _ => False) wv w') := Lib.hid fun wv u2 hown hS => by
    have := HRUNG.out w1 (Below.refl _ _) xs.length (Nat.le_refl _) wv u2 hown hS
    rw [List.take_length, hX, hxx] at this
    exact this
  have HH := Lib.hid hC
  have hcs := hcl
  clear ha C1 hfa B1 hX hxx hcl hC
  go_upto_region 3 with (fail)
  (try rw [HH.out])
  go_cut [5, 6] from 18 to 26 (fun s5 s6 wx => ∃ (T : Nat) (x6 : Int), s5 = .pointer (some ⟨T, 0, none⟩) ∧ s6 = .int .u32 x6 ∧ w1.heap.size ≤ T ∧ Row wx T (ints .u32 X) ∧ Sx C cs w1 wx)
  case first =>
    refine wp_region_held_drew (S := Sx C cs w1) (by kernel_rfl) HS0.out (fun hHeld => ?_)
    obtain ⟨wd, hwd⟩ : ∃ wd, w1.drew = wd := ⟨_, rfl⟩
    rw [hwd] at hHeld ⊢
    clear hwd
    refine wpAnyH_take (i := 0) rfl (by kernel_rfl) (by kernel_rfl) (by kernel_rfl) (fun _ _ _ h => h) (yieldsIf_load_mid (by rfl) 24 _ rfl C 0 rfl (ints .u32 cs) _ (fun w' h => h.range) hu24 rfl hi24) hHeld ?_
    change wpAnyH _ _ _ _ _ _ _ (Act.put _ (some 19) _) _
    try simp only [Act.put, List.setIfInBounds_toArray, List.set_cons_zero, List.set_cons_succ]
    refine wpAnyH_take (i := 1) (v := ?_) rfl (by kernel_rfl) (by kernel_rfl) (by kernel_rfl) (fun _ _ _ h => h) (Or.inl ⟨by rfl, ?_⟩) hHeld ?_
    rotate_left
    · (intro w' hSw; go_simp) <;> with_reducible rfl
    change wpAnyH _ _ _ _ _ _ _ (Act.put _ (some 20) _) _
    try simp only [Act.put, List.setIfInBounds_toArray, List.set_cons_zero, List.set_cons_succ]
    refine wpAnyH_take (i := 3) (v := ?_) rfl (by kernel_rfl) (by kernel_rfl) (by kernel_rfl) (fun _ _ _ h => h) (Or.inl ⟨by rfl, ?_⟩) hHeld ?_
    rotate_left
    · (intro w' hSw; go_simp) <;> with_reducible rfl
    change wpAnyH _ _ _ _ _ _ _ (Act.put _ (some 22) _) _
    try simp only [Act.put, List.setIfInBounds_toArray, List.set_cons_zero, List.set_cons_succ]
    refine wpAnyH_take (i := 4) (v := ?_) rfl (by kernel_rfl) (by kernel_rfl) (by kernel_rfl) (fun _ _ _ h => h) (Or.inl ⟨by rfl, ?_⟩) hHeld ?_
    rotate_left
    · (intro w' hSw; go_simp) <;> with_reducible rfl
    change wpAnyH _ _ _ _ _ _ _ (Act.put _ (some 23) _) _
    try simp only [Act.put, List.setIfInBounds_toArray, List.set_cons_zero, List.set_cons_succ]
    refine wpAnyH_ready (rs := [2, 9]) (by kernel_rfl) (by simp) ?_
    refine AllReadyH.cons rfl (fun K hK => ?_) ?_
    · go_simp
      refine (HREF.out _ hHeld).mono ?_
      rintro e wr2 ⟨u2, rfl, k1, hown2, uf2⟩
      simp only []
      refine hK.out _ _ k1 (fun hHeld => ?_)
      clear hK K k1 uf2
      try simp only [Act.put, List.setIfInBounds_toArray, List.set_cons_zero, List.set_cons_succ]
      refine wpAnyH_ready (rs := [5, 9]) (by kernel_rfl) (by simp) ?_
      refine AllReadyH.cons rfl (fun K hK => ?_) ?_
      · go_simp
        refine (HRUN.out _ _ hown2 hHeld).mono ?_
        rintro e wr5 ⟨rfl, k1, uf5⟩
        simp only []
        refine hK.out _ _ k1 (fun hHeld => ?_)
        clear hK K k1 uf5
        try simp only [Act.put, List.setIfInBounds_toArray, List.set_cons_zero, List.set_cons_succ]
        refine wpAnyH_take (i := 6) (v := ?_) rfl (by kernel_rfl) (by kernel_rfl) (by kernel_rfl) (fun _ _ _ h => h) (Or.inl ⟨by rfl, ?_⟩) hHeld ?_
        rotate_left
        · (intro w' hSw; go_simp) <;> with_reducible rfl
        change wpAnyH _ _ _ _ _ _ _ (Act.put _ (some 18) _) _
        try simp only [Act.put, List.setIfInBounds_toArray, List.set_cons_zero, List.set_cons_succ]
        refine wpAnyH_take (i := 7) (v := ?_) rfl (by kernel_rfl) (by kernel_rfl) (by kernel_rfl) (fun _ _ _ h => h) (Or.inl ⟨by rfl, ?_⟩) hHeld ?_
        rotate_left
        · (intro w' hSw; go_simp) <;> with_reducible rfl
        change wpAnyH _ _ _ _ _ _ _ (Act.put _ (some 25) _) _
        try simp only [Act.put, List.setIfInBounds_toArray, List.set_cons_zero, List.set_cons_succ]
        refine wpAnyH_take (i := 8) (v := ?_) rfl (by kernel_rfl) (by kernel_rfl) (by kernel_rfl) (fun _ _ _ h => h) (Or.inl ⟨by rfl, ?_⟩) hHeld ?_
        rotate_left
        · (intro w' hSw; go_simp) <;> with_reducible rfl
        change wpAnyH _ _ _ _ _ _ _ (Act.put _ (some 26) _) _
        try simp only [Act.put, List.setIfInBounds_toArray, List.set_cons_zero, List.set_cons_succ]
        refine wpAnyH_ready (rs := [9]) (by kernel_rfl) (by simp) ?_
        refine AllReadyH.cons rfl (fun K hK => ?_) AllReadyH.nil
        go_simp
        have k1 := hHeld.go ((Upd.refl (fun _ => False) wr5).alloc (.cells #[.int .u32 0, .int .u32 0, .int .u32 0, .int .u32 0, .int .u32 0, .int .u32 0, .int .u32 0, .int .u32 0, .int .u32 0, .int .u32 0, .int .u32 0, .int .u32 0, .int .u32 0, .int .u32 0, .int .u32 0, .int .u32 0] 23)) HCW.out (fun _ h => h.elim)
        have hT : Row (wr5.alloc (.cells #[.int .u32 0, .int .u32 0, .int .u32 0, .int .u32 0, .int .u32 0, .int .u32 0, .int .u32 0, .int .u32 0, .int .u32 0, .int .u32 0, .int .u32 0, .int .u32 0, .int .u32 0, .int .u32 0, .int .u32 0, .int .u32 0] 23)) wr5.heap.size (List.replicate 16 (.int .u32 0)) := Row.new' rfl
        have hTW := hHeld.2.size
        refine hK.out _ _ k1 (fun hHeld => ?_)
        clear hK K k1
        obtain ⟨T, hTe⟩ : ∃ T, wr5.heap.size = T := ⟨_, rfl⟩
        obtain ⟨wa, hwa⟩ : ∃ wa, wr5.alloc (.cells #[.int .u32 0, .int .u32 0, .int .u32 0, .int .u32 0, .int .u32 0, .int .u32 0, .int .u32 0, .int .u32 0, .int .u32 0, .int .u32 0, .int .u32 0, .int .u32 0, .int .u32 0, .int .u32 0, .int .u32 0, .int .u32 0] 23) = wa := ⟨_, rfl⟩
        rw [hwa] at hT hHeld ⊢
        rw [hTe] at hT hTW ⊢
        clear hTe hwa
        try simp only [Act.put, List.setIfInBounds_toArray, List.set_cons_zero, List.set_cons_succ]
        refine wpAnyH_ready (rs := [10]) (by kernel_rfl) (by simp) ?_
        refine AllReadyH.cons rfl (fun K hK => ?_) AllReadyH.nil
        rw [if_pos (by rfl)]
        obtain ⟨Tt, hTt⟩ := id hT
        refine wp_store_row 23 _ _ rfl T (ints .u32 X).toArray rfl rfl Tt _ hTt (by rw [List.size_toArray, HXL.out]; exact info23) (by simp [HXL.out]) (by simp [ints, Value.oneCell']) ?_
        have k1 := hHeld.go (Upd.setRow wa T (ints .u32 X).toArray) HCW.out (fun i h => by rw [h]; exact hTW)
        have hT9 := hT.setRow (ints .u32 X).toArray
        refine hK.out _ _ k1 (fun hHeld => ?_)
        clear hK K k1 hT hTt
        obtain ⟨w9, hw9⟩ : ∃ w9, wa.setRow T (ints .u32 X).toArray = w9 := ⟨_, rfl⟩
        rw [hw9] at hT9 hHeld ⊢
        clear hw9
        change wpAnyH _ _ _ _ _ _ _ (Act.put _ none _) _
        simp only [Act.put]
        refine wpAnyH_take (i := 11) (v := ?_) rfl (by kernel_rfl) (by kernel_rfl) (by kernel_rfl) (fun _ _ _ h => h) (Or.inl ⟨by rfl, ?_⟩) hHeld ?_
        rotate_left
        · (intro w' hSw; go_simp) <;> with_reducible rfl
        change wpAnyH _ _ _ _ _ _ _ (Act.put _ (some 6) _) _
        try simp only [Act.put, List.setIfInBounds_toArray, List.set_cons_zero, List.set_cons_succ]
        refine wpAnyH_done (by kernel_rfl) ?_ _
        go_wp2_with fail
        go_meet
        case rel => exact ⟨T, xx, rfl, rfl, hTW, hT9, hHeld⟩
      refine AllReadyH.cons rfl (fun K hK => ?_) AllReadyH.nil
      go_simp
      have k1 := hHeld.go ((Upd.refl (fun _ => False) wr2).alloc (.cells #[.int .u32 0, .int .u32 0, .int .u32 0, .int .u32 0, .int .u32 0, .int .u32 0, .int .u32 0, .int .u32 0, .int .u32 0, .int .u32 0, .int .u32 0, .int .u32 0, .int .u32 0, .int .u32 0, .int .u32 0, .int .u32 0] 23)) HCW.out (fun _ h => h.elim)
      have hT : Row (wr2.alloc (.cells #[.int .u32 0, .int .u32 0, .int .u32 0, .int .u32 0, .int .u32 0, .int .u32 0, .int .u32 0, .int .u32 0, .int .u32 0, .int .u32 0, .int .u32 0, .int .u32 0, .int .u32 0, .int .u32 0, .int .u32 0, .int .u32 0] 23)) wr2.heap.size (List.replicate 16 (.int .u32 0)) := Row.new' rfl
      have hTW := hHeld.2.size
      have hown2 := hown2.alloc (.cells #[.int .u32 0, .int .u32 0, .int .u32 0, .int .u32 0, .int .u32 0, .int .u32 0, .int .u32 0, .int .u32 0, .int .u32 0, .int .u32 0, .int .u32 0, .int .u32 0, .int .u32 0, .int .u32 0, .int .u32 0, .int .u32 0] 23)
      refine hK.out _ _ k1 (fun hHeld => ?_)
      clear hK K k1
      obtain ⟨T, hTe⟩ : ∃ T, wr2.heap.size = T := ⟨_, rfl⟩
      obtain ⟨wa, hwa⟩ : ∃ wa, wr2.alloc (.cells #[.int .u32 0, .int .u32 0, .int .u32 0, .int .u32 0, .int .u32 0, .int .u32 0, .int .u32 0, .int .u32 0, .int .u32 0, .int .u32 0, .int .u32 0, .int .u32 0, .int .u32 0, .int .u32 0, .int .u32 0, .int .u32 0] 23) = wa := ⟨_, rfl⟩
      rw [hwa] at hT hHeld hown2 ⊢
      rw [hTe] at hT hTW ⊢
      clear hTe hwa
      try simp only [Act.put, List.setIfInBounds_toArray, List.set_cons_zero, List.set_cons_succ]
      refine wpAnyH_ready (rs := [5]) (by kernel_rfl) (by simp) ?_
      refine AllReadyH.cons rfl (fun K hK => ?_) AllReadyH.nil
      go_simp
      refine (HRUN.out _ _ hown2 hHeld).mono ?_
      rintro e wr5 ⟨rfl, k1, uf5⟩
      simp only []
      have hT := hT.upd uf5 id
      refine hK.out _ _ k1 (fun hHeld => ?_)
      clear hK K k1 uf5
      try simp only [Act.put, List.setIfInBounds_toArray, List.set_cons_zero, List.set_cons_succ]
      refine wpAnyH_take (i := 6) (v := ?_) rfl (by kernel_rfl) (by kernel_rfl) (by kernel_rfl) (fun _ _ _ h => h) (Or.inl ⟨by rfl, ?_⟩) hHeld ?_
      rotate_left
      · (intro w' hSw; go_simp) <;> with_reducible rfl
      change wpAnyH _ _ _ _ _ _ _ (Act.put _ (some 18) _) _
      try simp only [Act.put, List.setIfInBounds_toArray, List.set_cons_zero, List.set_cons_succ]
      refine wpAnyH_take (i := 7) (v := ?_) rfl (by kernel_rfl) (by kernel_rfl) (by kernel_rfl) (fun _ _ _ h => h) (Or.inl ⟨by rfl, ?_⟩) hHeld ?_
      rotate_left
      · (intro w' hSw; go_simp) <;> with_reducible rfl
      change wpAnyH _ _ _ _ _ _ _ (Act.put _ (some 25) _) _
      try simp only [Act.put, List.setIfInBounds_toArray, List.set_cons_zero, List.set_cons_succ]
      refine wpAnyH_take (i := 8) (v := ?_) rfl (by kernel_rfl) (by kernel_rfl) (by kernel_rfl) (fun _ _ _ h => h) (Or.inl ⟨by rfl, ?_⟩) hHeld ?_
      rotate_left
      · (intro w' hSw; go_simp) <;> with_reducible rfl
      change wpAnyH _ _ _ _ _ _ _ (Act.put _ (some 26) _) _
      try simp only [Act.put, List.setIfInBounds_toArray, List.set_cons_zero, List.set_cons_succ]
      refine wpAnyH_ready (rs := [10]) (by kernel_rfl) (by simp) ?_
      refine AllReadyH.cons rfl (fun K hK => ?_) AllReadyH.nil
      rw [if_pos (by rfl)]
      obtain ⟨Tt, hTt⟩ := id hT
      refine wp_store_row 23 _ _ rfl T (ints .u32 X).toArray rfl rfl Tt _ hTt (by rw [List.size_toArray, HXL.out]; exact info23) (by simp [HXL.out]) (by simp [ints, Value.oneCell']) ?_
      have k1 := hHeld.go (Upd.setRow wr5 T (ints .u32 X).toArray) HCW.out (fun i h => by rw [h]; exact hTW)
      have hT9 := hT.setRow (ints .u32 X).toArray
      refine hK.out _ _ k1 (fun hHeld => ?_)
      clear hK K k1 hT hTt
      obtain ⟨w9, hw9⟩ : ∃ w9, wr5.setRow T (ints .u32 X).toArray = w9 := ⟨_, rfl⟩
      rw [hw9] at hT9 hHeld ⊢
      clear hw9
      change wpAnyH _ _ _ _ _ _ _ (Act.put _ none _) _
      simp only [Act.put]
      refine wpAnyH_take (i := 11) (v := ?_) rfl (by kernel_rfl) (by kernel_rfl) (by kernel_rfl) (fun _ _ _ h => h) (Or.inl ⟨by rfl, ?_⟩) hHeld ?_
      rotate_left
      · (intro w' hSw; go_simp) <;> with_reducible rfl
      change wpAnyH _ _ _ _ _ _ _ (Act.put _ (some 6) _) _
      try simp only [Act.put, List.setIfInBounds_toArray, List.set_cons_zero, List.set_cons_succ]
      refine wpAnyH_done (by kernel_rfl) ?_ _
      go_wp2_with fail
      go_meet
      case rel => exact ⟨T, xx, rfl, rfl, hTW, hT9, hHeld⟩
    refine AllReadyH.cons rfl (fun K hK => ?_) AllReadyH.nil
    go_simp
    have k1 := hHeld.go ((Upd.refl (fun _ => False) wd).alloc (.cells #[.int .u32 0, .int .u32 0, .int .u32 0, .int .u32 0, .int .u32 0, .int .u32 0, .int .u32 0, .int .u32 0, .int .u32 0, .int .u32 0, .int .u32 0, .int .u32 0, .int .u32 0, .int .u32 0, .int .u32 0, .int .u32 0] 23)) HCW.out (fun _ h => h.elim)
    have hT : Row (wd.alloc (.cells #[.int .u32 0, .int .u32 0, .int .u32 0, .int .u32 0, .int .u32 0, .int .u32 0, .int .u32 0, .int .u32 0, .int .u32 0, .int .u32 0, .int .u32 0, .int .u32 0, .int .u32 0, .int .u32 0, .int .u32 0, .int .u32 0] 23)) wd.heap.size (List.replicate 16 (.int .u32 0)) := Row.new' rfl
    have hTW := hHeld.2.size
    refine hK.out _ _ k1 (fun hHeld => ?_)
    clear hK K k1
    obtain ⟨T, hTe⟩ : ∃ T, wd.heap.size = T := ⟨_, rfl⟩
    obtain ⟨wa, hwa⟩ : ∃ wa, wd.alloc (.cells #[.int .u32 0, .int .u32 0, .int .u32 0, .int .u32 0, .int .u32 0, .int .u32 0, .int .u32 0, .int .u32 0, .int .u32 0, .int .u32 0, .int .u32 0, .int .u32 0, .int .u32 0, .int .u32 0, .int .u32 0, .int .u32 0] 23) = wa := ⟨_, rfl⟩
    rw [hwa] at hT hHeld ⊢
    rw [hTe] at hT hTW ⊢
    clear hTe hwa
    try simp only [Act.put, List.setIfInBounds_toArray, List.set_cons_zero, List.set_cons_succ]
    refine wpAnyH_ready (rs := [2]) (by kernel_rfl) (by simp) ?_
    refine AllReadyH.cons rfl (fun K hK => ?_) AllReadyH.nil
    go_simp
    refine (HREF.out _ hHeld).mono ?_
    rintro e wr2 ⟨u2, rfl, k1, hown2, uf2⟩
    simp only []
    have hT := hT.upd uf2 id
    refine hK.out _ _ k1 (fun hHeld => ?_)
    clear hK K k1 uf2
    try simp only [Act.put, List.setIfInBounds_toArray, List.set_cons_zero, List.set_cons_succ]
    refine wpAnyH_ready (rs := [5]) (by kernel_rfl) (by simp) ?_
    refine AllReadyH.cons rfl (fun K hK => ?_) AllReadyH.nil
    go_simp
    refine (HRUN.out _ _ hown2 hHeld).mono ?_
    rintro e wr5 ⟨rfl, k1, uf5⟩
    simp only []
    have hT := hT.upd uf5 id
    refine hK.out _ _ k1 (fun hHeld => ?_)
    clear hK K k1 uf5
    try simp only [Act.put, List.setIfInBounds_toArray, List.set_cons_zero, List.set_cons_succ]
    refine wpAnyH_take (i := 6) (v := ?_) rfl (by kernel_rfl) (by kernel_rfl) (by kernel_rfl) (fun _ _ _ h => h) (Or.inl ⟨by rfl, ?_⟩) hHeld ?_
    rotate_left
    · (intro w' hSw; go_simp) <;> with_reducible rfl
    change wpAnyH _ _ _ _ _ _ _ (Act.put _ (some 18) _) _
    try simp only [Act.put, List.setIfInBounds_toArray, List.set_cons_zero, List.set_cons_succ]
    refine wpAnyH_take (i := 7) (v := ?_) rfl (by kernel_rfl) (by kernel_rfl) (by kernel_rfl) (fun _ _ _ h => h) (Or.inl ⟨by rfl, ?_⟩) hHeld ?_
    rotate_left
    · (intro w' hSw; go_simp) <;> with_reducible rfl
    change wpAnyH _ _ _ _ _ _ _ (Act.put _ (some 25) _) _
    try simp only [Act.put, List.setIfInBounds_toArray, List.set_cons_zero, List.set_cons_succ]
    refine wpAnyH_take (i := 8) (v := ?_) rfl (by kernel_rfl) (by kernel_rfl) (by kernel_rfl) (fun _ _ _ h => h) (Or.inl ⟨by rfl, ?_⟩) hHeld ?_
    rotate_left
    · (intro w' hSw; go_simp) <;> with_reducible rfl
    change wpAnyH _ _ _ _ _ _ _ (Act.put _ (some 26) _) _
    try simp only [Act.put, List.setIfInBounds_toArray, List.set_cons_zero, List.set_cons_succ]
    refine wpAnyH_ready (rs := [10]) (by kernel_rfl) (by simp) ?_
    refine AllReadyH.cons rfl (fun K hK => ?_) AllReadyH.nil
    rw [if_pos (by rfl)]
    obtain ⟨Tt, hTt⟩ := id hT
    refine wp_store_row 23 _ _ rfl T (ints .u32 X).toArray rfl rfl Tt _ hTt (by rw [List.size_toArray, HXL.out]; exact info23) (by simp [HXL.out]) (by simp [ints, Value.oneCell']) ?_
    have k1 := hHeld.go (Upd.setRow wr5 T (ints .u32 X).toArray) HCW.out (fun i h => by rw [h]; exact hTW)
    have hT9 := hT.setRow (ints .u32 X).toArray
    refine hK.out _ _ k1 (fun hHeld => ?_)
    clear hK K k1 hT hTt
    obtain ⟨w9, hw9⟩ : ∃ w9, wr5.setRow T (ints .u32 X).toArray = w9 := ⟨_, rfl⟩
    rw [hw9] at hT9 hHeld ⊢
    clear hw9
    change wpAnyH _ _ _ _ _ _ _ (Act.put _ none _) _
    simp only [Act.put]
    refine wpAnyH_take (i := 11) (v := ?_) rfl (by kernel_rfl) (by kernel_rfl) (by kernel_rfl) (fun _ _ _ h => h) (Or.inl ⟨by rfl, ?_⟩) hHeld ?_
    rotate_left
    · (intro w' hSw; go_simp) <;> with_reducible rfl
    change wpAnyH _ _ _ _ _ _ _ (Act.put _ (some 6) _) _
    try simp only [Act.put, List.setIfInBounds_toArray, List.set_cons_zero, List.set_cons_succ]
    refine wpAnyH_done (by kernel_rfl) ?_ _
    go_wp2_with fail
    go_meet
    case rel => exact ⟨T, xx, rfl, rfl, hTW, hT9, hHeld⟩
  case rest =>
    obtain ⟨T, x6, rfl, rfl, hTW, hT, hS2⟩ := hcut
    obtain ⟨w2, hw2⟩ : ∃ w2, wc = w2 := ⟨_, rfl⟩
    rw [hw2] at hT hS2 ⊢
    clear hw2 HREF HRUN HS0
    have E0 := own_empty w2 30
    have B2 := hS2.2
    go_wp2_with (at_builtin; refine wpList_append_src rfl (.tmp 27) (.tmp 28) 25 rfl w2.heap.size 30 (.agg #[.int .i64 0, .int .i64 0, .int .u32 0]) 3 24 Try.underlying25 info_deed rfl (by decide) (.slice (some ⟨w2.heap.size, 0, none⟩) 0 0) 0 [] rfl E0 _ xs.length (flat xs) rfl (HSX.out.cellsIn (B2.alloc B2.size _)).readable (flat_len xs) (flat_one xs) (by unfold maxLen; omega) (by omega) (by simp) ?_; intro v' w3 hown1 u3 hnear; rw [Nat.zero_add, List.nil_append] at hown1; have B3 : Below w2.heap.size w2 w3 := u3.below ((Below.refl _ _).alloc (Nat.le_refl _) _) (by simp) (by intro i hi; simp [Value.ownBlock] at hi; omega); clear hnear u3 E0)
    have hown1b := own_base hown1 (Nat.le_refl _)
    obtain ⟨va, vcap, rfl⟩ := owned_len hown1
    refine (begin_all w3 _ xs (Src.of_owned hown1) hfx).mono ?_
    rintro e w4 ⟨r, u, rfl, hR, hr, hu, u4⟩
    have B4 : Below w2.heap.size w2 w4 := B3.trans (u4.none.mono B3.size)
    have hT4 : Row w4 T (ints .u32 X) := hT.below B4 hT.lt
    have hS4 : Sx C cs w1 w4 := ⟨hS2.1.below B4 hS2.1.lt, hS2.2.trans (B4.mono hS2.2.size)⟩
    have hown4 : w4.ownsRow w2.heap.size 30 3 (.slice va xs.length vcap) xs.length (flat xs) := own_upd hown1b u4 (fun _ _ => id)
    have HTL : Hid (T < w4.heap.size) := Lib.hid hT4.lt
    have HTR := Lib.hid hT4
    have HS0 : Hid (Sx C cs w4 w4.drew) := Lib.hid ⟨hS4.1.drew, below_drewN (Below.refl _ _) 1⟩
    have HCW4 : Hid (C < w4.heap.size) := Lib.hid hS4.1.lt
    have HRA : Hid (∀ wv, Sx C cs w4 wv → Calls Try.prog 9 #[.agg (ints .u32 cs).toArray, .slice aa xs.length ca] wv fun e w' => e = .returned (.agg (ints .u32 X).toArray) ∧ Sx C cs w4 w') := Lib.hid fun wv hS => by
      refine (run_all wv _ xs cs ((HSX.out.cellsIn hS4.2).cellsIn hS.2) hfx h16 hma).mono ?_
      rintro e w' ⟨he, hu⟩
      rw [HX.out] at he
      exact ⟨he, hS.go hu HCW4.out (fun _ h => h.elim)⟩
    have hi23 : (Try.prog.info? 23).map (·.size) = some (ints .u32 X).length := by rw [HXL.out]; exact info23
    have NEQ : ∀ w, (binOp .neq 24 (.agg (ints .u32 X).toArray) (.agg (ints .u32 X).toArray)).run Try.prog w = .ok (.bool false) w := fun w => by rw [neq_cells w X X hX16 hX16]; simp
    have HR := Lib.hid hR
    have HS4 := Lib.hid hS4
    have hz34 : w3.heap.size ≤ w4.heap.size := u4.size
    have hz23 := B3.size
    have HZ2 := Lib.hid (show w1.heap.size ≤ w2.heap.size ∧ T < w2.heap.size from ⟨hS2.2.size, hT.lt⟩)
    have HOW : Hid (∀ g, va = some ⟨g, 0, none⟩ → g < w3.heap.size) := Lib.hid fun g e => (own_lt (k := g) hown1b (by rw [e]; rfl)).1
    clear hT hS2 hown1 hown1b B2 B3 hR hS4 u4
    go_upto_region 6 with (fail)
    refine wp_region_held_drew (S := Sx C cs w4) (by kernel_rfl) HS0.out (fun hHeld => ?_)
    refine wpAnyH_take (i := 0) (v := ?_) rfl (by kernel_rfl) (by kernel_rfl) (by kernel_rfl) (fun _ _ _ h => h) (Or.inl ⟨by rfl, ?_⟩) hHeld ?_
    rotate_left
    · (intro w' hSw; go_simp) <;> with_reducible rfl
    change wpAnyH _ _ _ _ _ _ _ (Act.put _ (some 32) _) _
    try simp only [Act.put, List.setIfInBounds_toArray, List.set_cons_zero, List.set_cons_succ]
    refine wpAnyH_take (i := 1) (v := ?_) rfl (by kernel_rfl) (by kernel_rfl) (by kernel_rfl) (fun _ _ _ h => h) (Or.inl ⟨by rfl, ?_⟩) hHeld ?_
    rotate_left
    · (intro w' hSw; go_simp) <;> with_reducible rfl
    change wpAnyH _ _ _ _ _ _ _ (Act.put _ (some 33) _) _
    try simp only [Act.put, List.setIfInBounds_toArray, List.set_cons_zero, List.set_cons_succ]
    refine wpAnyH_take (i := 2) (v := ?_) rfl (by kernel_rfl) (by kernel_rfl) (by kernel_rfl) (fun _ _ _ h => h) (Or.inl ⟨by rfl, ?_⟩) hHeld ?_
    rotate_left
    · (intro w' hSw; go_simp) <;> with_reducible rfl
    change wpAnyH _ _ _ _ _ _ _ (Act.put _ (some 34) _) _
    try simp only [Act.put, List.setIfInBounds_toArray, List.set_cons_zero, List.set_cons_succ]
    refine wpAnyH_take (i := 3) rfl (by kernel_rfl) (by kernel_rfl) (by kernel_rfl) (fun _ _ _ h => h) (yieldsIf_load_mid (by rfl) 24 _ rfl C 0 rfl (ints .u32 cs) _ (fun w' h => h.range) hu24 rfl hi24) hHeld ?_
    change wpAnyH _ _ _ _ _ _ _ (Act.put _ (some 35) _) _
    try simp only [Act.put, List.setIfInBounds_toArray, List.set_cons_zero, List.set_cons_succ]
    refine wpAnyH_take (i := 4) (v := ?_) rfl (by kernel_rfl) (by kernel_rfl) (by kernel_rfl) (fun _ _ _ h => h) (Or.inl ⟨by rfl, ?_⟩) hHeld ?_
    rotate_left
    · (intro w' hSw; go_simp) <;> with_reducible rfl
    change wpAnyH _ _ _ _ _ _ _ (Act.put _ (some 36) _) _
    try simp only [Act.put, List.setIfInBounds_toArray, List.set_cons_zero, List.set_cons_succ]
    refine wpAnyH_take (i := 6) rfl (by kernel_rfl) (by kernel_rfl) (by kernel_rfl) (fun _ _ _ h => h) (yieldsIf_load_mid (by rfl) 23 _ rfl T 0 rfl (ints .u32 X) _ (fun w' h => (fun j x hj => by rw [Nat.zero_add]; exact (h.2.cell (p := ⟨T, j, none⟩) HTL.out).trans (HTR.out.cell hj))) hu23 rfl hi23) hHeld ?_
    change wpAnyH _ _ _ _ _ _ _ (Act.put _ (some 38) _) _
    try simp only [Act.put, List.setIfInBounds_toArray, List.set_cons_zero, List.set_cons_succ]
    refine wpAnyH_ready (rs := [5]) (by kernel_rfl) (by simp) ?_
    refine AllReadyH.cons rfl (fun K hK => ?_) AllReadyH.nil
    go_simp
    refine (HRA.out _ hHeld).mono ?_
    rintro e w5 ⟨rfl, k1⟩
    simp only []
    refine hK.out _ _ k1 (fun hHeld => ?_)
    clear hK K k1
    try simp only [Act.put, List.setIfInBounds_toArray, List.set_cons_zero, List.set_cons_succ]
    refine wpAnyH_take (i := 7) (v := ?_) rfl (by kernel_rfl) (by kernel_rfl) (by kernel_rfl) (fun _ _ _ h => h) (Or.inl ⟨by rfl, ?_⟩) hHeld ?_
    rotate_left
    · (intro w' hSw; go_simp) <;> with_reducible rfl
    change wpAnyH _ _ _ _ _ _ _ (Act.put _ (some 39) _) _
    try simp only [Act.put, List.setIfInBounds_toArray, List.set_cons_zero, List.set_cons_succ]
    refine wpAnyH_take (i := 8) (v := ?_) rfl (by kernel_rfl) (by kernel_rfl) (by kernel_rfl) (fun _ _ _ h => h) (Or.inl ⟨by rfl, ?_⟩) hHeld ?_
    rotate_left
    · (intro w' hSw; go_simp) <;> with_reducible rfl
    change wpAnyH _ _ _ _ _ _ _ (Act.put _ (some 40) _) _
    try simp only [Act.put, List.setIfInBounds_toArray, List.set_cons_zero, List.set_cons_succ]
    refine wpAnyH_done (by kernel_rfl) ?_ _
    have B5 : Below w.heap.size w w5 := (HB1.out.trans (HS4.out.2.mono HB1.out.size)).trans (hHeld.2.mono (by have := HS4.out.2.size; have := HB1.out.size; omega))
    have R5 : RunAt w5 r u xs 0 0 := by
      have U5 : Upd (fun _ => False) w4 w5 := Upd.of_below hHeld.2
      exact HR.out.upd U5 id (fun _ _ => id)
    have hT5 : Row w5 T (ints .u32 X) := hT4.below hHeld.2 HTL.out
    have hown5 : w5.ownsRow w2.heap.size 30 3 (.slice va xs.length vcap) xs.length (flat xs) := own_upd hown4 (Upd.of_below (S := fun _ => False) hHeld.2) (fun _ _ => id)
    have C5 := hHeld.1
    have B51 : Below w1.heap.size w1 w5 := HS4.out.2.trans (hHeld.2.mono HS4.out.2.size)
    have hz5 := hHeld.2.size
    clear HRA HS0 NEQ hown4 hT4
    have hz2 : C < w2.heap.size ∧ T < w2.heap.size := ⟨by have := HCW.out; have := HZ2.out.1; omega, HZ2.out.2⟩
    have hzw : w.heap.size ≤ w2.heap.size := by have := HZ2.out.1; have := HB1.out.size; omega
    have hown5' : 0 < xs.length → ∃ g, va = some ⟨g, 0, none⟩ ∧ w2.heap.size ≤ g ∧ g < w3.heap.size ∧ ∃ l, l.length = xs.length * 3 ∧ RowP w5 g l := fun hp => by
      obtain ⟨g, cap, e, hg, hrp⟩ := owned hown5 hp
      simp only [Value.slice.injEq] at e
      exact ⟨g, e.1, hg, HOW.out g e.1, flat xs, flat_len xs, hrp⟩
    clear hown5
    go_wp2_with fail
    go_loopw [43] (fun i wr => ∃ j : Nat, j ≤ xs.length ∧ i = .int .i64 j ∧ RunAt wr r u xs 0 0 ∧ Row wr T (ints .u32 X) ∧ Row wr C (ints .u32 cs) ∧ Below w.heap.size w wr ∧ Below w1.heap.size w1 wr ∧ w5.heap.size ≤ wr.heap.size ∧ (0 < xs.length → ∃ g, va = some ⟨g, 0, none⟩ ∧ w2.heap.size ≤ g ∧ g < w3.heap.size ∧ ∃ l, l.length = xs.length * 3 ∧ RowP wr g l)) (fun i _ => xs.length - (intOf i).toNat)
    case atStart => exact ⟨0, Nat.zero_le _, rfl, R5, hT5, C5, B5, B51, Nat.le_refl _, hown5'⟩
    case round =>
      clear R5 hT5 C5 B5 B51 hown5' hHeld
      obtain ⟨j, hj, rfl, R5, hT5, C5, B5, B51, hz6, hown5⟩ := hrel
      by_cases hlt : j < xs.length
      · obtain ⟨g, rfl, hg2, hg3, l, hl, hrp⟩ := hown5 (by omega)
        have hj3 : j * 3 < l.length := by omega
        have cj := hrp.cell (i := j * 3) (List.getElem?_eq_getElem hj3)
        have fj := hrp.frozen (j * 3)
        have hlt' : (j : Int) < (xs.length : Int) := by omega
        have hj0 : (0 : Int) ≤ (j : Int) := by omega
        have U := Upd.one wr g (j * 3) (.int .i64 9)
        have R6 := R5.upd U (by omega) (fun b hb => by have := hu b hb; omega)
        have T6 := hT5.upd U (by omega)
        have C6 := C5.upd U (by omega)
        have B6 := U.below B5 B5.size (fun i hi => by omega)
        have B61 := U.below B51 B51.size (fun i hi => by have := HZ2.out.1; omega)
        have P6 : RowP (wr.setCell ⟨g, j * 3, none⟩ (.int .i64 9)) g (l.set (j * 3) (.int .i64 9)) := hrp.set _ hj3 _
        clear hown5 R5 hT5 C5 B5 B51
        go_wp2_with fail
        go_roundw
        case rel => exact ⟨j + 1, by omega, by go_num, R6, T6, C6, B6, B61, by simpa [World.setCell] using hz6, fun _ => ⟨g, rfl, hg2, hg3, _, by simpa using hl, P6⟩⟩
        case measure => simp [intOf]; omega
      · obtain rfl : j = xs.length := by omega
        obtain ⟨w6, hw6⟩ : ∃ w6, wr = w6 := ⟨_, rfl⟩
        rw [hw6] at R5 hT5 C5 B5 B51 hz6 ⊢
        clear hown5 hw6
        have R6 := R5.alloc (.cells #[.int .u32 0, .int .u32 0, .int .u32 0, .int .u32 0, .int .u32 0, .int .u32 0, .int .u32 0, .int .u32 0, .int .u32 0, .int .u32 0, .int .u32 0, .int .u32 0, .int .u32 0, .int .u32 0, .int .u32 0, .int .u32 0] 24)
        have T6 := hT5.alloc (.cells #[.int .u32 0, .int .u32 0, .int .u32 0, .int .u32 0, .int .u32 0, .int .u32 0, .int .u32 0, .int .u32 0, .int .u32 0, .int .u32 0, .int .u32 0, .int .u32 0, .int .u32 0, .int .u32 0, .int .u32 0, .int .u32 0] 24)
        have C6 := C5.alloc (.cells #[.int .u32 0, .int .u32 0, .int .u32 0, .int .u32 0, .int .u32 0, .int .u32 0, .int .u32 0, .int .u32 0, .int .u32 0, .int .u32 0, .int .u32 0, .int .u32 0, .int .u32 0, .int .u32 0, .int .u32 0, .int .u32 0] 24)
        have B6 := B5.alloc B5.size (.cells #[.int .u32 0, .int .u32 0, .int .u32 0, .int .u32 0, .int .u32 0, .int .u32 0, .int .u32 0, .int .u32 0, .int .u32 0, .int .u32 0, .int .u32 0, .int .u32 0, .int .u32 0, .int .u32 0, .int .u32 0, .int .u32 0] 24)
        have B61 := B51.alloc B51.size (.cells #[.int .u32 0, .int .u32 0, .int .u32 0, .int .u32 0, .int .u32 0, .int .u32 0, .int .u32 0, .int .u32 0, .int .u32 0, .int .u32 0, .int .u32 0, .int .u32 0, .int .u32 0, .int .u32 0, .int .u32 0, .int .u32 0] 24)
        have P6 : Row (w6.alloc (.cells #[.int .u32 0, .int .u32 0, .int .u32 0, .int .u32 0, .int .u32 0, .int .u32 0, .int .u32 0, .int .u32 0, .int .u32 0, .int .u32 0, .int .u32 0, .int .u32 0, .int .u32 0, .int .u32 0, .int .u32 0, .int .u32 0] 24)) w6.heap.size (List.replicate 16 (.int .u32 0)) := Row.new' rfl
        have hTl := hT5.lt
        have hCl := C5.lt
        have hz61 := B51.size
        have hrl := R5.top.lt
        have hul : ∀ b, u.ownBlock = some b → b < w6.heap.size := fun b hb => (own_lt R5.own hb).1
        have hPw : w.heap.size ≤ w6.heap.size := B5.size
        have HCS := Lib.hid hcs
        clear R5 hT5 B5 B51
        go_wp2_with (first
          | (refine wpList_load_whole rfl 24 _ rfl C rfl C5 _ hu24 rfl hi24 ?_)
          | (refine wpList_store_whole rfl 24 _ _ rfl w6.heap.size (ints .u32 cs).toArray rfl rfl P6 (by rw [List.size_toArray]; exact hi24) (by simp [HCS.out]) (by simp [ints, Value.oneCell']) ?_; intro w7 P7 u7))
        obtain ⟨P, hP⟩ : ∃ P, w6.heap.size = P := ⟨_, rfl⟩
        rw [hP] at hPw
        have hP1 : w1.heap.size ≤ P := by have := HZ2.out.1; omega
        have R7 := R6.upd u7 (by omega) (fun b hb => by have := hul b hb; omega)
        have T7 := T6.upd u7 (by omega)
        have C7 := C6.upd u7 (by omega)
        have B7 := u7.below B6 B6.size (fun i hi => by omega)
        have B71 := u7.below B61 B61.size (fun i hi => by omega)
        have hz7 : P < w7.heap.size := by have := P7.lt; omega
        rw [hP] at P7 ⊢
        clear R6 T6 C6 B6 B61 P6 u7 C5
        have hne : r ≠ P := by omega
        have hnb : u.ownBlock ≠ some P := fun e => by have := hul P e; omega
        have hrw1 : w1.heap.size ≤ r := by have := HZ2.out.1; omega
        have hul4 : ∀ b, u.ownBlock = some b → w3.heap.size ≤ b := hu
        have hTP : T ≠ P := by omega
        have hCP : C ≠ P := by omega
        have hTr : T ≠ r := by omega
        have hCr : C ≠ r := by have := HCW.out; omega
        have hrw : w.heap.size ≤ r := by omega
        clear hul hu hr
        go_wp2_with fail
        go_loopw [54] (fun i wr => ∃ k : Nat, k ≤ xs.length ∧ i = .int .i64 k ∧ RunAt wr r u xs k (runs (cs, 0) (xs.take k)).2 ∧ Row wr P (ints .u32 (runs (cs, 0) (xs.take k)).1) ∧ Row wr T (ints .u32 X) ∧ Row wr C (ints .u32 cs) ∧ Below w.heap.size w wr ∧ Below w1.heap.size w1 wr) (fun i _ => xs.length - (intOf i).toNat)
        case atStart => exact ⟨0, Nat.zero_le _, rfl, R7, P7, T7, C7, B7, B71⟩
        case round =>
          clear R7 P7 T7 C7 B7 B71
          obtain ⟨k, hk, rfl, R8, P8, T8, C8, B8, B81⟩ := hrel
          by_cases hlt : k < xs.length
          · have hmk : (xs.getD k default).may = true := hma _ (by rw [getD_lt _ _ _ hlt]; exact List.getElem_mem hlt)
            have hsn : runs (cs, 0) (xs.take (k + 1)) = one (xs.getD k default) (runs (cs, 0) (xs.take k)) := by rw [take_snoc xs k hlt, runs_snoc]
            have h16' : (runs (cs, 0) (xs.take k)).1.length = 16 := by rw [runs_len]; exact h16
            have h161 : (runs (cs, 0) (xs.take (k + 1))).1.length = 16 := by rw [runs_len]; exact h16
            obtain ⟨⟨ys, num⟩, hY⟩ : ∃ s, runs (cs, 0) (xs.take k) = s := ⟨_, rfl⟩
            rw [hY] at R8 P8 hsn h16'
            obtain ⟨⟨X1, x1⟩, hY1⟩ : ∃ s, runs (cs, 0) (xs.take (k + 1)) = s := ⟨_, rfl⟩
            rw [hY1] at hsn h161
            have HY1 := Lib.hid hY1
            have HSN := Lib.hid hsn
            have hlt' : (k : Int) < (xs.length : Int) := by omega
            have zz : ((k : Int) != k) = false := by simp
            have hwl : IntKind.i64.wrap ((xs.length : Int) - k) = (xs.length : Int) - k := IntWalk.i64_in _ (by omega)
            have hwl2 : wrap64 ((xs.length : Int) - k) = (xs.length : Int) - k := by unfold wrap64; omega
            have zl : (((xs.length : Int) - k) != ((xs.length : Int) - k)) = false := by simp
            have HR8 := Lib.hid R8
            have HP8 := Lib.hid P8
            have HT8 := Lib.hid T8
            have HC8 := Lib.hid C8
            have HB8 := Lib.hid B8
            have HB81 := Lib.hid B81
            clear hY hY1 hsn R8 P8 T8 C8 B8 B81
            go_wp2_with fail
            refine (doneC HR8.out).mono ?_
            rintro e w' ⟨rfl, rfl⟩
            go_wp2_with fail
            refine (leftC HR8.out hk h64).mono ?_
            rintro e w' ⟨rfl, m9, rfl⟩
            go_wp2_with fail
            refine (step_one _ r P u xs k num ys (HR8.out.drewN m9) (HP8.out.drewN m9) h16' hne hnb hlt hmk).mono ?_
            rintro e w10 ⟨rfl, R10, P10, u10⟩
            rw [← HSN.out] at R10 P10
            have T10 := (HT8.out.drewN m9).upd u10 (by omega)
            have C10 := (HC8.out.drewN m9).upd u10 (by omega)
            have B10 := u10.below (below_drewN HB8.out m9) HB8.out.size (fun i hi => by omega)
            have B101 := u10.below (below_drewN HB81.out m9) HB81.out.size (fun i hi => by omega)
            have HS1 : Hid (Sx C cs w10 w10.drew) := Lib.hid ⟨C10.drew, below_drewN (Below.refl _ _) 1⟩
            have HC10 : Hid (C < w10.heap.size) := Lib.hid C10.lt
            have HREF1 := Lib.hid (HREFG.out w10 B101)
            have HRUN1 : Hid (∀ wv u2, wv.ownsRow w10.heap.size 45 3 u2 xs.length (flat xs) → Sx C cs w10 wv → Calls Try.prog 10 #[.agg (ints .u32 cs).toArray, u2, .int .i64 ((k : Int) + 1)] wv fun e w' => e = .returned (.tuple #[.agg (ints .u32 X1).toArray, .int .u32 x1]) ∧ Sx C cs w10 w' ∧ Upd (fun _ => False) wv w') := Lib.hid fun wv u2 hown hS => by
              have := HRUNG.out w10 B101 (k + 1) (by omega) wv u2 hown hS
              rw [HY1.out] at this
              exact this
            have HXL1 := Lib.hid (show (ints .u32 X1).length = 16 by rw [ints_len]; exact h161)
            have hwk : IntKind.i64.wrap ((k : Int) + 1) = (k : Int) + 1 := IntWalk.i64_in _ (by omega)
            have HR10 := Lib.hid R10
            have HP10 := Lib.hid P10
            have HT10 := Lib.hid T10
            have HB10 := Lib.hid B10
            have HB101 := Lib.hid B101
            clear R10 P10 T10 B10 B101 u10 HR8 HP8 HT8 HC8 HB8 HB81 C10
            go_upto_region 19 with (fail)
            go_cut [12, 13] from 75 to 83 (fun s12 s13 wx => ∃ (T : Nat) (x6 : Int), s12 = .pointer (some ⟨T, 0, none⟩) ∧ s13 = .int .u32 x6 ∧ w10.heap.size ≤ T ∧ Row wx T (ints .u32 X1) ∧ Sx C cs w10 wx)
            case first =>
              refine wp_region_held_drew (S := Sx C cs w10) (by kernel_rfl) HS1.out (fun hHeld => ?_)
              obtain ⟨wd, hwd⟩ : ∃ wd, w10.drew = wd := ⟨_, rfl⟩
              rw [hwd] at hHeld ⊢
              clear hwd
              refine wpAnyH_take (i := 0) rfl (by kernel_rfl) (by kernel_rfl) (by kernel_rfl) (fun _ _ _ h => h) (yieldsIf_load_mid (by rfl) 24 _ rfl C 0 rfl (ints .u32 cs) _ (fun w' h => h.range) hu24 rfl hi24) hHeld ?_
              change wpAnyH _ _ _ _ _ _ _ (Act.put _ (some 76) _) _
              try simp only [Act.put, List.setIfInBounds_toArray, List.set_cons_zero, List.set_cons_succ]
              refine wpAnyH_take (i := 1) (v := ?_) rfl (by kernel_rfl) (by kernel_rfl) (by kernel_rfl) (fun _ _ _ h => h) (Or.inl ⟨by rfl, ?_⟩) hHeld ?_
              rotate_left
              · (intro w' hSw; go_simp) <;> with_reducible rfl
              change wpAnyH _ _ _ _ _ _ _ (Act.put _ (some 77) _) _
              try simp only [Act.put, List.setIfInBounds_toArray, List.set_cons_zero, List.set_cons_succ]
              refine wpAnyH_take (i := 3) (v := ?_) rfl (by kernel_rfl) (by kernel_rfl) (by kernel_rfl) (fun _ _ _ h => h) (Or.inl ⟨by rfl, ?_⟩) hHeld ?_
              rotate_left
              · (intro w' hSw; go_simp) <;> with_reducible rfl
              change wpAnyH _ _ _ _ _ _ _ (Act.put _ (some 79) _) _
              try simp only [Act.put, List.setIfInBounds_toArray, List.set_cons_zero, List.set_cons_succ]
              refine wpAnyH_take (i := 4) (v := ?_) rfl (by kernel_rfl) (by kernel_rfl) (by kernel_rfl) (fun _ _ _ h => h) (Or.inl ⟨by rfl, ?_⟩) hHeld ?_
              rotate_left
              · (intro w' hSw; go_simp) <;> with_reducible rfl
              change wpAnyH _ _ _ _ _ _ _ (Act.put _ (some 80) _) _
              try simp only [Act.put, List.setIfInBounds_toArray, List.set_cons_zero, List.set_cons_succ]
              refine wpAnyH_ready (rs := [2, 9]) (by kernel_rfl) (by simp) ?_
              refine AllReadyH.cons rfl (fun K hK => ?_) ?_
              · go_simp
                refine (HREF1.out _ hHeld).mono ?_
                rintro e wr2 ⟨u2, rfl, k1, hown2, uf2⟩
                simp only []
                refine hK.out _ _ k1 (fun hHeld => ?_)
                clear hK K k1 uf2
                try simp only [Act.put, List.setIfInBounds_toArray, List.set_cons_zero, List.set_cons_succ]
                refine wpAnyH_ready (rs := [5, 9]) (by kernel_rfl) (by simp) ?_
                refine AllReadyH.cons rfl (fun K hK => ?_) ?_
                · go_simp
                  refine (HRUN1.out _ _ hown2 hHeld).mono ?_
                  rintro e wr5 ⟨rfl, k1, uf5⟩
                  simp only []
                  refine hK.out _ _ k1 (fun hHeld => ?_)
                  clear hK K k1 uf5
                  try simp only [Act.put, List.setIfInBounds_toArray, List.set_cons_zero, List.set_cons_succ]
                  refine wpAnyH_take (i := 6) (v := ?_) rfl (by kernel_rfl) (by kernel_rfl) (by kernel_rfl) (fun _ _ _ h => h) (Or.inl ⟨by rfl, ?_⟩) hHeld ?_
                  rotate_left
                  · (intro w' hSw; go_simp) <;> with_reducible rfl
                  change wpAnyH _ _ _ _ _ _ _ (Act.put _ (some 75) _) _
                  try simp only [Act.put, List.setIfInBounds_toArray, List.set_cons_zero, List.set_cons_succ]
                  refine wpAnyH_take (i := 7) (v := ?_) rfl (by kernel_rfl) (by kernel_rfl) (by kernel_rfl) (fun _ _ _ h => h) (Or.inl ⟨by rfl, ?_⟩) hHeld ?_
                  rotate_left
                  · (intro w' hSw; go_simp) <;> with_reducible rfl
                  change wpAnyH _ _ _ _ _ _ _ (Act.put _ (some 82) _) _
                  try simp only [Act.put, List.setIfInBounds_toArray, List.set_cons_zero, List.set_cons_succ]
                  refine wpAnyH_take (i := 8) (v := ?_) rfl (by kernel_rfl) (by kernel_rfl) (by kernel_rfl) (fun _ _ _ h => h) (Or.inl ⟨by rfl, ?_⟩) hHeld ?_
                  rotate_left
                  · (intro w' hSw; go_simp) <;> with_reducible rfl
                  change wpAnyH _ _ _ _ _ _ _ (Act.put _ (some 83) _) _
                  try simp only [Act.put, List.setIfInBounds_toArray, List.set_cons_zero, List.set_cons_succ]
                  refine wpAnyH_ready (rs := [9]) (by kernel_rfl) (by simp) ?_
                  refine AllReadyH.cons rfl (fun K hK => ?_) AllReadyH.nil
                  go_simp
                  have k1 := hHeld.go ((Upd.refl (fun _ => False) wr5).alloc (.cells #[.int .u32 0, .int .u32 0, .int .u32 0, .int .u32 0, .int .u32 0, .int .u32 0, .int .u32 0, .int .u32 0, .int .u32 0, .int .u32 0, .int .u32 0, .int .u32 0, .int .u32 0, .int .u32 0, .int .u32 0, .int .u32 0] 23)) HC10.out (fun _ h => h.elim)
                  have hT : Row (wr5.alloc (.cells #[.int .u32 0, .int .u32 0, .int .u32 0, .int .u32 0, .int .u32 0, .int .u32 0, .int .u32 0, .int .u32 0, .int .u32 0, .int .u32 0, .int .u32 0, .int .u32 0, .int .u32 0, .int .u32 0, .int .u32 0, .int .u32 0] 23)) wr5.heap.size (List.replicate 16 (.int .u32 0)) := Row.new' rfl
                  have hTW := hHeld.2.size
                  refine hK.out _ _ k1 (fun hHeld => ?_)
                  clear hK K k1
                  obtain ⟨T, hTe⟩ : ∃ T, wr5.heap.size = T := ⟨_, rfl⟩
                  obtain ⟨wa, hwa⟩ : ∃ wa, wr5.alloc (.cells #[.int .u32 0, .int .u32 0, .int .u32 0, .int .u32 0, .int .u32 0, .int .u32 0, .int .u32 0, .int .u32 0, .int .u32 0, .int .u32 0, .int .u32 0, .int .u32 0, .int .u32 0, .int .u32 0, .int .u32 0, .int .u32 0] 23) = wa := ⟨_, rfl⟩
                  rw [hwa] at hT hHeld ⊢
                  rw [hTe] at hT hTW ⊢
                  clear hTe hwa
                  try simp only [Act.put, List.setIfInBounds_toArray, List.set_cons_zero, List.set_cons_succ]
                  refine wpAnyH_ready (rs := [10]) (by kernel_rfl) (by simp) ?_
                  refine AllReadyH.cons rfl (fun K hK => ?_) AllReadyH.nil
                  rw [if_pos (by rfl)]
                  obtain ⟨Tt, hTt⟩ := id hT
                  refine wp_store_row 23 _ _ rfl T (ints .u32 X1).toArray rfl rfl Tt _ hTt (by rw [List.size_toArray, HXL1.out]; exact info23) (by simp [HXL1.out]) (by simp [ints, Value.oneCell']) ?_
                  have k1 := hHeld.go (Upd.setRow wa T (ints .u32 X1).toArray) HC10.out (fun i h => by rw [h]; exact hTW)
                  have hT9 := hT.setRow (ints .u32 X1).toArray
                  refine hK.out _ _ k1 (fun hHeld => ?_)
                  clear hK K k1 hT hTt
                  obtain ⟨w9, hw9⟩ : ∃ w9, wa.setRow T (ints .u32 X1).toArray = w9 := ⟨_, rfl⟩
                  rw [hw9] at hT9 hHeld ⊢
                  clear hw9
                  change wpAnyH _ _ _ _ _ _ _ (Act.put _ none _) _
                  simp only [Act.put]
                  refine wpAnyH_take (i := 11) (v := ?_) rfl (by kernel_rfl) (by kernel_rfl) (by kernel_rfl) (fun _ _ _ h => h) (Or.inl ⟨by rfl, ?_⟩) hHeld ?_
                  rotate_left
                  · (intro w' hSw; go_simp) <;> with_reducible rfl
                  change wpAnyH _ _ _ _ _ _ _ (Act.put _ (some 13) _) _
                  try simp only [Act.put, List.setIfInBounds_toArray, List.set_cons_zero, List.set_cons_succ]
                  refine wpAnyH_done (by kernel_rfl) ?_ _
                  go_wp2_with fail
                  go_meet
                  case rel => exact ⟨T, x1, rfl, rfl, hTW, hT9, hHeld⟩
                refine AllReadyH.cons rfl (fun K hK => ?_) AllReadyH.nil
                go_simp
                have k1 := hHeld.go ((Upd.refl (fun _ => False) wr2).alloc (.cells #[.int .u32 0, .int .u32 0, .int .u32 0, .int .u32 0, .int .u32 0, .int .u32 0, .int .u32 0, .int .u32 0, .int .u32 0, .int .u32 0, .int .u32 0, .int .u32 0, .int .u32 0, .int .u32 0, .int .u32 0, .int .u32 0] 23)) HC10.out (fun _ h => h.elim)
                have hT : Row (wr2.alloc (.cells #[.int .u32 0, .int .u32 0, .int .u32 0, .int .u32 0, .int .u32 0, .int .u32 0, .int .u32 0, .int .u32 0, .int .u32 0, .int .u32 0, .int .u32 0, .int .u32 0, .int .u32 0, .int .u32 0, .int .u32 0, .int .u32 0] 23)) wr2.heap.size (List.replicate 16 (.int .u32 0)) := Row.new' rfl
                have hTW := hHeld.2.size
                have hown2 := hown2.alloc (.cells #[.int .u32 0, .int .u32 0, .int .u32 0, .int .u32 0, .int .u32 0, .int .u32 0, .int .u32 0, .int .u32 0, .int .u32 0, .int .u32 0, .int .u32 0, .int .u32 0, .int .u32 0, .int .u32 0, .int .u32 0, .int .u32 0] 23)
                refine hK.out _ _ k1 (fun hHeld => ?_)
                clear hK K k1
                obtain ⟨T, hTe⟩ : ∃ T, wr2.heap.size = T := ⟨_, rfl⟩
                obtain ⟨wa, hwa⟩ : ∃ wa, wr2.alloc (.cells #[.int .u32 0, .int .u32 0, .int .u32 0, .int .u32 0, .int .u32 0, .int .u32 0, .int .u32 0, .int .u32 0, .int .u32 0, .int .u32 0, .int .u32 0, .int .u32 0, .int .u32 0, .int .u32 0, .int .u32 0, .int .u32 0] 23) = wa := ⟨_, rfl⟩
                rw [hwa] at hT hHeld hown2 ⊢
                rw [hTe] at hT hTW ⊢
                clear hTe hwa
                try simp only [Act.put, List.setIfInBounds_toArray, List.set_cons_zero, List.set_cons_succ]
                refine wpAnyH_ready (rs := [5]) (by kernel_rfl) (by simp) ?_
                refine AllReadyH.cons rfl (fun K hK => ?_) AllReadyH.nil
                go_simp
                refine (HRUN1.out _ _ hown2 hHeld).mono ?_
                rintro e wr5 ⟨rfl, k1, uf5⟩
                simp only []
                have hT := hT.upd uf5 id
                refine hK.out _ _ k1 (fun hHeld => ?_)
                clear hK K k1 uf5
                try simp only [Act.put, List.setIfInBounds_toArray, List.set_cons_zero, List.set_cons_succ]
                refine wpAnyH_take (i := 6) (v := ?_) rfl (by kernel_rfl) (by kernel_rfl) (by kernel_rfl) (fun _ _ _ h => h) (Or.inl ⟨by rfl, ?_⟩) hHeld ?_
                rotate_left
                · (intro w' hSw; go_simp) <;> with_reducible rfl
                change wpAnyH _ _ _ _ _ _ _ (Act.put _ (some 75) _) _
                try simp only [Act.put, List.setIfInBounds_toArray, List.set_cons_zero, List.set_cons_succ]
                refine wpAnyH_take (i := 7) (v := ?_) rfl (by kernel_rfl) (by kernel_rfl) (by kernel_rfl) (fun _ _ _ h => h) (Or.inl ⟨by rfl, ?_⟩) hHeld ?_
                rotate_left
                · (intro w' hSw; go_simp) <;> with_reducible rfl
                change wpAnyH _ _ _ _ _ _ _ (Act.put _ (some 82) _) _
                try simp only [Act.put, List.setIfInBounds_toArray, List.set_cons_zero, List.set_cons_succ]
                refine wpAnyH_take (i := 8) (v := ?_) rfl (by kernel_rfl) (by kernel_rfl) (by kernel_rfl) (fun _ _ _ h => h) (Or.inl ⟨by rfl, ?_⟩) hHeld ?_
                rotate_left
                · (intro w' hSw; go_simp) <;> with_reducible rfl
                change wpAnyH _ _ _ _ _ _ _ (Act.put _ (some 83) _) _
                try simp only [Act.put, List.setIfInBounds_toArray, List.set_cons_zero, List.set_cons_succ]
                refine wpAnyH_ready (rs := [10]) (by kernel_rfl) (by simp) ?_
                refine AllReadyH.cons rfl (fun K hK => ?_) AllReadyH.nil
                rw [if_pos (by rfl)]
                obtain ⟨Tt, hTt⟩ := id hT
                refine wp_store_row 23 _ _ rfl T (ints .u32 X1).toArray rfl rfl Tt _ hTt (by rw [List.size_toArray, HXL1.out]; exact info23) (by simp [HXL1.out]) (by simp [ints, Value.oneCell']) ?_
                have k1 := hHeld.go (Upd.setRow wr5 T (ints .u32 X1).toArray) HC10.out (fun i h => by rw [h]; exact hTW)
                have hT9 := hT.setRow (ints .u32 X1).toArray
                refine hK.out _ _ k1 (fun hHeld => ?_)
                clear hK K k1 hT hTt
                obtain ⟨w9, hw9⟩ : ∃ w9, wr5.setRow T (ints .u32 X1).toArray = w9 := ⟨_, rfl⟩
                rw [hw9] at hT9 hHeld ⊢
                clear hw9
                change wpAnyH _ _ _ _ _ _ _ (Act.put _ none _) _
                simp only [Act.put]
                refine wpAnyH_take (i := 11) (v := ?_) rfl (by kernel_rfl) (by kernel_rfl) (by kernel_rfl) (fun _ _ _ h => h) (Or.inl ⟨by rfl, ?_⟩) hHeld ?_
                rotate_left
                · (intro w' hSw; go_simp) <;> with_reducible rfl
                change wpAnyH _ _ _ _ _ _ _ (Act.put _ (some 13) _) _
                try simp only [Act.put, List.setIfInBounds_toArray, List.set_cons_zero, List.set_cons_succ]
                refine wpAnyH_done (by kernel_rfl) ?_ _
                go_wp2_with fail
                go_meet
                case rel => exact ⟨T, x1, rfl, rfl, hTW, hT9, hHeld⟩
              refine AllReadyH.cons rfl (fun K hK => ?_) AllReadyH.nil
              go_simp
              have k1 := hHeld.go ((Upd.refl (fun _ => False) wd).alloc (.cells #[.int .u32 0, .int .u32 0, .int .u32 0, .int .u32 0, .int .u32 0, .int .u32 0, .int .u32 0, .int .u32 0, .int .u32 0, .int .u32 0, .int .u32 0, .int .u32 0, .int .u32 0, .int .u32 0, .int .u32 0, .int .u32 0] 23)) HC10.out (fun _ h => h.elim)
              have hT : Row (wd.alloc (.cells #[.int .u32 0, .int .u32 0, .int .u32 0, .int .u32 0, .int .u32 0, .int .u32 0, .int .u32 0, .int .u32 0, .int .u32 0, .int .u32 0, .int .u32 0, .int .u32 0, .int .u32 0, .int .u32 0, .int .u32 0, .int .u32 0] 23)) wd.heap.size (List.replicate 16 (.int .u32 0)) := Row.new' rfl
              have hTW := hHeld.2.size
              refine hK.out _ _ k1 (fun hHeld => ?_)
              clear hK K k1
              obtain ⟨T, hTe⟩ : ∃ T, wd.heap.size = T := ⟨_, rfl⟩
              obtain ⟨wa, hwa⟩ : ∃ wa, wd.alloc (.cells #[.int .u32 0, .int .u32 0, .int .u32 0, .int .u32 0, .int .u32 0, .int .u32 0, .int .u32 0, .int .u32 0, .int .u32 0, .int .u32 0, .int .u32 0, .int .u32 0, .int .u32 0, .int .u32 0, .int .u32 0, .int .u32 0] 23) = wa := ⟨_, rfl⟩
              rw [hwa] at hT hHeld ⊢
              rw [hTe] at hT hTW ⊢
              clear hTe hwa
              try simp only [Act.put, List.setIfInBounds_toArray, List.set_cons_zero, List.set_cons_succ]
              refine wpAnyH_ready (rs := [2]) (by kernel_rfl) (by simp) ?_
              refine AllReadyH.cons rfl (fun K hK => ?_) AllReadyH.nil
              go_simp
              refine (HREF1.out _ hHeld).mono ?_
              rintro e wr2 ⟨u2, rfl, k1, hown2, uf2⟩
              simp only []
              have hT := hT.upd uf2 id
              refine hK.out _ _ k1 (fun hHeld => ?_)
              clear hK K k1 uf2
              try simp only [Act.put, List.setIfInBounds_toArray, List.set_cons_zero, List.set_cons_succ]
              refine wpAnyH_ready (rs := [5]) (by kernel_rfl) (by simp) ?_
              refine AllReadyH.cons rfl (fun K hK => ?_) AllReadyH.nil
              go_simp
              refine (HRUN1.out _ _ hown2 hHeld).mono ?_
              rintro e wr5 ⟨rfl, k1, uf5⟩
              simp only []
              have hT := hT.upd uf5 id
              refine hK.out _ _ k1 (fun hHeld => ?_)
              clear hK K k1 uf5
              try simp only [Act.put, List.setIfInBounds_toArray, List.set_cons_zero, List.set_cons_succ]
              refine wpAnyH_take (i := 6) (v := ?_) rfl (by kernel_rfl) (by kernel_rfl) (by kernel_rfl) (fun _ _ _ h => h) (Or.inl ⟨by rfl, ?_⟩) hHeld ?_
              rotate_left
              · (intro w' hSw; go_simp) <;> with_reducible rfl
              change wpAnyH _ _ _ _ _ _ _ (Act.put _ (some 75) _) _
              try simp only [Act.put, List.setIfInBounds_toArray, List.set_cons_zero, List.set_cons_succ]
              refine wpAnyH_take (i := 7) (v := ?_) rfl (by kernel_rfl) (by kernel_rfl) (by kernel_rfl) (fun _ _ _ h => h) (Or.inl ⟨by rfl, ?_⟩) hHeld ?_
              rotate_left
              · (intro w' hSw; go_simp) <;> with_reducible rfl
              change wpAnyH _ _ _ _ _ _ _ (Act.put _ (some 82) _) _
              try simp only [Act.put, List.setIfInBounds_toArray, List.set_cons_zero, List.set_cons_succ]
              refine wpAnyH_take (i := 8) (v := ?_) rfl (by kernel_rfl) (by kernel_rfl) (by kernel_rfl) (fun _ _ _ h => h) (Or.inl ⟨by rfl, ?_⟩) hHeld ?_
              rotate_left
              · (intro w' hSw; go_simp) <;> with_reducible rfl
              change wpAnyH _ _ _ _ _ _ _ (Act.put _ (some 83) _) _
              try simp only [Act.put, List.setIfInBounds_toArray, List.set_cons_zero, List.set_cons_succ]
              refine wpAnyH_ready (rs := [10]) (by kernel_rfl) (by simp) ?_
              refine AllReadyH.cons rfl (fun K hK => ?_) AllReadyH.nil
              rw [if_pos (by rfl)]
              obtain ⟨Tt, hTt⟩ := id hT
              refine wp_store_row 23 _ _ rfl T (ints .u32 X1).toArray rfl rfl Tt _ hTt (by rw [List.size_toArray, HXL1.out]; exact info23) (by simp [HXL1.out]) (by simp [ints, Value.oneCell']) ?_
              have k1 := hHeld.go (Upd.setRow wr5 T (ints .u32 X1).toArray) HC10.out (fun i h => by rw [h]; exact hTW)
              have hT9 := hT.setRow (ints .u32 X1).toArray
              refine hK.out _ _ k1 (fun hHeld => ?_)
              clear hK K k1 hT hTt
              obtain ⟨w9, hw9⟩ : ∃ w9, wr5.setRow T (ints .u32 X1).toArray = w9 := ⟨_, rfl⟩
              rw [hw9] at hT9 hHeld ⊢
              clear hw9
              change wpAnyH _ _ _ _ _ _ _ (Act.put _ none _) _
              simp only [Act.put]
              refine wpAnyH_take (i := 11) (v := ?_) rfl (by kernel_rfl) (by kernel_rfl) (by kernel_rfl) (fun _ _ _ h => h) (Or.inl ⟨by rfl, ?_⟩) hHeld ?_
              rotate_left
              · (intro w' hSw; go_simp) <;> with_reducible rfl
              change wpAnyH _ _ _ _ _ _ _ (Act.put _ (some 13) _) _
              try simp only [Act.put, List.setIfInBounds_toArray, List.set_cons_zero, List.set_cons_succ]
              refine wpAnyH_done (by kernel_rfl) ?_ _
              go_wp2_with fail
              go_meet
              case rel => exact ⟨T, x1, rfl, rfl, hTW, hT9, hHeld⟩
            case rest =>
              obtain ⟨T1, x6', rfl, rfl, hTW1, hT1, hS1⟩ := hcut
              obtain ⟨w11, hw11⟩ : ∃ w11, wc = w11 := ⟨_, rfl⟩
              rw [hw11] at hT1 hS1 ⊢
              have U11 : Upd (fun _ => False) w10 w11 := Upd.of_below hS1.2
              have P11 := HP10.out.upd U11 id
              have NEQ1 : ∀ w, (binOp .neq 24 (.agg (ints .u32 X1).toArray) (.agg (ints .u32 X1).toArray)).run Try.prog w = .ok (.bool false) w := fun w => by rw [neq_cells w X1 X1 h161 h161]; simp
              have hi1 : (Try.prog.info? 24).map (·.size) = some (ints .u32 X1).length := by rw [HXL1.out]; exact info24
              have hi1' : (Try.prog.info? 23).map (·.size) = some (ints .u32 X1).length := by rw [HXL1.out]; exact info23
              clear hw11
              go_wp2_with (first
                | (refine wpList_load_whole rfl 24 _ rfl P rfl P11 _ hu24 rfl hi1 ?_)
                | (refine wpList_load_whole rfl 23 _ rfl T1 rfl hT1 _ hu23 rfl hi1' ?_))
              go_roundw
              case rel => exact ⟨k + 1, by omega, by go_num, by rw [HY1.out]; exact HR10.out.upd U11 id (fun _ _ => id), by rw [HY1.out]; exact P11, HT10.out.upd U11 id, hS1.1, U11.below HB10.out HB10.out.size (fun _ h => h.elim), U11.below HB101.out HB101.out.size (fun _ h => h.elim)⟩
              case measure => simp [intOf]; omega
          · obtain rfl : k = xs.length := by omega
            rw [List.take_length] at R8 P8
            rw [HX.out] at P8
            have EQX : ∀ w, (binOp .eql 24 (.agg (ints .u32 X).toArray) (.agg (ints .u32 X).toArray)).run Try.prog w = .ok (.bool true) w := fun w => by rw [eql_cells w X X hX16 hX16]; simp
            have hi1 : (Try.prog.info? 24).map (·.size) = some (ints .u32 X).length := by rw [HXL.out]; exact info24
            have hi1' : (Try.prog.info? 23).map (·.size) = some (ints .u32 X).length := by rw [HXL.out]; exact info23
            have zl : (((xs.length : Int) - xs.length) == 0) = true := by simp
            obtain ⟨num, hnum⟩ : ∃ num, (runs (cs, 0) xs).2 = num := ⟨_, rfl⟩
            rw [hnum] at R8
            have HR8 := Lib.hid R8
            clear hnum R8 C8 B81
            go_wp2_with fail
            refine (Go.Proofs.Ytpagebcokikmkaa.Sec.step_end _ r P u xs num HR8.out).mono ?_
            rintro e w12 ⟨rfl, u12⟩
            have R12 := HR8.out.upd u12 id (fun _ _ => id)
            have P12 := P8.upd u12 id
            have T12 := T8.upd u12 id
            have B12 := u12.below B8 B8.size (fun _ h => h.elim)
            have HR12 := Lib.hid R12
            clear R12 P8 T8 B8 u12
            go_wp2_with fail
            refine (leftC HR12.out (Nat.le_refl _) h64).mono ?_
            rintro e w' ⟨rfl, m9, rfl⟩
            have P13 := P12.drewN m9
            have T13 := T12.drewN m9
            have B13 := below_drewN B12 m9
            obtain ⟨w13, hw13⟩ : ∃ w', w12.drewN m9 = w' := ⟨_, rfl⟩
            rw [hw13] at P13 T13 B13 ⊢
            clear P12 T12 B12 hw13
            go_wp2_with (first
              | (refine wpList_load_g (by rfl) 24 _ rfl P rfl P13 _ hu24 rfl hi1 ?_)
              | (refine wpList_load_g (by rfl) 23 _ rfl T rfl T13 _ hu23 rfl hi1' ?_))
            refine (awake _).mono ?_
            rintro e w14 ⟨rfl, u14⟩
            go_wp2_with fail
            go_ret
            exact ⟨rfl, B13.trans (u14.mono B13.size)⟩
end Go.Proofs.Ytpagebcokikmkaa.WalkSectionRuns
