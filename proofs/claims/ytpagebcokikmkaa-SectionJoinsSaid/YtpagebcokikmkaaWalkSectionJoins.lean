/- The law SectionJoins, walked: two sections in one do what they do one behind the other, the second one beginning with a Load. -/
import Derived.Test.YtpagebcokikmkaaSecO
import Derived.Deep.MidRow
namespace Go.Proofs.Ytpagebcokikmkaa.WalkSectionJoins
open Go Go.RowKit Go.Deep Go.Proofs.Ytpagebcokikmkaa.Heap Go.Proofs.Ytpagebcokikmkaa.Open Go.Proofs.Ytpagebcokikmkaa.Sec

theorem runs_append (s : List Int × Int) (a b : List D) : runs s (a ++ b) = runs (runs s a) b := by simp [runs]
/-- A section that begins with a Load does not look at the number. -/
theorem runs_load (c : List Int) (n m : Int) (b : List D) (h : 0 < b.length → (b.getD 0 default).k = 1) : (runs (c, n) b).1 = (runs (c, m) b).1 := by
  cases b with
  | nil => rfl
  | cons x b =>
    have hx : x.k = 1 := h (by simp)
    show (runs (one x (c, n)) b).1 = (runs (one x (c, m)) b).1
    have e : one x (c, n) = one x (c, m) := by unfold one; rw [if_pos hx, if_pos hx]
    rw [e]
theorem joins (c : List Int) (a b : List D) (h : 0 < b.length → (b.getD 0 default).k = 1) : (runs ((runs (c, 0) a).1, 0) b).1 = (runs (c, 0) (a ++ b)).1 := by
  rw [runs_append]
  exact runs_load (runs (c, 0) a).1 0 (runs (c, 0) a).2 b h
theorem fine_may {xs : List D} (h : fine xs = true) : ∀ x ∈ xs, x.may = true := by
  simp only [fine, Bool.and_eq_true, List.all_eq_true] at h; exact h.1
theorem flat_append (a b : List D) : flat (a ++ b) = flat a ++ flat b := by simp [flat]

theorem run_held (w : World) (v : Value) (xs : List D) (cs : List Int) (X : List Int) (hX : (runs (cs, 0) xs).1 = X) (h16 : cs.length = 16) (hm : ∀ x ∈ xs, x.may = true) (hfit : xs.length * 24 ≤ 140737488351232) (w0 : World) (hb : Nat) (l : List Value)
    (h : Src w0 v xs) (hS : w.rangeAt hb 0 l ∧ Below w0.heap.size w0 w) (hlt : hb < w0.heap.size) :
    Calls Try.prog 9 #[.agg (ints .u32 cs).toArray, v] w fun e w' => e = .returned (.agg (ints .u32 X).toArray) ∧ (w'.rangeAt hb 0 l ∧ Below w0.heap.size w0 w') := by
  refine (run_all w v xs cs (h.cellsIn hS.2) hfit h16 hm).mono ?_
  rintro e w' ⟨rfl, u⟩
  have := hS.2.size
  exact ⟨by rw [hX], fun j x hj => (u.none.cell (p := ⟨hb, 0 + j, none⟩) (by show hb < _; omega)).trans (hS.1 j x hj), hS.2.trans (u.none.mono hS.2.size)⟩
theorem awake_held (w : World) (w0 : World) (hb : Nat) (l : List Value) (hS : w.rangeAt hb 0 l ∧ Below w0.heap.size w0 w) (hlt : hb < w0.heap.size) :
    Calls Try.prog 8 #[] w fun e w' => e = .returned (.bool true) ∧ (w'.rangeAt hb 0 l ∧ Below w0.heap.size w0 w') := by
  refine (awake w).mono ?_
  rintro e w' ⟨rfl, u⟩
  have := hS.2.size
  exact ⟨rfl, fun j x hj => (u.cell (p := ⟨hb, 0 + j, none⟩) (by show hb < _; omega)).trans (hS.1 j x hj), hS.2.trans (u.mono hS.2.size)⟩

set_option maxHeartbeats 1000000 in
theorem walk (vc : Value) (cs : List Int) (va : Value) (xs : List D) (vb : Value) (ys : List D) (w : World) (hc : CellsIn vc cs) (ha : DeedsIn w va xs) (hb : DeedsIn w vb ys) :
    Calls Try.prog 4 #[vc, va, vb] w fun e w' => e = .returned (.bool true) ∧ Below w.heap.size w w' := by
  obtain ⟨rfl, h16⟩ := hc
  obtain ⟨aa, ca, rfl⟩ := ha.src.len
  obtain ⟨ab, cb, rfl⟩ := hb.src.len
  have hcl : (ints .u32 cs).length = 16 := by rw [ints_len]; exact h16
  have B0 : Below w.heap.size w (w.alloc (.cells (ints .u32 cs).toArray 24)) := (Below.refl _ _).alloc (Nat.le_refl _) _
  go_enter Try.func4, Try.ntmps4
  go_wp2_with fail
  refine (fine_all _ _ xs (ha.1.below B0)).mono ?_
  rintro e w1 ⟨rfl, u1⟩
  have B1 : Below w.heap.size w w1 := B0.trans (u1.none.mono (by simp))
  have C1 : Row w1 w.heap.size (ints .u32 cs) := (Row.new' rfl).upd u1 id
  clear u1 B0
  cases hfa : fine xs
  · clear ha hb C1 hfa
    go_wp2_with fail
    refine (awake _).mono ?_
    rintro e w4 ⟨rfl, u4⟩
    go_wp2
    go_ret
    exact ⟨rfl, B1.trans (u4.mono B1.size)⟩
  have hma := fine_may hfa
  clear hfa
  go_wp2_with fail
  refine (fine_all _ _ ys (hb.1.below B1)).mono ?_
  rintro e w2 ⟨rfl, u2⟩
  have B2 : Below w.heap.size w w2 := B1.trans (u2.none.mono B1.size)
  have C2 : Row w2 w.heap.size (ints .u32 cs) := C1.upd u2 id
  clear u2 B1 C1
  cases hfb : fine ys
  · clear ha hb C2 hfb hma
    go_wp2_with fail
    refine (awake _).mono ?_
    rintro e w4 ⟨rfl, u4⟩
    go_wp2
    go_ret
    exact ⟨rfl, B2.trans (u4.mono B2.size)⟩
  have hmb := fine_may hfb
  clear hfb
  by_cases la : 32 < xs.length
  · have la' : (32 : Int) < xs.length := by omega
    clear ha hb C2 hma hmb la
    go_wp2_with fail
    refine (awake _).mono ?_
    rintro e w4 ⟨rfl, u4⟩
    go_wp2
    go_ret
    exact ⟨rfl, B2.trans (u4.mono B2.size)⟩
  by_cases lb : 32 < ys.length
  · have la' : (xs.length : Int) ≤ 32 := by omega
    have lb' : (32 : Int) < ys.length := by omega
    clear ha hb C2 hma hmb la lb
    go_wp2_with fail
    refine (awake _).mono ?_
    rintro e w4 ⟨rfl, u4⟩
    go_wp2
    go_ret
    exact ⟨rfl, B2.trans (u4.mono B2.size)⟩
  have la' : (xs.length : Int) ≤ 32 := by omega
  have lb' : (ys.length : Int) ≤ 32 := by omega
  have hcase : (ys.length = 0 ∨ (0 < ys.length ∧ (ys.getD 0 default).k = 1)) ∨ (0 < ys.length ∧ (ys.getD 0 default).k ≠ 1) := by omega
  rcases hcase.symm with ⟨hp, hk⟩ | hcase
  · obtain ⟨b, off, rfl, hbl, hcell⟩ := hb.1.row hp
    obtain ⟨c0, _, _⟩ := hcell w2 B2 0 hp
    rw [Nat.zero_mul, Nat.add_zero] at c0
    obtain ⟨kk, hkk⟩ : ∃ kk, (ys.getD 0 default).k = kk := ⟨_, rfl⟩
    rw [hkk] at c0 hk
    have t1 : (kk != 1) = true := by simpa using hk
    have hp' : (0 : Int) < ys.length := by omega
    clear ha hb C2 hma hmb la lb hk hkk hcell
    go_wp2_with fail
    refine (awake _).mono ?_
    rintro e w4 ⟨rfl, u4⟩
    go_wp2
    go_ret
    exact ⟨rfl, B2.trans (u4.mono B2.size)⟩
  have hk : 0 < ys.length → (ys.getD 0 default).k = 1 := fun h => by rcases hcase with e | e; omega; exact e.2
  rcases hcase with hz | ⟨hp, h1k⟩
  · have hp' : (ys.length : Int) ≤ 0 := by omega
    clear hz
    have hfx := ha.1.fit
    have hfy := hb.1.fit
    have SX := ha.src.cellsIn B2
    have SY := hb.src.cellsIn B2
    have E0 := own_empty w2 30
    go_wp2_with (first
      | (at_builtin; refine wpList_append_src rfl (.tmp 39) (.tmp 40) 25 rfl w2.heap.size 30 (.agg #[.int .i64 0, .int .i64 0, .int .u32 0]) 3 24 Try.underlying25 info_deed rfl (by decide) (.slice (some ⟨w2.heap.size, 0, none⟩) 0 0) 0 [] rfl E0 _ xs.length (flat xs) rfl (SX.cellsIn ((Below.refl _ _).alloc (Nat.le_refl _) _)).readable (flat_len xs) (flat_one xs) (by unfold maxLen; omega) (by omega) (by simp) ?_; intro v' w3 hown1 u3 hnear; rw [Nat.zero_add, List.nil_append] at hown1; have B3 : Below w2.heap.size w2 w3 := u3.below ((Below.refl _ _).alloc (Nat.le_refl _) _) (by simp) (by intro i hi; simp [Value.ownBlock] at hi; omega); clear hnear u3 E0)
      | (at_builtin; refine wpList_append_src rfl (.tmp 41) (.tmp 42) 25 rfl w2.heap.size 30 (.agg #[.int .i64 0, .int .i64 0, .int .u32 0]) 3 24 Try.underlying25 info_deed rfl (by decide) v' xs.length (flat xs) rfl hown1 _ ys.length (flat ys) rfl (SY.cellsIn B3).readable (flat_len ys) (flat_one ys) (by unfold maxLen; omega) (by omega) B3.size ?_; intro v4 w4 hown2 u4 hnear; have B4 : Below w2.heap.size w2 w4 := u4.below B3 B3.size (by intro i hi; exact (own_lt hown1 hi).2); clear hnear u4))
    have hown3 : w4.ownsRow w2.heap.size 30 3 v4 (xs ++ ys).length (flat (xs ++ ys)) := by rw [flat_append, List.length_append]; exact hown2
    have SZ := Src.of_owned hown3
    have S4X := SX.cellsIn B4
    have S4Y := SY.cellsIn B4
    have C4 : Row w4 w.heap.size (ints .u32 cs) := C2.below B4 C2.lt
    have hh := C4.lt
    have B5 : Below w.heap.size w w4 := B2.trans (B4.mono B2.size)
    have hX := joins cs xs ys hk
    obtain ⟨X, eX⟩ : ∃ X, (runs (cs, 0) (xs ++ ys)).1 = X := ⟨_, rfl⟩
    obtain ⟨A, eA⟩ : ∃ A, (runs (cs, 0) xs).1 = A := ⟨_, rfl⟩
    have hA16 : A.length = 16 := by rw [← eA, runs_len]; exact h16
    have hX16 : X.length = 16 := by rw [← eX, runs_len]; exact h16
    rw [eA, eX] at hX
    have EQ : ∀ w, (binOp .eql 24 (.agg (ints .u32 X).toArray) (.agg (ints .u32 X).toArray)).run Try.prog w = .ok (.bool true) w := fun w => by rw [eql_cells w X X hX16 hX16]; simp
    have hS0 : w4.rangeAt w.heap.size 0 (ints .u32 cs) ∧ Below w4.heap.size w4 w4 := ⟨fun j x hj => by rw [Nat.zero_add]; exact C4.cell hj, Below.refl _ _⟩
    have hmz : ∀ x ∈ xs ++ ys, x.may = true := fun x hx => by rcases List.mem_append.1 hx with h | h; exact hma x h; exact hmb x h
    have hfz : (xs ++ ys).length * 24 ≤ 140737488351232 := by rw [List.length_append]; omega
    have HX := Lib.hid hX; have EX := Lib.hid eX; have EA := Lib.hid eA
    obtain ⟨zs, hzs⟩ : ∃ zs, xs ++ ys = zs := ⟨_, rfl⟩
    rw [hzs] at SZ hmz hfz EX
    have hi24 : (Try.prog.info? 24).map (·.size) = some (ints .u32 cs).length := by rw [hcl]; exact info24
    have hu24 := Try.underlying24
    clear hX eX eA hown1 hown2 hown3 SX SY B3 B4 C2 C4 hzs hcl ha hb B2 hk
    go_wp2_with fail
    -- REGION
    refine wp_region_held_drew (S := fun w' => w'.rangeAt w.heap.size 0 (ints .u32 cs) ∧ Below w4.heap.size w4 w') (by kernel_rfl) ⟨fun j x hj => hS0.1 j x hj, below_drewN hS0.2 1⟩ (fun hHeld => ?_)
    refine wpAnyH_take (i := 0) rfl (by kernel_rfl) (by kernel_rfl) (by kernel_rfl) (fun _ _ _ h => h) (yieldsIf_load_mid (by rfl) 24 _ rfl w.heap.size 0 rfl (ints .u32 cs) _ (fun w' h => h.1) hu24 rfl hi24) hHeld ?_
    change wpAnyH _ _ _ _ _ _ _ (Act.put _ (some 44) _) _
    try simp only [Act.put, List.setIfInBounds_toArray, List.set_cons_zero, List.set_cons_succ]
    refine wpAnyH_take (i := 3) rfl (by kernel_rfl) (by kernel_rfl) (by kernel_rfl) (fun _ _ _ h => h) (yieldsIf_load_mid (by rfl) 24 _ rfl w.heap.size 0 rfl (ints .u32 cs) _ (fun w' h => h.1) hu24 rfl hi24) hHeld ?_
    change wpAnyH _ _ _ _ _ _ _ (Act.put _ (some 47) _) _
    try simp only [Act.put, List.setIfInBounds_toArray, List.set_cons_zero, List.set_cons_succ]
    refine wpAnyH_take (i := 1) (v := ?_) rfl (by kernel_rfl) (by kernel_rfl) (by kernel_rfl) (fun _ _ _ h => h) (Or.inl ⟨by rfl, ?_⟩) hHeld ?_
    rotate_left
    · (intro w' hSw; go_simp) <;> with_reducible rfl
    change wpAnyH _ _ _ _ _ _ _ (Act.put _ (some 45) _) _
    try simp only [Act.put, List.setIfInBounds_toArray, List.set_cons_zero, List.set_cons_succ]
    refine wpAnyH_take (i := 4) (v := ?_) rfl (by kernel_rfl) (by kernel_rfl) (by kernel_rfl) (fun _ _ _ h => h) (Or.inl ⟨by rfl, ?_⟩) hHeld ?_
    rotate_left
    · (intro w' hSw; go_simp) <;> with_reducible rfl
    change wpAnyH _ _ _ _ _ _ _ (Act.put _ (some 48) _) _
    try simp only [Act.put, List.setIfInBounds_toArray, List.set_cons_zero, List.set_cons_succ]
    refine wpAnyH_take (i := 6) (v := ?_) rfl (by kernel_rfl) (by kernel_rfl) (by kernel_rfl) (fun _ _ _ h => h) (Or.inl ⟨by rfl, ?_⟩) hHeld ?_
    rotate_left
    · (intro w' hSw; go_simp) <;> with_reducible rfl
    change wpAnyH _ _ _ _ _ _ _ (Act.put _ (some 50) _) _
    try simp only [Act.put, List.setIfInBounds_toArray, List.set_cons_zero, List.set_cons_succ]
    refine wpAnyH_ready (rs := [2]) (by kernel_rfl) (by simp) ?_
    refine AllReadyH.cons rfl (fun K hK => ?_) ?_
    · go_simp
      refine (run_held _ _ zs cs X EX.out h16 hmz hfz w4 w.heap.size (ints .u32 cs) SZ hHeld hh).mono ?_
      rintro e w5 ⟨rfl, k1⟩
      simp only []
      refine hK.out _ _ k1 (fun hHeld => ?_)
      clear hK K
      try simp only [Act.put, List.setIfInBounds_toArray, List.set_cons_zero, List.set_cons_succ]
      refine wpAnyH_ready (rs := [5]) (by kernel_rfl) (by simp) ?_
      refine AllReadyH.cons rfl (fun K hK => ?_) ?_
      · go_simp
        refine (run_held _ _ xs cs A EA.out h16 hma hfx w4 w.heap.size (ints .u32 cs) S4X hHeld hh).mono ?_
        rintro e w5 ⟨rfl, k1⟩
        simp only []
        refine hK.out _ _ k1 (fun hHeld => ?_)
        clear hK K
        try simp only [Act.put, List.setIfInBounds_toArray, List.set_cons_zero, List.set_cons_succ]
        refine wpAnyH_ready (rs := [7]) (by kernel_rfl) (by simp) ?_
        refine AllReadyH.cons rfl (fun K hK => ?_) ?_
        · go_simp
          refine (run_held _ _ ys A X HX.out hA16 hmb hfy w4 w.heap.size (ints .u32 cs) S4Y hHeld hh).mono ?_
          rintro e w5 ⟨rfl, k1⟩
          simp only []
          refine hK.out _ _ k1 (fun hHeld => ?_)
          clear hK K
          try simp only [Act.put, List.setIfInBounds_toArray, List.set_cons_zero, List.set_cons_succ]
          refine wpAnyH_take (i := 8) (v := ?_) rfl (by kernel_rfl) (by kernel_rfl) (by kernel_rfl) (fun _ _ _ h => h) (Or.inl ⟨by rfl, ?_⟩) hHeld ?_
          rotate_left
          · (intro w' hSw; go_simp) <;> with_reducible rfl
          change wpAnyH _ _ _ _ _ _ _ (Act.put _ (some 52) _) _
          try simp only [Act.put, List.setIfInBounds_toArray, List.set_cons_zero, List.set_cons_succ]
          refine wpAnyH_take (i := 9) (v := ?_) rfl (by kernel_rfl) (by kernel_rfl) (by kernel_rfl) (fun _ _ _ h => h) (Or.inl ⟨by rfl, ?_⟩) hHeld ?_
          rotate_left
          · (intro w' hSw; go_simp) <;> with_reducible rfl
          change wpAnyH _ _ _ _ _ _ _ (Act.put _ (some 53) _) _
          try simp only [Act.put, List.setIfInBounds_toArray, List.set_cons_zero, List.set_cons_succ]
          refine wpAnyH_ready (rs := [10]) (by kernel_rfl) (by simp) ?_
          refine AllReadyH.cons rfl (fun K hK => ?_) ?_
          · go_simp
            refine (awake_held _ w4 w.heap.size (ints .u32 cs) hHeld hh).mono ?_
            rintro e w5 ⟨rfl, k1⟩
            simp only []
            refine hK.out _ _ k1 (fun hHeld => ?_)
            clear hK K
            try simp only [Act.put, List.setIfInBounds_toArray, List.set_cons_zero, List.set_cons_succ]
            refine wpAnyH_take (i := 11) (v := ?_) rfl (by kernel_rfl) (by kernel_rfl) (by kernel_rfl) (fun _ _ _ h => h) (Or.inl ⟨by rfl, ?_⟩) hHeld ?_
            rotate_left
            · (intro w' hSw; go_simp) <;> with_reducible rfl
            change wpAnyH _ _ _ _ _ _ _ (Act.put _ (some 55) _) _
            try simp only [Act.put, List.setIfInBounds_toArray, List.set_cons_zero, List.set_cons_succ]
            refine wpAnyH_take (i := 12) (v := ?_) rfl (by kernel_rfl) (by kernel_rfl) (by kernel_rfl) (fun _ _ _ h => h) (Or.inl ⟨by rfl, ?_⟩) hHeld ?_
            rotate_left
            · (intro w' hSw; go_simp) <;> with_reducible rfl
            change wpAnyH _ _ _ _ _ _ _ (Act.put _ (some 6) _) _
            try simp only [Act.put, List.setIfInBounds_toArray, List.set_cons_zero, List.set_cons_succ]
            refine wpAnyH_done (by kernel_rfl) ?_ _
            go_wp2
            go_ret
            exact ⟨rfl, B5.trans (k1.2.mono B5.size)⟩
          exact AllReadyH.nil
        exact AllReadyH.nil
      exact AllReadyH.nil
    exact AllReadyH.nil
    -- END
  · obtain ⟨b, off, rfl, hbl, hcell⟩ := hb.1.row hp
    obtain ⟨c0, _, _⟩ := hcell w2 B2 0 hp
    rw [Nat.zero_mul, Nat.add_zero, h1k] at c0
    have hp' : (0 : Int) < ys.length := by omega
    clear hcell h1k
    have hfx := ha.1.fit
    have hfy := hb.1.fit
    have SX := ha.src.cellsIn B2
    have SY := hb.src.cellsIn B2
    have E0 := own_empty w2 30
    go_wp2_with (first
      | (at_builtin; refine wpList_append_src rfl (.tmp 39) (.tmp 40) 25 rfl w2.heap.size 30 (.agg #[.int .i64 0, .int .i64 0, .int .u32 0]) 3 24 Try.underlying25 info_deed rfl (by decide) (.slice (some ⟨w2.heap.size, 0, none⟩) 0 0) 0 [] rfl E0 _ xs.length (flat xs) rfl (SX.cellsIn ((Below.refl _ _).alloc (Nat.le_refl _) _)).readable (flat_len xs) (flat_one xs) (by unfold maxLen; omega) (by omega) (by simp) ?_; intro v' w3 hown1 u3 hnear; rw [Nat.zero_add, List.nil_append] at hown1; have B3 : Below w2.heap.size w2 w3 := u3.below ((Below.refl _ _).alloc (Nat.le_refl _) _) (by simp) (by intro i hi; simp [Value.ownBlock] at hi; omega); clear hnear u3 E0)
      | (at_builtin; refine wpList_append_src rfl (.tmp 41) (.tmp 42) 25 rfl w2.heap.size 30 (.agg #[.int .i64 0, .int .i64 0, .int .u32 0]) 3 24 Try.underlying25 info_deed rfl (by decide) v' xs.length (flat xs) rfl hown1 _ ys.length (flat ys) rfl (SY.cellsIn B3).readable (flat_len ys) (flat_one ys) (by unfold maxLen; omega) (by omega) B3.size ?_; intro v4 w4 hown2 u4 hnear; have B4 : Below w2.heap.size w2 w4 := u4.below B3 B3.size (by intro i hi; exact (own_lt hown1 hi).2); clear hnear u4))
    have hown3 : w4.ownsRow w2.heap.size 30 3 v4 (xs ++ ys).length (flat (xs ++ ys)) := by rw [flat_append, List.length_append]; exact hown2
    have SZ := Src.of_owned hown3
    have S4X := SX.cellsIn B4
    have S4Y := SY.cellsIn B4
    have C4 : Row w4 w.heap.size (ints .u32 cs) := C2.below B4 C2.lt
    have hh := C4.lt
    have B5 : Below w.heap.size w w4 := B2.trans (B4.mono B2.size)
    have hX := joins cs xs ys hk
    obtain ⟨X, eX⟩ : ∃ X, (runs (cs, 0) (xs ++ ys)).1 = X := ⟨_, rfl⟩
    obtain ⟨A, eA⟩ : ∃ A, (runs (cs, 0) xs).1 = A := ⟨_, rfl⟩
    have hA16 : A.length = 16 := by rw [← eA, runs_len]; exact h16
    have hX16 : X.length = 16 := by rw [← eX, runs_len]; exact h16
    rw [eA, eX] at hX
    have EQ : ∀ w, (binOp .eql 24 (.agg (ints .u32 X).toArray) (.agg (ints .u32 X).toArray)).run Try.prog w = .ok (.bool true) w := fun w => by rw [eql_cells w X X hX16 hX16]; simp
    have hS0 : w4.rangeAt w.heap.size 0 (ints .u32 cs) ∧ Below w4.heap.size w4 w4 := ⟨fun j x hj => by rw [Nat.zero_add]; exact C4.cell hj, Below.refl _ _⟩
    have hmz : ∀ x ∈ xs ++ ys, x.may = true := fun x hx => by rcases List.mem_append.1 hx with h | h; exact hma x h; exact hmb x h
    have hfz : (xs ++ ys).length * 24 ≤ 140737488351232 := by rw [List.length_append]; omega
    have HX := Lib.hid hX; have EX := Lib.hid eX; have EA := Lib.hid eA
    obtain ⟨zs, hzs⟩ : ∃ zs, xs ++ ys = zs := ⟨_, rfl⟩
    rw [hzs] at SZ hmz hfz EX
    have hi24 : (Try.prog.info? 24).map (·.size) = some (ints .u32 cs).length := by rw [hcl]; exact info24
    have hu24 := Try.underlying24
    clear hX eX eA hown1 hown2 hown3 SX SY B3 B4 C2 C4 hzs hcl ha hb B2 hk
    go_wp2_with fail
    -- REGION
    refine wp_region_held_drew (S := fun w' => w'.rangeAt w.heap.size 0 (ints .u32 cs) ∧ Below w4.heap.size w4 w') (by kernel_rfl) ⟨fun j x hj => hS0.1 j x hj, below_drewN hS0.2 1⟩ (fun hHeld => ?_)
    refine wpAnyH_take (i := 0) rfl (by kernel_rfl) (by kernel_rfl) (by kernel_rfl) (fun _ _ _ h => h) (yieldsIf_load_mid (by rfl) 24 _ rfl w.heap.size 0 rfl (ints .u32 cs) _ (fun w' h => h.1) hu24 rfl hi24) hHeld ?_
    change wpAnyH _ _ _ _ _ _ _ (Act.put _ (some 44) _) _
    try simp only [Act.put, List.setIfInBounds_toArray, List.set_cons_zero, List.set_cons_succ]
    refine wpAnyH_take (i := 3) rfl (by kernel_rfl) (by kernel_rfl) (by kernel_rfl) (fun _ _ _ h => h) (yieldsIf_load_mid (by rfl) 24 _ rfl w.heap.size 0 rfl (ints .u32 cs) _ (fun w' h => h.1) hu24 rfl hi24) hHeld ?_
    change wpAnyH _ _ _ _ _ _ _ (Act.put _ (some 47) _) _
    try simp only [Act.put, List.setIfInBounds_toArray, List.set_cons_zero, List.set_cons_succ]
    refine wpAnyH_take (i := 1) (v := ?_) rfl (by kernel_rfl) (by kernel_rfl) (by kernel_rfl) (fun _ _ _ h => h) (Or.inl ⟨by rfl, ?_⟩) hHeld ?_
    rotate_left
    · (intro w' hSw; go_simp) <;> with_reducible rfl
    change wpAnyH _ _ _ _ _ _ _ (Act.put _ (some 45) _) _
    try simp only [Act.put, List.setIfInBounds_toArray, List.set_cons_zero, List.set_cons_succ]
    refine wpAnyH_take (i := 4) (v := ?_) rfl (by kernel_rfl) (by kernel_rfl) (by kernel_rfl) (fun _ _ _ h => h) (Or.inl ⟨by rfl, ?_⟩) hHeld ?_
    rotate_left
    · (intro w' hSw; go_simp) <;> with_reducible rfl
    change wpAnyH _ _ _ _ _ _ _ (Act.put _ (some 48) _) _
    try simp only [Act.put, List.setIfInBounds_toArray, List.set_cons_zero, List.set_cons_succ]
    refine wpAnyH_take (i := 6) (v := ?_) rfl (by kernel_rfl) (by kernel_rfl) (by kernel_rfl) (fun _ _ _ h => h) (Or.inl ⟨by rfl, ?_⟩) hHeld ?_
    rotate_left
    · (intro w' hSw; go_simp) <;> with_reducible rfl
    change wpAnyH _ _ _ _ _ _ _ (Act.put _ (some 50) _) _
    try simp only [Act.put, List.setIfInBounds_toArray, List.set_cons_zero, List.set_cons_succ]
    refine wpAnyH_ready (rs := [2]) (by kernel_rfl) (by simp) ?_
    refine AllReadyH.cons rfl (fun K hK => ?_) ?_
    · go_simp
      refine (run_held _ _ zs cs X EX.out h16 hmz hfz w4 w.heap.size (ints .u32 cs) SZ hHeld hh).mono ?_
      rintro e w5 ⟨rfl, k1⟩
      simp only []
      refine hK.out _ _ k1 (fun hHeld => ?_)
      clear hK K
      try simp only [Act.put, List.setIfInBounds_toArray, List.set_cons_zero, List.set_cons_succ]
      refine wpAnyH_ready (rs := [5]) (by kernel_rfl) (by simp) ?_
      refine AllReadyH.cons rfl (fun K hK => ?_) ?_
      · go_simp
        refine (run_held _ _ xs cs A EA.out h16 hma hfx w4 w.heap.size (ints .u32 cs) S4X hHeld hh).mono ?_
        rintro e w5 ⟨rfl, k1⟩
        simp only []
        refine hK.out _ _ k1 (fun hHeld => ?_)
        clear hK K
        try simp only [Act.put, List.setIfInBounds_toArray, List.set_cons_zero, List.set_cons_succ]
        refine wpAnyH_ready (rs := [7]) (by kernel_rfl) (by simp) ?_
        refine AllReadyH.cons rfl (fun K hK => ?_) ?_
        · go_simp
          refine (run_held _ _ ys A X HX.out hA16 hmb hfy w4 w.heap.size (ints .u32 cs) S4Y hHeld hh).mono ?_
          rintro e w5 ⟨rfl, k1⟩
          simp only []
          refine hK.out _ _ k1 (fun hHeld => ?_)
          clear hK K
          try simp only [Act.put, List.setIfInBounds_toArray, List.set_cons_zero, List.set_cons_succ]
          refine wpAnyH_take (i := 8) (v := ?_) rfl (by kernel_rfl) (by kernel_rfl) (by kernel_rfl) (fun _ _ _ h => h) (Or.inl ⟨by rfl, ?_⟩) hHeld ?_
          rotate_left
          · (intro w' hSw; go_simp) <;> with_reducible rfl
          change wpAnyH _ _ _ _ _ _ _ (Act.put _ (some 52) _) _
          try simp only [Act.put, List.setIfInBounds_toArray, List.set_cons_zero, List.set_cons_succ]
          refine wpAnyH_take (i := 9) (v := ?_) rfl (by kernel_rfl) (by kernel_rfl) (by kernel_rfl) (fun _ _ _ h => h) (Or.inl ⟨by rfl, ?_⟩) hHeld ?_
          rotate_left
          · (intro w' hSw; go_simp) <;> with_reducible rfl
          change wpAnyH _ _ _ _ _ _ _ (Act.put _ (some 53) _) _
          try simp only [Act.put, List.setIfInBounds_toArray, List.set_cons_zero, List.set_cons_succ]
          refine wpAnyH_ready (rs := [10]) (by kernel_rfl) (by simp) ?_
          refine AllReadyH.cons rfl (fun K hK => ?_) ?_
          · go_simp
            refine (awake_held _ w4 w.heap.size (ints .u32 cs) hHeld hh).mono ?_
            rintro e w5 ⟨rfl, k1⟩
            simp only []
            refine hK.out _ _ k1 (fun hHeld => ?_)
            clear hK K
            try simp only [Act.put, List.setIfInBounds_toArray, List.set_cons_zero, List.set_cons_succ]
            refine wpAnyH_take (i := 11) (v := ?_) rfl (by kernel_rfl) (by kernel_rfl) (by kernel_rfl) (fun _ _ _ h => h) (Or.inl ⟨by rfl, ?_⟩) hHeld ?_
            rotate_left
            · (intro w' hSw; go_simp) <;> with_reducible rfl
            change wpAnyH _ _ _ _ _ _ _ (Act.put _ (some 55) _) _
            try simp only [Act.put, List.setIfInBounds_toArray, List.set_cons_zero, List.set_cons_succ]
            refine wpAnyH_take (i := 12) (v := ?_) rfl (by kernel_rfl) (by kernel_rfl) (by kernel_rfl) (fun _ _ _ h => h) (Or.inl ⟨by rfl, ?_⟩) hHeld ?_
            rotate_left
            · (intro w' hSw; go_simp) <;> with_reducible rfl
            change wpAnyH _ _ _ _ _ _ _ (Act.put _ (some 6) _) _
            try simp only [Act.put, List.setIfInBounds_toArray, List.set_cons_zero, List.set_cons_succ]
            refine wpAnyH_done (by kernel_rfl) ?_ _
            go_wp2
            go_ret
            exact ⟨rfl, B5.trans (k1.2.mono B5.size)⟩
          exact AllReadyH.nil
        exact AllReadyH.nil
      exact AllReadyH.nil
    exact AllReadyH.nil
    -- END
end Go.Proofs.Ytpagebcokikmkaa.WalkSectionJoins
