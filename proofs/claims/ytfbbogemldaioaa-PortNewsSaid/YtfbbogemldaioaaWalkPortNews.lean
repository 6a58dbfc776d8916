/- The law PortNews, walked: there are ports of just the numbers that may be; what was handed in, and changed behind, changes nothing. -/
import Derived.Test.YtfbbogemldaioaaOps04
import Derived.Test.YtfbbogemldaioaaPortN
import Derived.Test.YtfbbogemldaioaaDo02
namespace Go.Proofs.Ytfbbogemldaioaa.WalkPortNews
open Go Go.RowKit Go.Proofs.Ytfbbogemldaioaa.Heap Go.Proofs.Ytfbbogemldaioaa.Open Go.Proofs.Ytfbbogemldaioaa.Law04 Go.Proofs.Ytfbbogemldaioaa.Has

set_option maxRecDepth 100000 in
theorem many (K : Int) (a1 a2 : Option Addr) (n1 c1 n2 c2 : Nat) (w : World) (h : 60 < n1 ∨ 60 < n2) :
    Calls Try.prog 5 #[.int .i64 K, .slice a1 n1 c1, .slice a2 n2 c2] w fun e w' => e = .returned (.bool true) ∧ Below w.heap.size w w' := by
  have ho : (60 : Int) < n1 ∨ ((n1 : Int) ≤ 60 ∧ (60 : Int) < n2) := by omega
  clear h
  rcases ho with g1 | ⟨g1, g2⟩
  all_goals
    go_enter Try.func5, Try.ntmps5
    go_wp2_with fail
    refine (awake _).mono ?_
    rintro e w6 ⟨rfl, u6⟩
    go_wp2
    go_ret
    exact ⟨rfl, u6⟩
set_option maxHeartbeats 8000000 in
set_option maxRecDepth 100000 in
theorem wrong (K : Int) (v1 v2 : Value) (hs xs : List Int) (w : World) (h1 : Src1 w v1 .i64 hs) (h2 : Src1 w v2 .u32 xs) (l1 : hs.length ≤ 60) (l2 : xs.length ≤ 60) (hK : K < 1 ∨ 64 < K ∨ hs.length ≠ xs.length) :
    Calls Try.prog 5 #[.int .i64 K, v1, v2] w fun e w' => e = .returned (.bool true) ∧ Below w.heap.size w w' := by
  have rd1 := fun o => (h1.below ((Below.refl w.heap.size w).alloc (Nat.le_refl _) o)).readable
  have hs1 := h1
  have hs2 := h2
  obtain ⟨a1, cap1, rfl, -, -⟩ := id h1
  obtain ⟨a2, cap2, rfl, -, -⟩ := id h2
  have l1' : (hs.length : Int) ≤ 60 := by omega
  have l2' : (xs.length : Int) ≤ 60 := by omega
  have ho : K < 1 ∨ (1 ≤ K ∧ 64 < K) ∨ ((1 ≤ K ∧ K ≤ 64) ∧ ((hs.length : Int) != (xs.length : Int)) = true ∧ (hs.length == xs.length) = false) := by
    by_cases c1 : K < 1
    · exact .inl c1
    by_cases c2 : 64 < K
    · exact .inr (.inl ⟨by omega, c2⟩)
    have c3 : hs.length ≠ xs.length := by omega
    exact .inr (.inr ⟨⟨by omega, by omega⟩, by simp; omega, by simpa using c3⟩)
  go_enter Try.func5, Try.ntmps5
  go_wp2_with (first
    | (at_builtin; refine wpList_append_src rfl (.tmp 23) (.tmp 24) 27 rfl w.heap.size 3 (.int .i64 0) 1 8 Try.underlying27 Mem.info_i64 rfl (by decide) (.slice (some ⟨w.heap.size, 0, none⟩) 0 0) 0 [] rfl (Mem.own_empty1 w _) _ hs.length (ints .i64 hs) rfl (rd1 _) (Mem.ints_len1 hs) (Mem.ints_one hs) (by unfold maxLen; omega) (by omega) (by simp) ?_; intro v1' w1 hown1 u1 hnear1; rw [Nat.zero_add, List.nil_append] at hown1; have B1 : Below w.heap.size w w1 := u1.below ((Below.refl _ _).alloc (Nat.le_refl _) _) (by simp) (by intro i hi; simp [Value.ownBlock] at hi; omega); have s1 := B1.size; obtain ⟨ua, uc, rfl⟩ := owned_len1 hown1; have rd2 := fun o => (h2.below (B1.alloc B1.size o)).readable; clear hnear1 u1)
    | (at_builtin; refine wpList_append_src rfl (.tmp 26) (.tmp 27) 22 rfl w1.heap.size 28 (.int .u32 0) 1 4 Try.underlying22 Mem.info_u32 rfl (by decide) (.slice (some ⟨w1.heap.size, 0, none⟩) 0 0) 0 [] rfl (Mem.own_empty1 w1 _) _ xs.length (ints .u32 xs) rfl (rd2 _) (Mem.ints_len1 xs) (Mem.ints_one xs) (by unfold maxLen; omega) (by omega) (by simp) ?_; intro v2' w2 hown2 u2 hnear2; rw [Nat.zero_add, List.nil_append] at hown2; have B2 : Below w1.heap.size w1 w2 := u2.below ((Below.refl _ _).alloc (Nat.le_refl _) _) (by simp) (by intro i hi; simp [Value.ownBlock] at hi; omega); have s2 := B2.size; have hown1' := own_upd hown1 (Upd.of_below (S := fun _ => False) B2) (fun _ _ => id); have B12 : Below w.heap.size w w2 := B1.trans (B2.mono B1.size); obtain ⟨va, vc, rfl⟩ := owned_len1 hown2; clear hnear2 u2))
  refine (Port.newP_no _ K _ _ _ _ _ _ hK).mono ?_
  rintro e w3 ⟨rfl, rfl⟩
  rcases ho with g1 | ⟨g1, g2⟩ | ⟨⟨g1, g2⟩, g3, g4⟩
  all_goals
    go_wp2_with fail
    refine (awake _).mono ?_
    rintro e w6 ⟨rfl, u6⟩
    go_wp2
    go_ret
    exact ⟨rfl, B12.trans (u6.mono B12.size)⟩
set_option maxHeartbeats 8000000 in
set_option maxRecDepth 100000 in
theorem bad (K : Int) (v1 v2 : Value) (hs xs : List Int) (w : World) (h1 : Src1 w v1 .i64 hs) (h2 : Src1 w v2 .u32 xs) (l1 : hs.length ≤ 60) (l2 : xs.length ≤ 60) (k1 : 1 ≤ K) (k2 : K ≤ 64) (hl : hs.length = xs.length) (hok : Mem.homesOk hs = false) :
    Calls Try.prog 5 #[.int .i64 K, v1, v2] w fun e w' => e = .returned (.bool true) ∧ Below w.heap.size w w' := by
  have rd1 := fun o => (h1.below ((Below.refl w.heap.size w).alloc (Nat.le_refl _) o)).readable
  have hs1 := h1
  have hs2 := h2
  obtain ⟨a1, cap1, rfl, -, -⟩ := id h1
  obtain ⟨a2, cap2, rfl, -, -⟩ := id h2
  have l1' : (hs.length : Int) ≤ 60 := by omega
  have l2' : (xs.length : Int) ≤ 60 := by omega
  have HO := Lib.hid hok
  have HL := Lib.hid hl
  have g4 : ((hs.length : Int) != (xs.length : Int)) = false := by simp; omega
  have g5 : (hs.length == xs.length) = true := by simp [hl]
  clear hok hl
  go_enter Try.func5, Try.ntmps5
  go_wp2_with (first
    | (at_builtin; refine wpList_append_src rfl (.tmp 23) (.tmp 24) 27 rfl w.heap.size 3 (.int .i64 0) 1 8 Try.underlying27 Mem.info_i64 rfl (by decide) (.slice (some ⟨w.heap.size, 0, none⟩) 0 0) 0 [] rfl (Mem.own_empty1 w _) _ hs.length (ints .i64 hs) rfl (rd1 _) (Mem.ints_len1 hs) (Mem.ints_one hs) (by unfold maxLen; omega) (by omega) (by simp) ?_; intro v1' w1 hown1 u1 hnear1; rw [Nat.zero_add, List.nil_append] at hown1; have B1 : Below w.heap.size w w1 := u1.below ((Below.refl _ _).alloc (Nat.le_refl _) _) (by simp) (by intro i hi; simp [Value.ownBlock] at hi; omega); have s1 := B1.size; obtain ⟨ua, uc, rfl⟩ := owned_len1 hown1; have rd2 := fun o => (h2.below (B1.alloc B1.size o)).readable; clear hnear1 u1)
    | (at_builtin; refine wpList_append_src rfl (.tmp 26) (.tmp 27) 22 rfl w1.heap.size 28 (.int .u32 0) 1 4 Try.underlying22 Mem.info_u32 rfl (by decide) (.slice (some ⟨w1.heap.size, 0, none⟩) 0 0) 0 [] rfl (Mem.own_empty1 w1 _) _ xs.length (ints .u32 xs) rfl (rd2 _) (Mem.ints_len1 xs) (Mem.ints_one xs) (by unfold maxLen; omega) (by omega) (by simp) ?_; intro v2' w2 hown2 u2 hnear2; rw [Nat.zero_add, List.nil_append] at hown2; have B2 : Below w1.heap.size w1 w2 := u2.below ((Below.refl _ _).alloc (Nat.le_refl _) _) (by simp) (by intro i hi; simp [Value.ownBlock] at hi; omega); have s2 := B2.size; have hown1' := own_upd hown1 (Upd.of_below (S := fun _ => False) B2) (fun _ _ => id); have B12 : Below w.heap.size w w2 := B1.trans (B2.mono B1.size); obtain ⟨va, vc, rfl⟩ := owned_len1 hown2; clear hnear2 u2))
  refine (Port.newP_bad _ K _ _ hs xs (Src1.of_owned hown1') (Src1.of_owned hown2) HL.out (by omega) HO.out k1 k2).mono ?_
  rintro e w3 ⟨rfl, rfl⟩
  have KH := Mem.homes_all _ _ hs (hs1.below B12) (by omega)
  rw [HO.out] at KH
  have HKH := Lib.hid KH
  clear KH
  go_wp2_with fail
  refine HKH.out.mono ?_
  rintro e w3 ⟨rfl, rfl⟩
  go_wp2_with fail
  refine (awake _).mono ?_
  rintro e w6 ⟨rfl, u6⟩
  go_wp2
  go_ret
  exact ⟨rfl, B12.trans (u6.mono B12.size)⟩
set_option maxHeartbeats 8000000 in
set_option maxRecDepth 100000 in
theorem fine (K : Int) (v1 v2 : Value) (hs xs : List Int) (w : World) (h1 : Src1 w v1 .i64 hs) (h2 : Src1 w v2 .u32 xs) (l1 : hs.length ≤ 60) (_l2 : xs.length ≤ 60) (k1 : 1 ≤ K) (k2 : K ≤ 64) (hl : hs.length = xs.length) (hok : Mem.homesOk hs = true) (hwd : Mem.Wd xs) :
    Calls Try.prog 5 #[.int .i64 K, v1, v2] w fun e w' => e = .returned (.bool true) ∧ Below w.heap.size w w' := by
  have rd1 := fun o => (h1.below ((Below.refl w.heap.size w).alloc (Nat.le_refl _) o)).readable
  have hs1 := h1
  have hs2 := h2
  obtain ⟨a1, cap1, rfl, -, -⟩ := id h1
  obtain ⟨a2, cap2, rfl, -, -⟩ := id h2
  have l1' : (hs.length : Int) ≤ 60 := by omega
  have l2' : (xs.length : Int) ≤ 60 := by omega
  have HO := Lib.hid hok
  obtain ⟨K, rfl⟩ := Int.eq_ofNat_of_zero_le (show 0 ≤ K by omega)
  obtain ⟨n, hnn⟩ : ∃ n, xs.length = n := ⟨_, rfl⟩
  have hln : hs.length = n := hl.trans hnn
  have HL1 := Lib.hid hln
  have HL2 := Lib.hid hnn
  simp only [hln] at rd1 h1 hs1 l1 l1' ⊢
  simp only [hnn] at h2 hs2 l2' ⊢
  clear hok hl hnn hln
  go_enter Try.func5, Try.ntmps5
  go_wp2_with (first
    | (at_builtin; refine wpList_append_src rfl (.tmp 23) (.tmp 24) 27 rfl w.heap.size 3 (.int .i64 0) 1 8 Try.underlying27 Mem.info_i64 rfl (by decide) (.slice (some ⟨w.heap.size, 0, none⟩) 0 0) 0 [] rfl (Mem.own_empty1 w _) _ n (ints .i64 hs) rfl (rd1 _) (by rw [Mem.ints_len1, HL1.out]) (Mem.ints_one hs) (by unfold maxLen; omega) (by omega) (by simp) ?_; intro v1' w1 hown1 u1 hnear1; rw [Nat.zero_add, List.nil_append] at hown1; have B1 : Below w.heap.size w w1 := u1.below ((Below.refl _ _).alloc (Nat.le_refl _) _) (by simp) (by intro i hi; simp [Value.ownBlock] at hi; omega); have s1 := B1.size; obtain ⟨ua, uc, rfl⟩ := owned_len1 hown1; have rd2 : ∀ o, Readable (w1.alloc o) (.slice a2 n cap2) n (ints .u32 xs) := (fun o => (by have hh := (h2.below (B1.alloc B1.size o)).readable; rw [HL2.out] at hh; exact hh)); clear hnear1 u1)
    | (at_builtin; refine wpList_append_src rfl (.tmp 26) (.tmp 27) 22 rfl w1.heap.size 28 (.int .u32 0) 1 4 Try.underlying22 Mem.info_u32 rfl (by decide) (.slice (some ⟨w1.heap.size, 0, none⟩) 0 0) 0 [] rfl (Mem.own_empty1 w1 _) _ n (ints .u32 xs) rfl (rd2 _) (by rw [Mem.ints_len1, HL2.out]) (Mem.ints_one xs) (by unfold maxLen; omega) (by omega) (by simp) ?_; intro v2' w2 hown2 u2 hnear2; rw [Nat.zero_add, List.nil_append] at hown2; have B2 : Below w1.heap.size w1 w2 := u2.below ((Below.refl _ _).alloc (Nat.le_refl _) _) (by simp) (by intro i hi; simp [Value.ownBlock] at hi; omega); have s2 := B2.size; have hown1' := own_upd hown1 (Upd.of_below (S := fun _ => False) B2) (fun _ _ => id); have B12 : Below w.heap.size w w2 := B1.trans (B2.mono B1.size); obtain ⟨va, vc, rfl⟩ := owned_len1 hown2; clear hnear2 u2))
  have own1 : ∃ g, (0 < n → ua = some ⟨g, 0, none⟩ ∧ w.heap.size ≤ g ∧ g < w2.heap.size ∧ RowP w2 g (ints .i64 hs)) := by
    by_cases h0 : 0 < n
    · obtain ⟨g, cap, e, hg, hr⟩ := owned hown1' h0
      simp only [Value.slice.injEq] at e
      exact ⟨g, fun _ => ⟨e.1, hg, hr.lt, hr⟩⟩
    · exact ⟨0, fun h => absurd h h0⟩
  have own2 : ∃ g, (0 < n → va = some ⟨g, 0, none⟩ ∧ w1.heap.size ≤ g ∧ g < w2.heap.size ∧ RowP w2 g (ints .u32 xs)) := by
    by_cases h0 : 0 < n
    · obtain ⟨g, cap, e, hg, hr⟩ := owned hown2 h0
      simp only [Value.slice.injEq] at e
      exact ⟨g, fun _ => ⟨e.1, hg, hr.lt, hr⟩⟩
    · exact ⟨0, fun h => absurd h h0⟩
  obtain ⟨g1, o1⟩ := own1
  obtain ⟨g2, o2⟩ := own2
  have gne : 0 < n → g1 ≠ g2 := fun h0 => by
    have e1 : (Value.slice ua n uc).ownBlock = some g1 := by rw [(o1 h0).1]; rfl
    have := (own_lt hown1 e1).1
    have := (o2 h0).2.1
    omega
  have sa : Src1 w2 (.slice ua n uc) .i64 hs := by have := Src1.of_owned (xs := hs) (by rw [HL1.out]; exact hown1'); exact this
  have sb : Src1 w2 (.slice va n vc) .u32 xs := by have := Src1.of_owned (xs := xs) (by rw [HL2.out]; exact hown2); exact this
  have KN := Port.newP _ K _ _ hs xs sa sb (HL1.out.trans HL2.out.symm) (by rw [HL2.out]; omega) HO.out hwd (by omega) (by omega)
  refine KN.mono ?_
  clear KN
  rintro e w3 ⟨p, rfl, hO, b3⟩
  obtain ⟨S, hS, hS2, hO⟩ : ∃ S : Nat → Prop, (∀ b, S b → w2.heap.size ≤ b) ∧ (∀ b, S b → w.heap.size ≤ b) ∧ Port.O w3 p S K xs hs [] := ⟨_, fun b hb => hb.1, fun b hb => Nat.le_trans B12.size hb.1, hO⟩
  have B13 := B12.trans (b3.mono B12.size)
  have KH := Mem.homes_all _ _ hs (hs1.below B13) (by rw [HL1.out]; omega)
  rw [HO.out] at KH
  have HKH := Lib.hid KH
  clear KH hown1 hown1' hown2 sa sb
  go_wp2_with fail
  refine HKH.out.mono ?_
  rintro e w4 ⟨rfl, rfl⟩
  go_wp2_with fail
  refine (Port.threadsP _ _ _ _ _ _ _ hO).mono ?_
  rintro e w4 ⟨rfl, rfl⟩
  obtain ⟨m, S1, q0, hm, -⟩ := hO.step
  have KL := Mem.lenO _ _ _ _ _ hm
  rw [HL2.out] at KL
  have HKL := Lib.hid KL
  clear KL
  go_wp2_with fail
  refine HKL.out.mono ?_
  rintro e w4 ⟨rfl, rfl⟩
  go_wp2_with fail
  clear q0 hm
  have R1 : 0 < n → RowP w3 g1 (ints .i64 hs) := fun h0 => by obtain ⟨T, r, hh⟩ := (o1 h0).2.2.2; exact ⟨T, r, by rw [b3.block _ (o1 h0).2.2.1]; exact hh⟩
  have R2 : 0 < n → RowP w3 g2 (ints .u32 xs) := fun h0 => by obtain ⟨T, r, hh⟩ := (o2 h0).2.2.2; exact ⟨T, r, by rw [b3.block _ (o2 h0).2.2.1]; exact hh⟩
  go_loopw [87] (fun i wr => ∃ j : Nat, j ≤ n ∧ i = .int .i64 j ∧ Port.O wr p S K xs hs [] ∧ Below w.heap.size w wr ∧ (∃ l1, l1.length = n ∧ (0 < n → RowP wr g1 (ints .i64 l1))) ∧ (∃ l2, l2.length = n ∧ (0 < n → RowP wr g2 (ints .u32 l2)))) (fun i _ => n - (intOf i).toNat)
  case atStart => exact ⟨0, Nat.zero_le _, rfl, hO, B13, ⟨hs, HL1.out, R1⟩, ⟨xs, HL2.out, R2⟩⟩
  case round =>
    obtain ⟨j, hj, rfl, hO2, hbel, ⟨l1, hl1, r1⟩, ⟨l2, hl2, r2⟩⟩ := hrel
    by_cases hlt : j < n
    · have h0 : 0 < n := by omega
      obtain ⟨rfl, gg1, gl1, -⟩ := o1 h0
      obtain ⟨rfl, gg2, gl2, -⟩ := o2 h0
      have r1 := r1 h0
      have r2 := r2 h0
      have hne := gne h0
      have c1 := r1.cell (ints_get (k := .i64) (i := j) (xs := l1) (by omega))
      have c2 := r2.cell (ints_get (k := .u32) (i := j) (xs := l2) (by omega))
      have z1 := r1.frozen j
      have z2 := r2.frozen j
      obtain ⟨x1, hx1⟩ : ∃ x, l1.getD j 0 = x := ⟨_, rfl⟩
      obtain ⟨x2, hx2⟩ : ∃ x, l2.getD j 0 = x := ⟨_, rfl⟩
      rw [hx1] at c1
      rw [hx2] at c2
      have HL1' := Lib.hid hl1
      have HL2' := Lib.hid hl2
      clear hx1 hx2 hl1 hl2
      have hj' : (j : Int) < n := by omega
      have f1 : ∀ v, ∃ l, l.length = n ∧ RowP (wr.setCell ⟨g1, j, none⟩ (.int .i64 v)) g1 (ints .i64 l) := fun v => ⟨l1.set j v, by simpa using HL1'.out, by rw [ints_set]; exact r1.set j (by rw [ints_len, HL1'.out]; exact hlt) _⟩
      have f2 : ∀ v u, ∃ l, l.length = n ∧ RowP ((wr.setCell ⟨g1, j, none⟩ (.int .i64 u)).setCell ⟨g2, j, none⟩ (.int .u32 v)) g2 (ints .u32 l) := fun v u => ⟨l2.set j v, by simpa using HL2'.out, by rw [ints_set]; exact (r2.set_ne hne.symm j _).set j (by rw [ints_len, HL2'.out]; exact hlt) _⟩
      go_wp2_with fail
      go_region
      go_wp2_with fail
      go_roundw
      case rel =>
        have U : ∀ u v : Int, Upd (fun k => k = g1 ∨ k = g2) wr (((wr.setCell ⟨g1, j, none⟩ (.int .i64 u)).setCell ⟨g2, j, none⟩ (.int .u32 v)).drew) := fun u v => ((((Upd.refl _ _).setCell (p := ⟨g1, j, none⟩) (.inl (.inl rfl)) _).setCell (p := ⟨g2, j, none⟩) (.inl (.inr rfl)) _).drew)
        refine ⟨j + 1, by omega, by go_num, hO2.keep (U _ _) (fun b hb e => by have := hS b hb; omega), (U _ _).below hbel hbel.size (fun i hi => by omega), ?_, ?_⟩
        · obtain ⟨l, q1, q2⟩ := f1 (wrap64 (x1 + 1))
          first
            | exact ⟨l, q1, fun _ => (q2.set_ne hne j _).drew⟩
            | (obtain ⟨l, q1, q2⟩ := f1 (x1 + 1); exact ⟨l, q1, fun _ => (q2.set_ne hne j _).drew⟩)
        · obtain ⟨l, q1, q2⟩ := f2 ((x2 + 1) % 4294967296) (wrap64 (x1 + 1))
          exact ⟨l, q1, fun _ => q2.drew⟩
      case measure => simp [intOf]; omega
    · clear R1 R2 r1 r2 o1 o2 gne
      obtain ⟨m, S1, q0, hm, -⟩ := hO2.step
      have KW := Mem.wordsO _ _ _ _ _ hm (by rw [HL2.out]; omega)
      rw [HL2.out] at KW
      have HKW := Lib.hid KW
      clear KW
      go_wp2_with fail
      refine HKW.out.mono ?_
      rintro e w5 ⟨rfl, hrow, b5⟩
      have hO5 := hO2.below b5
      have hbel5 := hbel.trans (b5.mono hbel.size)
      obtain ⟨H, hH⟩ : ∃ H, wr.heap.size = H := ⟨_, rfl⟩
      rw [hH] at hrow ⊢
      clear hH b5 q0 hm
      go_wp2_with fail
      go_loopw [119] (fun i wi => ∃ i' : Nat, i' ≤ n ∧ i = .int .i64 i' ∧ Below w5.heap.size w5 wi) (fun i _ => n - (intOf i).toNat)
      case atStart => exact ⟨0, Nat.zero_le _, rfl, Below.refl _ _⟩
      case round =>
        obtain ⟨i, hi, rfl, b6⟩ := hrel
        have hbel6 := hbel5.trans (b6.mono hbel5.size)
        have hO6 := hO5.below b6
        by_cases hlt2 : i < n
        · have d1 := (hrow.below b6 hrow.lt).cell (ints_get (k := .u32) (i := i) (xs := xs) (by rw [HL2.out]; exact hlt2))
          obtain ⟨_, _, e1, -, hcx⟩ := hs2
          obtain ⟨xb, xo, rfl, hxb, hcx⟩ := hcx (by rw [HL2.out]; omega)
          simp only [Value.slice.injEq] at e1
          obtain ⟨rfl, -, -⟩ := e1
          obtain ⟨_, _, e2, -, hch⟩ := hs1
          obtain ⟨yb, yo, rfl, hyb, hch⟩ := hch (by rw [HL1.out]; omega)
          simp only [Value.slice.injEq] at e2
          obtain ⟨rfl, -, -⟩ := e2
          have d2 := (hbel6.cell (p := ⟨xb, xo + i, none⟩) hxb).trans (hcx i (by rw [HL2.out]; exact hlt2))
          have d3 := (hbel6.cell (p := ⟨yb, yo + i, none⟩) hyb).trans (hch i (by rw [HL1.out]; exact hlt2))
          obtain ⟨m, S1, q0, hm, -⟩ := hO6.step
          have KH := fun nn => Mem.homeO _ _ _ _ _ (hm.drewN nn) (i : Int)
          simp only [Mem.get_in rfl (show Mem.inB (i : Int) hs.length = true by rw [HL1.out]; simp [Mem.inB]; omega)] at KH
          obtain ⟨z1, hz1⟩ : ∃ z, xs.getD i 0 = z := ⟨_, rfl⟩
          obtain ⟨z2, hz2⟩ : ∃ z, hs.getD i 0 = z := ⟨_, rfl⟩
          rw [hz1] at d1 d2
          rw [hz2] at d3
          simp only [hz2] at KH
          have HKH2 := Lib.hid KH
          have hi' : (i : Int) < n := by omega
          clear KH hz1 hz2 hcx hch
          go_wp2_with fail
          go_quiet ((go_at_call 20; exact Calls.quiet_of_same ((HKH2.out _).mono fun e w' ⟨he, hw⟩ => ⟨he, hw.symm⟩)))
          go_wp2
          go_roundw
          case rel => exact ⟨i + 1, by omega, by go_num, below_drewN b6 _⟩
          case measure => simp [intOf]; omega
        · have hin : Mem.inB 0 K = true := by simp [Mem.inB]; omega
          have KA := Port.accessesP _ _ _ _ _ _ _ hO6 0
          have KW := Port.writesP _ _ _ _ _ _ _ hO6 0
          have KM := Port.missesP _ _ _ _ _ _ _ hO6 0
          rw [if_pos hin, show ((acc [] 0 : Nat) : Int) = 0 from rfl] at KA
          rw [if_pos hin, show ((wrs [] 0 : Nat) : Int) = 0 from rfl] at KW
          rw [if_pos hin, show ((misses K [] 0 : Nat) : Int) = 0 from rfl] at KM
          have HA := Lib.hid KA
          have HW := Lib.hid KW
          have HM := Lib.hid KM
          clear KA KW KM hin
          go_wp2_with fail
          refine HA.out.mono ?_
          rintro e w7 ⟨rfl, rfl⟩
          go_wp2_with fail
          refine HW.out.mono ?_
          rintro e w7 ⟨rfl, rfl⟩
          go_wp2_with fail
          refine HM.out.mono ?_
          rintro e w7 ⟨rfl, rfl⟩
          go_wp2_with fail
          refine (awake _).mono ?_
          rintro e w8 ⟨rfl, u8⟩
          go_wp2
          go_ret
          exact ⟨rfl, hbel6.trans (u8.mono hbel6.size)⟩
theorem walk (K : Int) (v1 : Value) (hs : List Int) (v2 : Value) (xs : List Int) (w : World) (h1 : Law04.Src .i64 w v1 hs) (h2 : Law04.Src .u32 w v2 xs) :
    Calls Try.prog 5 #[.int .i64 K, v1, v2] w fun e w' => e = .returned (.bool true) ∧ Below w.heap.size w w' := by
  by_cases hm : 60 < hs.length ∨ 60 < xs.length
  · obtain ⟨a1, c1, rfl, _⟩ := h1.1.len
    obtain ⟨a2, c2, rfl, _⟩ := h2.1.len
    exact many K a1 a2 _ c1 _ c2 w hm
  by_cases hK : K < 1 ∨ 64 < K ∨ hs.length ≠ xs.length
  · exact wrong K v1 v2 hs xs w h1.2 h2.2 (by omega) (by omega) hK
  cases hok : Mem.homesOk hs with
  | false => exact bad K v1 v2 hs xs w h1.2 h2.2 (by omega) (by omega) (by omega) (by omega) (by omega) hok
  | true => exact fine K v1 v2 hs xs w h1.2 h2.2 (by omega) (by omega) (by omega) (by omega) (by omega) hok (fun y hy => wf_u32 (h2.1.2 y hy))
end Go.Proofs.Ytfbbogemldaioaa.WalkPortNews
