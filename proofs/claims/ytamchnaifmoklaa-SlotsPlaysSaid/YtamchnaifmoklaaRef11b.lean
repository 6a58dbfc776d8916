/- The document's lock of Anderson: New, Seats, Words, Homes; as the laws take it. -/
import Derived.Test.YtamchnaifmoklaaRef11s
namespace Go.Proofs.Ytamchnaifmoklaa.Ref11
open Go Go.RowKit Go.Proofs.Ytamchnaifmoklaa.Heap Go.Proofs.Ytamchnaifmoklaa.Open Go.Proofs.Ytamchnaifmoklaa.Seat Go.Proofs.Ytamchnaifmoklaa.Mach Go.Proofs.Ytamchnaifmoklaa.Has Go.Proofs.Ytamchnaifmoklaa.Ref09 Go.Proofs.Ytamchnaifmoklaa.Modl Go.Proofs.Ytamchnaifmoklaa.SeatP Go.Proofs.Ytamchnaifmoklaa.StepU Go.Proofs.Ytamchnaifmoklaa.Slots Go.Proofs.Ytamchnaifmoklaa.Pack
variable {x sx sb db pc ob : Nat} {kn : Int}
theorem seatsC {w : World} {sl : List (Int × Int)} {pl ol : List Int} (h : MAt x sx sb db pc ob kn w sl pl ol) :
    Calls Try.prog 98 #[.pointer (some ⟨x, 0, none⟩)] w fun e w' => e = .returned (.pointer (some ⟨sx, 0, none⟩)) ∧ w = w' := by
  have c0 := h.top.cell (i := 0) rfl
  go_enter Try.func98, Try.ntmps98
  go_wp2
  go_ret
  exact ⟨rfl, rfl⟩
theorem fin_two (l : List (Int × Int)) (q : Nat) (ev : Int) : (fin l (q : Int) ev).2 = l ∨ ∃ a, (fin l (q : Int) ev).2 = l.set q (a, -1) := by
  unfold fin
  rw [Int.toNat_natCast]
  split
  · exact .inl rfl
  · exact .inr ⟨_, rfl⟩
theorem set_ne_self (l : List (Int × Int)) (q : Nat) (hq : q < l.length) (a : Int) (h : stt l q ≠ a) : ¬ l.set q (a, -1) = l := fun e => by
  have e2 : (l.set q (a, -1)).getD q (0, -1) = l.getD q (0, -1) := by rw [e]
  apply h
  unfold stt
  rw [← e2]
  simp [List.getD, List.getElem?_set_self hq]
theorem info_i : (Try.prog.info? 3).map (fun i => (i.zero, i.size, i.bytes)) = some (some (.int .i64 0), 1, 8) := by kernel_rfl
theorem info_u : (Try.prog.info? 27).map (fun i => (i.zero, i.size, i.bytes)) = some (some (.int .u32 0), 1, 4) := by kernel_rfl
set_option maxHeartbeats 4000000 in
theorem newR (w : World) (n : Nat) (n1 : 1 ≤ n) (n64 : n ≤ 64) (kn : Int) (hkn : 1 ≤ kn) :
    Calls Try.prog 29 #[.int .i64 n, .int .i64 kn, .int .i64 0] w fun e w' => ∃ x sx sb db pc ob, e = .returned (.pointer (some ⟨x, 0, none⟩)) ∧ MAt x sx sb db pc ob kn w' (List.replicate n (0, -1)) (List.replicate n 0) (List.replicate n 0) ∧ (∀ i, fm x sx sb db pc ob i → w.heap.size ≤ i) ∧ Below w.heap.size w w' := by
  have m1 := run_make_zeros (P := Try.prog) 22 3 (.int .i64 0) 8 Try.underlying22 info_i rfl n (by omega) (by omega)
  have HN := Lib.hid (fun w' : World => rnew w' n false false n1 n64)
  have fin : ∀ (wz : World) (x sx sb db pc ob : Nat), x = wz.heap.size → RAt wz sx sb db (List.replicate n (0, -1)) false false → Row wz pc (List.replicate n (.int .i64 0)) → Row wz ob (List.replicate n (.int .i64 0)) → Below w.heap.size w wz → (pc ≠ sx ∧ pc ≠ sb ∧ pc ≠ db ∧ pc ≠ ob) → (ob ≠ sx ∧ ob ≠ sb ∧ ob ≠ db) → w.heap.size ≤ sx ∧ w.heap.size ≤ sb ∧ w.heap.size ≤ db ∧ w.heap.size ≤ pc ∧ w.heap.size ≤ ob →
      MAt x sx sb db pc ob kn (wz.alloc (.cells #[.pointer (some ⟨sx, 0, none⟩), .int .i64 0, .int .i64 kn, .slice (some ⟨pc, 0, none⟩) n n, .slice (some ⟨ob, 0, none⟩) n n] 119)) (List.replicate n (0, -1)) (List.replicate n 0) (List.replicate n 0) ∧ (∀ i, fm x sx sb db pc ob i → w.heap.size ≤ i) ∧ Below w.heap.size w (wz.alloc (.cells #[.pointer (some ⟨sx, 0, none⟩), .int .i64 0, .int .i64 kn, .slice (some ⟨pc, 0, none⟩) n n, .slice (some ⟨ob, 0, none⟩) n n] 119)) := by
    rintro wz x sx sb db pc ob rfl h1 h2 h3 hB e2 e3 ⟨s1, s2, s3, s4, s5⟩
    have hz := hB.size
    obtain ⟨cs, cd, ht⟩ := h1.top
    have l1 := ht.lt
    have l2 := h1.st.lt
    have l3 := h1.dl.lt
    have l4 := h2.lt
    have l5 := h3.lt
    refine ⟨⟨by simpa using Row.new' rfl, h1.alloc _, ?_, ?_, by simp, by simp, ⟨by omega, by omega, by omega, by omega, by omega⟩, e2, e3, (fun t => by rw [List.getD, List.getElem?_replicate]; split <;> exact ⟨by decide, hkn⟩)⟩, ?_, hB.alloc hz _⟩
    · have : ints .i64 (List.replicate n 0) = List.replicate n (.int .i64 0) := by simp [ints]
      rw [this]; exact h2.alloc _
    · have : ints .i64 (List.replicate n 0) = List.replicate n (.int .i64 0) := by simp [ints]
      rw [this]; exact h3.alloc _
    · intro i hi
      rcases hi with rfl | rfl | rfl | rfl | rfl | rfl
      · exact hz
      all_goals assumption
  have FIN := Lib.hid fin
  have B0 : Below w.heap.size w w.drew := below_drewN (Below.refl _ _) 1
  have B1 : ∀ o, Below w.heap.size w (w.alloc o).drew := fun o => below_drewN ((Below.refl _ _).alloc (Nat.le_refl _) _) 1
  have B2 : ∀ o o', Below w.heap.size w ((w.alloc o).alloc o').drew := fun o o' => below_drewN (((Below.refl _ _).alloc (Nat.le_refl _) _).alloc (by simp) _) 1
  have z0 : w.drew.heap.size = w.heap.size := rfl
  have z1 : ∀ o, (w.alloc o).drew.heap.size = w.heap.size + 1 := fun o => by show (w.alloc o).heap.size = _; simp
  have z2 : ∀ o o', ((w.alloc o).alloc o').drew.heap.size = w.heap.size + 2 := fun o o' => by show ((w.alloc o).alloc o').heap.size = _; simp
  clear fin
  go_enter Try.func29, Try.ntmps29
  go_wp2_with fail
  go_region_with ((go_at_call 52; refine (HN.out _).mono ?_; rintro e w5 ⟨sx, sb, db, rfl, hra, k1, k2, k3, hB⟩))
  · go_wp2_with fail
    go_ret
    have hz := hB.size
    have l1 := hra.st.lt
    have l2 := hra.dl.lt
    obtain ⟨cs, cd, ht⟩ := hra.top
    have l3 := ht.lt
    rw [z0] at hz k1 k2 k3
    exact ⟨(w5.heap.size + 1 + 1), sx, sb, db, w5.heap.size, (w5.heap.size + 1), rfl, FIN.out ((w5.alloc (.cells (zeros n (.int .i64 0)) 3)).alloc (.cells (zeros n (.int .i64 0)) 3)) (w5.heap.size + 1 + 1) sx sb db w5.heap.size (w5.heap.size + 1) (by simp) ((hra.alloc _).alloc _) ((Row.ofZeros rfl).alloc _) (Row.ofZeros (by simp)) (((B0.trans (hB.mono (by rw [z0]; omega))).alloc (by omega) _).alloc (by simp; omega) _) (by omega) (by omega) (by omega)⟩
  · go_wp2_with fail
    go_ret
    have hz := hB.size
    have l1 := hra.st.lt
    have l2 := hra.dl.lt
    obtain ⟨cs, cd, ht⟩ := hra.top
    have l3 := ht.lt
    rw [z0] at hz k1 k2 k3
    exact ⟨(w5.heap.size + 1 + 1), sx, sb, db, (w5.heap.size + 1), w5.heap.size, rfl, FIN.out ((w5.alloc (.cells (zeros n (.int .i64 0)) 3)).alloc (.cells (zeros n (.int .i64 0)) 3)) (w5.heap.size + 1 + 1) sx sb db (w5.heap.size + 1) w5.heap.size (by simp) ((hra.alloc _).alloc _) (Row.ofZeros (by simp)) ((Row.ofZeros rfl).alloc _) (((B0.trans (hB.mono (by rw [z0]; omega))).alloc (by omega) _).alloc (by simp; omega) _) (by omega) (by omega) (by omega)⟩
  · go_wp2_with fail
    go_ret
    have hz := hB.size
    have l1 := hra.st.lt
    have l2 := hra.dl.lt
    obtain ⟨cs, cd, ht⟩ := hra.top
    have l3 := ht.lt
    rw [z1] at hz k1 k2 k3
    exact ⟨(w5.heap.size + 1), sx, sb, db, w.heap.size, w5.heap.size, rfl, FIN.out (w5.alloc (.cells (zeros n (.int .i64 0)) 3)) (w5.heap.size + 1) sx sb db w.heap.size w5.heap.size (by simp) (hra.alloc _) ((((Row.ofZeros (w := w) (T := 3) (n := n) (z := .int .i64 0) rfl).drew).below hB (by rw [z1]; omega)).alloc _) (Row.ofZeros rfl) (((B1 _).trans (hB.mono (by rw [z1]; omega))).alloc (by omega) _) (by omega) (by omega) (by omega)⟩
  · go_wp2_with fail
    go_ret
    have hz := hB.size
    have l1 := hra.st.lt
    have l2 := hra.dl.lt
    obtain ⟨cs, cd, ht⟩ := hra.top
    have l3 := ht.lt
    rw [z2] at hz k1 k2 k3
    exact ⟨w5.heap.size, sx, sb, db, w.heap.size, (w.heap.size + 1), rfl, FIN.out w5 w5.heap.size sx sb db w.heap.size (w.heap.size + 1) (by simp) hra ((((Row.ofZeros (w := w) (T := 3) (n := n) (z := .int .i64 0) rfl).alloc _).drew).below hB (by rw [z2]; omega)) (((Row.ofZeros (w := w.alloc (.cells (zeros n (.int .i64 0)) 3)) (T := 3) (n := n) (z := .int .i64 0) (by simp)).drew).below hB (by rw [z2]; omega)) ((B2 _ _).trans (hB.mono (by rw [z2]; omega))) (by omega) (by omega) (by omega)⟩
  · go_wp2_with fail
    go_ret
    have hz := hB.size
    have l1 := hra.st.lt
    have l2 := hra.dl.lt
    obtain ⟨cs, cd, ht⟩ := hra.top
    have l3 := ht.lt
    rw [z1] at hz k1 k2 k3
    exact ⟨(w5.heap.size + 1), sx, sb, db, w5.heap.size, w.heap.size, rfl, FIN.out (w5.alloc (.cells (zeros n (.int .i64 0)) 3)) (w5.heap.size + 1) sx sb db w5.heap.size w.heap.size (by simp) (hra.alloc _) (Row.ofZeros rfl) ((((Row.ofZeros (w := w) (T := 3) (n := n) (z := .int .i64 0) rfl).drew).below hB (by rw [z1]; omega)).alloc _) (((B1 _).trans (hB.mono (by rw [z1]; omega))).alloc (by omega) _) (by omega) (by omega) (by omega)⟩
  · go_wp2_with fail
    go_ret
    have hz := hB.size
    have l1 := hra.st.lt
    have l2 := hra.dl.lt
    obtain ⟨cs, cd, ht⟩ := hra.top
    have l3 := ht.lt
    rw [z2] at hz k1 k2 k3
    exact ⟨w5.heap.size, sx, sb, db, (w.heap.size + 1), w.heap.size, rfl, FIN.out w5 w5.heap.size sx sb db (w.heap.size + 1) w.heap.size (by simp) hra (((Row.ofZeros (w := w.alloc (.cells (zeros n (.int .i64 0)) 3)) (T := 3) (n := n) (z := .int .i64 0) (by simp)).drew).below hB (by rw [z2]; omega)) ((((Row.ofZeros (w := w) (T := 3) (n := n) (z := .int .i64 0) rfl).alloc _).drew).below hB (by rw [z2]; omega)) ((B2 _ _).trans (hB.mono (by rw [z2]; omega))) (by omega) (by omega) (by omega)⟩

theorem cell_newAt (w : World) (v : Value) (T : TypeId) (b : Nat) (hb : b = w.heap.size) : ∀ j u, [v][j]? = some u → (w.alloc (.cells #[v] T)).cell? ((⟨b, 0, none⟩ : Addr).add j) = some u := by subst hb; exact cell_new1 w v T
theorem ints_snoc (k : IntKind) (xs : List Int) (y : Int) : ints k xs ++ [.int k y] = ints k (xs ++ [y]) := by simp [ints]
theorem homesOf_len (hs : List Int) (n : Nat) : (homesOf hs n).length = n := by simp [homesOf]
theorem flags_len (kn x : Int) (n : Nat) : (flags kn x n).length = n := by simp [flags]
set_option maxHeartbeats 4000000 in
/-- The homes that the document has. -/
theorem homesR (w : World) (v : Value) (hs : List Int) (h : Src1 w v .i64 hs) (n1 : 1 ≤ hs.length) (n2 : hs.length ≤ 64) (m : Nat) (hm : m ≤ 64) :
    Calls Try.prog 26 #[v, .int .i64 m] w fun e w' => ∃ v', e = .returned v' ∧ Src1 w' v' .i64 ([hs.getD 0 0] ++ homesOf hs m) ∧ Below w.heap.size w w' := by
  obtain ⟨a, c, rfl, -, hcell⟩ := h
  obtain ⟨hb, off, rfl, hbw, hcell⟩ := hcell (by omega)
  have c0 : w.cell? ⟨hb, off, none⟩ = some (.int .i64 (hs.getD 0 0)) := hcell 0 (by omega)
  obtain ⟨y, hy⟩ : ∃ y, hs.getD 0 0 = y := ⟨_, rfl⟩
  rw [hy] at c0 ⊢
  have HC := Lib.hid hcell
  have n3 : (0 : Int) < hs.length := by omega
  have HO : Hid (∀ wz : World, wz.heap = (w.alloc (.cells #[.int .i64 y] 3)).heap → wz.ownsRow w.heap.size 3 1 (.slice (some ⟨w.heap.size, 0, none⟩) 1 1) 1 (ints .i64 ([y] ++ homesOf hs 0))) := Lib.hid fun wz hz =>
    ⟨by simp [ints, homesOf], .inr ⟨w.heap.size, 1, #[.int .i64 y], rfl, Nat.le_refl _, by rw [hz]; exact heap_alloc_new w _, by simp, by unfold maxLen; omega, rfl, by simp [ints, homesOf]⟩⟩
  have B1 : Below w.heap.size w (w.alloc (.cells #[.int .i64 y] 3)) := (Below.refl _ _).alloc (Nat.le_refl _) _
  have HB1 := Lib.hid B1
  clear hcell hy B1
  go_enter Try.func26, Try.ntmps26
  go_wp2_with fail
  go_loopw [5, 6] (fun o i wr => ∃ j : Nat, j ≤ m ∧ i = .int .i64 j ∧ wr.ownsRow w.heap.size 3 1 o (j + 1) (ints .i64 ([y] ++ homesOf hs j)) ∧ Below w.heap.size w wr) (fun _ i _ => m - (intOf i).toNat)
  case atStart => exact ⟨0, Nat.zero_le _, rfl, HO.out _ rfl, HB1.out⟩
  case round =>
    obtain ⟨j, hj, rfl, hown, hB⟩ := hrel
    by_cases hlt : j < m
    · obtain ⟨va, vc, rfl⟩ := owned_len1 hown
      obtain ⟨q, hq⟩ : ∃ q, j % hs.length = q := ⟨_, rfl⟩
      have hqn : q < hs.length := by rw [← hq]; exact Nat.mod_lt _ (by omega)
      have hmod : Int.tmod (j : Int) (hs.length : Int) = (q : Int) := by
        rw [Int.tmod_eq_emod_of_nonneg (by omega), ← hq]; first | exact (Int.natCast_emod _ _).symm | exact (Int.natCast_mod _ _).symm | rfl
      have hqi : (q : Int) < (hs.length : Int) := by omega
      have hq0 : (0 : Int) ≤ (q : Int) := by omega
      have hn0 : ¬ ((hs.length : Int) = 0) := by omega
      have hn1 : ((hs.length : Int) == 0) = false := by rw [beq_eq_false_iff_ne]; omega
      obtain ⟨yj, hyj⟩ : ∃ yj, hs.getD q 0 = yj := ⟨_, rfl⟩
      have cj := (hB.cell (p := ⟨hb, off + q, none⟩) hbw).trans (HC.out q hqn)
      rw [hyj] at cj
      have EH := Lib.hid (show homesOf hs (j + 1) = homesOf hs j ++ [yj] by rw [homesOf_next, hq, hyj])
      have HB := Lib.hid hB
      have hz := hB.size
      have hlt' : (j : Int) < (m : Int) := by omega
      clear hq hyj hB
      go_wp2_with (at_builtin; refine wpList_append_near rfl (.tmp 16) (.tmp 24) 22 rfl w.heap.size 3 (.int .i64 0) 1 8 Try.underlying22 info_i rfl (by decide) (.slice va (j + 1) vc) (j + 1) (ints .i64 ([y] ++ homesOf hs j)) rfl (own_upd hown ((Upd.refl (fun _ => False) _).alloc _) (fun _ _ => id)) ⟨wr.heap.size, 0, none⟩ 1 1 [.int .i64 yj] rfl rfl (cell_newAt _ _ _ _ rfl) (one_cell rfl) (by unfold maxLen; omega) (by omega) (by simp; omega) ?_; intro v7 w7 hown7 hg7 near7; have B7 : Below w.heap.size w w7 := (HB.out.alloc hz _).grown hg7 (by simp; omega) (fun b hb => by have := (own_lt hown hb).2; omega); clear hg7 near7)
      go_round
      case rel => exact ⟨j + 1, by omega, by go_num, by rw [EH.out, ← List.append_assoc, ← ints_snoc]; exact hown7, B7⟩
      case measure => simp [intOf]; omega
    · obtain rfl : j = m := by omega
      obtain ⟨g, cap, rfl, -, hr⟩ := owned hown (by omega)
      go_wp2_with fail
      go_ret
      exact ⟨.slice (some ⟨g, 0, none⟩) (j + 1) cap, rfl, ⟨some ⟨g, 0, none⟩, cap, by simp [homesOf_len], fun e => (by cases e), fun _ => ⟨g, 0, rfl, hr.lt, fun i hi => (by rw [Nat.zero_add]; exact hr.cell (ints_get hi))⟩⟩, hB⟩
set_option maxHeartbeats 4000000 in
/-- The words that the document has. -/
theorem wordsR (w : World) (x : Int) (x0 : 0 ≤ x ∧ x < 4294967296) (m : Nat) (hm1 : 1 ≤ m) (hm : m ≤ 64) :
    Calls Try.prog 31 #[.int .i64 m, .int .u32 x] w fun e w' => ∃ v', e = .returned v' ∧ Src1 w' v' .u32 ([x] ++ flags m x m) ∧ Below w.heap.size w w' := by
  have HO : Hid (∀ wz : World, wz.heap = (w.alloc (.cells #[.int .u32 x] 27)).heap → wz.ownsRow w.heap.size 27 1 (.slice (some ⟨w.heap.size, 0, none⟩) 1 1) 1 (ints .u32 ([x] ++ flags m x 0))) := Lib.hid fun wz hz =>
    ⟨by simp [ints, flags], .inr ⟨w.heap.size, 1, #[.int .u32 x], rfl, Nat.le_refl _, by rw [hz]; exact heap_alloc_new w _, by simp, by unfold maxLen; omega, rfl, by simp [ints, flags]⟩⟩
  have HB1 : Hid (Below w.heap.size w (w.alloc (.cells #[.int .u32 x] 27))) := Lib.hid ((Below.refl _ _).alloc (Nat.le_refl _) _)
  obtain ⟨r, hr⟩ : ∃ r, x % (m : Int) = r := ⟨_, rfl⟩
  have hmod : Int.tmod x (m : Int) = r := by rw [Int.tmod_eq_emod_of_nonneg x0.1]; exact hr
  have hn0 : ¬ ((m : Int) = 0) := by omega
  have hxi : IntKind.i64.wrap x = x := IntWalk.i64_in _ (by omega)
  have HR := Lib.hid hr
  go_enter Try.func31, Try.ntmps31
  go_wp2_with fail
  go_loopw [5, 6] (fun o i wr => ∃ j : Nat, j ≤ m ∧ i = .int .i64 j ∧ wr.ownsRow w.heap.size 27 1 o (j + 1) (ints .u32 ([x] ++ flags m x j)) ∧ Below w.heap.size w wr) (fun _ i _ => m - (intOf i).toNat)
  case atStart => exact ⟨0, Nat.zero_le _, rfl, HO.out _ rfl, HB1.out⟩
  case round =>
    obtain ⟨j, hj, rfl, hown, hB⟩ := hrel
    by_cases hlt : j < m
    · obtain ⟨va, vc, rfl⟩ := owned_len1 hown
      have HB := Lib.hid hB
      have hz := hB.size
      have hlt' : (j : Int) < (m : Int) := by omega
      clear hB
      by_cases hjr : (j : Int) = r
      · have EH := Lib.hid (show flags m x (j + 1) = flags m x j ++ [1] by rw [flags_next, HR.out, if_pos hjr])
        have hjr' : ((j : Int) == r) = true := by simpa using hjr
        clear hjr
        go_wp2_with (at_builtin; refine wpList_append_near rfl (.tmp 21) (.tmp 23) 55 rfl w.heap.size 27 (.int .u32 0) 1 4 Try.underlying55 info_u rfl (by decide) (.slice va (j + 1) vc) (j + 1) (ints .u32 ([x] ++ flags m x j)) rfl (own_upd hown ((Upd.refl (fun _ => False) _).alloc _) (fun _ _ => id)) ⟨wr.heap.size, 0, none⟩ 1 1 [.int .u32 1] rfl rfl (cell_newAt _ _ _ _ rfl) (one_cell rfl) (by unfold maxLen; omega) (by omega) (by simp; omega) ?_; intro v7 w7 hown7 hg7 near7; have B7 : Below w.heap.size w w7 := (HB.out.alloc hz _).grown hg7 (by simp; omega) (fun b hb => by have := (own_lt hown hb).2; omega); clear hg7 near7)
        go_round
        case rel => exact ⟨j + 1, by omega, by go_num, by rw [EH.out, ← List.append_assoc, ← ints_snoc]; exact hown7, B7⟩
        case measure => simp [intOf]; omega
      · have EH := Lib.hid (show flags m x (j + 1) = flags m x j ++ [0] by rw [flags_next, HR.out, if_neg hjr])
        have hjr' : ((j : Int) == r) = false := by simpa using hjr
        clear hjr
        go_wp2_with (at_builtin; refine wpList_append_near rfl (.tmp 21) (.tmp 23) 55 rfl w.heap.size 27 (.int .u32 0) 1 4 Try.underlying55 info_u rfl (by decide) (.slice va (j + 1) vc) (j + 1) (ints .u32 ([x] ++ flags m x j)) rfl (own_upd hown ((Upd.refl (fun _ => False) _).alloc _) (fun _ _ => id)) ⟨wr.heap.size, 0, none⟩ 1 1 [.int .u32 0] rfl rfl (cell_newAt _ _ _ _ rfl) (one_cell rfl) (by unfold maxLen; omega) (by omega) (by simp; omega) ?_; intro v7 w7 hown7 hg7 near7; have B7 : Below w.heap.size w w7 := (HB.out.alloc hz _).grown hg7 (by simp; omega) (fun b hb => by have := (own_lt hown hb).2; omega); clear hg7 near7)
        go_round
        case rel => exact ⟨j + 1, by omega, by go_num, by rw [EH.out, ← List.append_assoc, ← ints_snoc]; exact hown7, B7⟩
        case measure => simp [intOf]; omega
    · obtain rfl : j = m := by omega
      obtain ⟨g, cap, rfl, -, hr⟩ := owned hown (by omega)
      go_wp2_with fail
      go_ret
      exact ⟨.slice (some ⟨g, 0, none⟩) (j + 1) cap, rfl, ⟨some ⟨g, 0, none⟩, cap, by simp [flags_len], fun e => (by cases e), fun _ => ⟨g, 0, rfl, hr.lt, fun i hi => (by rw [Nat.zero_add]; exact hr.cell (ints_get hi))⟩⟩, hB⟩
theorem held_step {n : Nat} {st : St} (hok : Ok st.pls) (hl : st.pls.length = st.seats.length) (hH : Held st) (t now : Int) : Held (Slots.step n 0 kn st t t now).2 := by
  cases hin : inB t st.seats.length with
  | false =>
    have hz : state st.seats t = 0 := by unfold state; rw [hin]; rfl
    have e : Slots.step n 0 kn st t t now = ((0, false, false, false), st) := by
      have E : midS n 0 kn st t t = ((0, false, false, false), st) := by unfold midS; rw [if_neg (by rw [hz]; decide), if_neg (by rw [hz]; decide)]
      unfold Slots.step
      rw [E]
      dsimp only
      rw [fin_none]
    rw [e]; exact hH
  | true =>
    obtain ⟨q, rfl, hq⟩ := inB_nat hin
    have hqp : q < st.pls.length := by rw [hl]; exact hq
    -- the others keep theirs; q's own by cases
    have key : ∀ (d : Did) (st' : St), midS n 0 kn st q q = (d, st') → st'.seats = st.seats → (∀ u, u ≠ q → st'.pls.getD u (0, 0) = st.pls.getD u (0, 0)) → (∀ a, (fin st.seats (q : Int) d.1).2 = st.seats.set q (a, -1) → (a = 2 ∨ a = 3) → (st'.pls.getD q (0, 0)).2 = 2) → ((fin st.seats (q : Int) d.1).2 = st.seats → (stt st.seats q = 2 ∨ stt st.seats q = 3) → (st'.pls.getD q (0, 0)).2 = 2) → Held (Slots.step n 0 kn st q q now).2 := by
      intro d st' hm hs ho h2 h0 u hu
      unfold Slots.step at hu ⊢
      rw [hm] at hu ⊢
      dsimp only at hu ⊢
      rw [hs] at hu
      rcases fin_two st.seats q d.1 with hf | ⟨a, hf⟩
      · rw [hf] at hu
        by_cases e : u = q
        · subst e; exact h0 hf hu
        · rw [ho u e]; exact hH u hu
      · rw [hf] at hu
        rw [stt_set st.seats q (a, -1) hq u] at hu
        by_cases e : u = q
        · subst e
          rw [if_pos rfl] at hu
          exact h2 a hf hu
        · rw [if_neg e] at hu
          rw [ho u e]; exact hH u hu
    have g2 : ∀ (a b : Int) (u : Nat), (st.pls.set q (a, b)).getD u (0, 0) = if u = q then (a, b) else st.pls.getD u (0, 0) := fun a b u => p2set _ _ hqp _ u
    obtain ⟨_, h3⟩ := hok q hqp
    by_cases z1 : state st.seats (q : Int) = 1
    · have s1 : stt st.seats q = 1 := by rw [← state_nat]; exact z1
      have E0 : midS n 0 kn st q q = lockS n 0 kn st q q := by unfold midS; rw [if_pos z1, Int.toNat_natCast]
      rcases h3 with e | e | e
      · refine key _ { st with pls := st.pls.set q (rd n st.ws q 0, 1), ws := wrt n st.ws q 0 ((Mem.get st.ws 0 + 1) % 4294967296), ts := Cache.after n st.ws.length st.ts q 0 true } (by rw [E0]; unfold lockS; dsimp only; rw [if_pos e]) rfl (fun u hu => by dsimp only; rw [g2, if_neg hu]) (fun a hf ha => ?_) (fun _ h => by omega)
        rw [fin_none] at hf
        have := set_ne_self st.seats q hq a (by rw [s1]; omega) hf.symm
        exact this.elim
      · refine key _ { st with pls := (if rd n st.ws q (slotA 0 kn (st.pls.getD q (0, 0)).1) = 0 then st.pls else st.pls.set q ((st.pls.getD q (0, 0)).1, 2)), ts := Cache.after n st.ws.length st.ts q (slotA 0 kn (st.pls.getD q (0, 0)).1) false } (by rw [E0]; unfold lockS; dsimp only; rw [if_neg (by rw [e]; decide), if_pos e]) rfl (fun u hu => by dsimp only; split; rfl; rw [g2, if_neg hu]) (fun a hf ha => ?_) (fun _ h => by omega)
        rw [fin_none] at hf
        exact (set_ne_self st.seats q hq a (by rw [s1]; omega) hf.symm).elim
      · refine key _ { st with ws := wrt n st.ws q (slotA 0 kn (st.pls.getD q (0, 0)).1) 0, ts := Cache.after n st.ws.length st.ts q (slotA 0 kn (st.pls.getD q (0, 0)).1) true } (by rw [E0]; unfold lockS; dsimp only; rw [if_neg (by rw [e]; decide), if_neg (by rw [e]; decide)]) rfl (fun u _ => rfl) (fun _ _ _ => e) (fun _ h => by omega)
    · by_cases z3 : state st.seats (q : Int) = 3
      · refine key _ { st with pls := st.pls.set q (0, 0), ws := wrt n st.ws q (slotA 0 kn (((st.pls.getD q (0, 0)).1 + 1) % 4294967296)) 1, ts := Cache.after n st.ws.length st.ts q (slotA 0 kn (((st.pls.getD q (0, 0)).1 + 1) % 4294967296)) true } (by unfold midS; rw [if_neg z1, if_pos z3, Int.toNat_natCast]) rfl (fun u hu => by dsimp only; rw [g2, if_neg hu]) (fun a hf ha => ?_) (fun hf _ => ?_)
        · rw [fin_at 3 3 z3 0 rfl (by decide)] at hf
          dsimp only at hf
          have e2 : (st.seats.set q (0, -1)).getD q (0, -1) = (st.seats.set q (a, -1)).getD q (0, -1) := by rw [hf]
          simp [List.getD, List.getElem?_set_self hq] at e2
          omega
        · rw [fin_at 3 3 z3 0 rfl (by decide)] at hf
          dsimp only at hf
          exact (set_ne_self st.seats q hq 0 (by rw [← state_nat, z3]; decide) hf).elim
      · refine key _ st (by unfold midS; rw [if_neg z1, if_neg z3]) rfl (fun u _ => rfl) (fun a hf ha => ?_) (fun _ h => hH q h)
        rw [fin_none] at hf
        refine hH q ?_
        have e2 : st.seats.getD q (0, -1) = (st.seats.set q (a, -1)).getD q (0, -1) := by rw [← hf]
        have e3 : stt st.seats q = a := by unfold stt; rw [e2]; simp [List.getD, List.getElem?_set_self hq]
        omega
theorem mid_keep {n : Nat} {st : St} (hok : Ok st.pls) (hwd : Mem.Wd st.ws) (t a : Int) : Ok (midS n 0 kn st t a).2.pls ∧ Mem.Wd (midS n 0 kn st t a).2.ws ∧ (midS n 0 kn st t a).2.pls.length = st.pls.length ∧ (midS n 0 kn st t a).2.ws.length = st.ws.length ∧ (midS n 0 kn st t a).2.seats = st.seats := by
  have hm2 : ∀ y : Int, 0 ≤ y % 4294967296 ∧ y % 4294967296 < 4294967296 := fun y => by omega
  have hpw : ∀ (b y : Int), 0 ≤ y ∧ y < 4294967296 → Mem.Wd (wrt n st.ws a b y) := fun b y hy => by unfold wrt; split; exact hwd.put _ hy.1 hy.2; exact hwd
  have hpl : ∀ (b y : Int), (wrt n st.ws a b y).length = st.ws.length := fun b y => by unfold wrt; split; exact Mem.put_len _ _ _; rfl
  unfold midS
  split
  · unfold lockS
    dsimp only
    split
    · exact ⟨hok.set _ _ _ (rd_wd hwd n a 0) (.inr (.inl rfl)), hpw _ _ (hm2 _), by simp, hpl _ _, rfl⟩
    · split
      · refine ⟨?_, hwd, by split <;> simp, rfl, rfl⟩
        split
        · exact hok
        · by_cases ht : t.toNat < st.pls.length
          · exact hok.set _ _ _ (hok _ ht).1 (.inr (.inr rfl))
          · rw [List.set_eq_of_length_le (by omega)]; exact hok
      · exact ⟨hok, hpw _ _ (by omega), rfl, hpl _ _, rfl⟩
  · split
    · exact ⟨hok.set _ _ _ (by omega) (.inl rfl), hpw _ _ (by omega), by simp, hpl _ _, rfl⟩
    · exact ⟨hok, hwd, rfl, rfl, rfl⟩
/-- The document's lock as the laws take it. -/
theorem modl (n : Nat) (n8 : n ≤ 8) (hkn : IsSize kn) : Modl x sx sb db false false (fm x sx sb db pc ob) n St.seats setS (fun st t a now => Slots.step n 0 kn st t a now) St.ws St.ts (fun w st => (∃ ol, MAt x sx sb db pc ob kn w st.seats (pcl st) ol ∧ Rel kn st ol) ∧ st.seats.length = n ∧ st.pls.length = n ∧ st.ws.length ≤ 100000 ∧ Mem.Wd st.ws ∧ Ok st.pls ∧ Held st) where
  keep := fun h hu hd => by
    obtain ⟨⟨ol, h1, h2⟩, h3⟩ := h
    exact ⟨⟨ol, h1.keep hu hd, h2⟩, h3⟩
  lt := fun h => by
    obtain ⟨⟨ol, h1, h2⟩, h3⟩ := h
    exact h1.lt
  seat := fun h => by
    obtain ⟨⟨ol, h1, h2⟩, h3⟩ := h
    exact h1.seat
  fs := ⟨by simp [fm], by simp [fm], by simp [fm]⟩
  len := fun h => h.2.1
  turn := fun {w w' st l'} h hs ha hu => by
    obtain ⟨⟨ol, h1, h2⟩, hn, hp, h3, h4, h5, h6⟩ := h
    have hl : l'.length = st.seats.length := by
      rcases hs with rfl | ⟨k, _, a, d, rfl, _⟩
      · rfl
      · simp
    refine ⟨⟨ol, h1.seats hl ha hu, h2⟩, by rw [← hn]; exact hl, hp, h3, h4, h5, ?_⟩
    rcases hs with rfl | ⟨k, hk, a, d, rfl, hc⟩
    · exact h6
    · intro u hu
      replace hu : stt (st.seats.set k (a, d)) u = 2 ∨ stt (st.seats.set k (a, d)) u = 3 := hu
      rw [stt_set _ _ _ hk] at hu
      by_cases e : u = k
      · subst e
        rw [if_pos rfl] at hu
        replace hu : a = 2 ∨ a = 3 := hu
        exact h6 u (by omega)
      · rw [if_neg e] at hu; exact h6 u hu
  seatsC := fun h => by
    obtain ⟨⟨ol, h1, h2⟩, h3⟩ := h
    exact seatsC h1
  wsS := fun _ _ => rfl
  tsS := fun _ _ => rfl
  stepC := fun {w st y R} h hR hd hf t now => by
    obtain ⟨⟨ol, h1, h2⟩, hn, hp, h3, h4, h5, h6⟩ := h
    refine (stepR h1 h2 h6 h5 (by rw [hp, hn]) hn n8 hkn hR hd hf h3 h4 t now).mono fun e w' ⟨he, hm, hr⟩ => ⟨he, ⟨hm, ?_, ?_, ?_, ?_, ?_, held_step h5 (by rw [hp, hn]) h6 t now⟩, hr⟩
    all_goals obtain ⟨k1, k2, k3, k4, k5⟩ := mid_keep (n := n) (kn := kn) h5 h4 t t
    · show (fin (midS n 0 kn st t t).2.seats t (midS n 0 kn st t t).1.1).2.length = _
      rw [StepU.fin_len, k5]; exact hn
    · exact k3.trans hp
    · show (midS n 0 kn st t t).2.ws.length ≤ _
      rw [k4]; exact h3
    · exact k2
    · exact k1
end Go.Proofs.Ytamchnaifmoklaa.Ref11
