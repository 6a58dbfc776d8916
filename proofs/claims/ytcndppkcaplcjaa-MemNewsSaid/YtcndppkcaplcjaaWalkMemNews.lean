/- The law MemNews, walked: there are memories of just the homes that may be; each word has its home. -/
import Derived.Test.YtcndppkcaplcjaaDo02
import Derived.Test.YtcndppkcaplcjaaLaw02
import Derived.Test.YtcndppkcaplcjaaWalkMemApart
namespace Go.Proofs.Ytcndppkcaplcjaa.WalkMemNews
open Go Go.RowKit Go.Proofs.Ytcndppkcaplcjaa.Heap Go.Proofs.Ytcndppkcaplcjaa.Mem Go.Proofs.Ytcndppkcaplcjaa.Law02 Go.Proofs.Ytcndppkcaplcjaa.Open Go.Proofs.Ytcndppkcaplcjaa.WalkMemApart

theorem five_get (hs : List Int) (j : Nat) : (List.replicate j 5 ++ hs.drop j).getD j 0 = hs.getD j 0 := by
  rw [List.getD, List.getElem?_append_right (by simp)]; simp [List.getD]
theorem five_set (hs : List Int) (j : Nat) (h : j < hs.length) : (List.replicate j 5 ++ hs.drop j).set j 5 = List.replicate (j + 1) 5 ++ hs.drop (j + 1) := by
  rw [List.set_append_right _ _ (by simp)]
  simp only [List.length_replicate, Nat.sub_self]
  rw [List.drop_eq_getElem_cons h, List.set_cons_zero, List.replicate_succ', List.append_assoc]; rfl
theorem zeros_get (n : Nat) (a : Int) : Mem.get (List.replicate n 0) a = 0 := by
  rcases inB_cases a (List.replicate n (0 : Int)).length with ⟨k, rfl, hk, hi⟩ | ⟨_, hi⟩
  · rw [get_in rfl hi, getD_lt _ _ _ hk]; simp
  · exact get_out hi
theorem get_neg (hs : List Int) : Mem.get hs (-1) = 0 := get_out (by simp [inB])
theorem get_end (hs : List Int) (n : Nat) (h : n = hs.length) : Mem.get hs n = 0 := get_out (by subst h; simp [inB])
set_option maxHeartbeats 1000000 in
theorem many (ao : Option Addr) (len cap : Nat) (a : Int) (w : World) (h : 200 < len) :
    Calls Try.prog 5 #[.slice ao len cap, .int .u16 a] w fun e w' => e = .returned (.bool true) ∧ Below w.heap.size w w' := by
  have h' : (200 : Int) < len := by omega
  go_enter Try.func5, Try.ntmps5
  go_wp2_with fail
  refine (awake _).mono ?_
  rintro e w6 ⟨rfl, u6⟩
  go_wp2
  go_ret
  exact ⟨rfl, u6⟩
set_option maxHeartbeats 4000000 in
theorem nobody (v : Value) (hs : List Int) (a : Int) (w : World) (h : Src1 w v .i64 hs) (hl : hs.length ≤ 200) (h0 : hs = []) (ha : a ≤ 60000) :
    Calls Try.prog 5 #[v, .int .u16 a] w fun e w' => e = .returned (.bool true) ∧ Below w.heap.size w w' := by
  have hread := fun o => (h.below ((Below.refl w.heap.size w).alloc (Nat.le_refl _) o)).readable
  obtain ⟨ao, cap, rfl, -, -⟩ := h
  have hl' : (hs.length : Int) ≤ 200 := by omega
  subst h0
  go_enter Try.func5, Try.ntmps5
  go_wp2_with (at_builtin; refine wpList_append_src rfl (.tmp 14) (.tmp 15) 27 rfl w.heap.size 3 (.int .i64 0) 1 8 Try.underlying27 info_i64 rfl (by decide) (.slice (some ⟨w.heap.size, 0, none⟩) 0 0) 0 [] rfl (own_empty1 w _) _ 0 (ints .i64 []) rfl (hread _) (ints_len1 []) (ints_one []) (by simp [maxLen]) (by simp) (by simp) ?_; intro v' w1 hown1 u1 hnear; rw [Nat.zero_add, List.nil_append] at hown1; have B1 : Below w.heap.size w w1 := u1.below ((Below.refl _ _).alloc (Nat.le_refl _) _) (by simp) (by intro i hi; simp [Value.ownBlock] at hi; omega); obtain ⟨ua, uc, rfl⟩ := owned_len1 hown1; clear hnear u1 hread)
  have hsrc : Src1 w1 (.slice ua 0 uc) .i64 [] := Src1.of_owned (xs := []) hown1
  refine (newO _ _ [] hsrc (by decide) (by decide)).mono ?_
  rintro e w2 ⟨m, rfl, hO, b1⟩
  have B2 := B1.trans (b1.mono B1.size)
  have hsrc2 := hsrc.below b1
  go_wp2_with fail
  refine (homes_all _ _ [] hsrc2 (by decide)).mono ?_
  rintro e w3 ⟨rfl, rfl⟩
  rw [show homesOk [] = true from rfl]
  go_wp2_with fail
  refine (lenO _ _ _ _ _ hO).mono ?_
  rintro e w3 ⟨rfl, rfl⟩
  have KH := homeO _ _ _ _ _ hO (-1)
  have KE := homeO _ _ _ _ _ hO 0
  rw [get_neg] at KH
  rw [show Mem.get [] 0 = 0 from rfl] at KE
  have HKH := Lib.hid KH
  have HKE := Lib.hid KE
  clear KH KE
  go_wp2_with fail
  refine wp_loop_rounds 1 ?_
  rw [rounds_succ]
  go_wp2_with fail
  refine HKH.out.mono ?_
  rintro e w5 ⟨rfl, rfl⟩
  go_wp2_with fail
  refine HKE.out.mono ?_
  rintro e w5 ⟨rfl, rfl⟩
  go_wp2_with fail
  refine (awake _).mono ?_
  rintro e w6 ⟨rfl, u6⟩
  go_wp2
  go_ret
  exact ⟨rfl, B2.trans (u6.mono B2.size)⟩
set_option maxHeartbeats 4000000 in
theorem fine (v : Value) (hs : List Int) (a : Int) (w : World) (h : Src1 w v .i64 hs) (hl : hs.length ≤ 200) (h0 : 0 < hs.length) (ha : a ≤ 60000) (hok : homesOk hs = true) :
    Calls Try.prog 5 #[v, .int .u16 a] w fun e w' => e = .returned (.bool true) ∧ Below w.heap.size w w' := by
  have hread := fun o => (h.below ((Below.refl w.heap.size w).alloc (Nat.le_refl _) o)).readable
  obtain ⟨ao, cap, rfl, -, -⟩ := h
  have hl' : (hs.length : Int) ≤ 200 := by omega
  have HO := Lib.hid hok
  clear hok
  go_enter Try.func5, Try.ntmps5
  go_wp2_with (at_builtin; refine wpList_append_src rfl (.tmp 14) (.tmp 15) 27 rfl w.heap.size 3 (.int .i64 0) 1 8 Try.underlying27 info_i64 rfl (by decide) (.slice (some ⟨w.heap.size, 0, none⟩) 0 0) 0 [] rfl (own_empty1 w _) _ hs.length (ints .i64 hs) rfl (hread _) (ints_len1 hs) (ints_one hs) (by unfold maxLen; omega) (by omega) (by simp) ?_; intro v' w1 hown1 u1 hnear; rw [Nat.zero_add, List.nil_append] at hown1; have B1 : Below w.heap.size w w1 := u1.below ((Below.refl _ _).alloc (Nat.le_refl _) _) (by simp) (by intro i hi; simp [Value.ownBlock] at hi; omega); obtain ⟨g, gc, rfl, hg, hr⟩ := owned hown1 h0; clear hnear u1 hread)
  refine (newO _ _ hs (src_of_rowP hr) (by omega) HO.out).mono ?_
  rintro e w2 ⟨m, rfl, hO, b1⟩
  obtain ⟨S, hS, hO⟩ : ∃ S : Nat → Prop, (∀ b, S b → g < b) ∧ O w2 m S (List.replicate hs.length 0) hs := ⟨_, fun b hb => Nat.lt_of_lt_of_le hr.lt hb.1, hO⟩
  have hS2 : ∀ b, S b → w.heap.size ≤ b := fun b hb => by have := hS b hb; omega
  have hr2 : RowP w2 g (ints .i64 hs) := by obtain ⟨T, r, hh⟩ := hr; exact ⟨T, r, by rw [b1.block _ (Array.getElem?_eq_some_iff.1 hh).1]; exact hh⟩
  have B2 : Below w.heap.size w w2 := B1.trans (b1.mono B1.size)
  go_wp2_with fail
  refine (homes_all _ _ hs (src_of_rowP hr2) (by omega)).mono ?_
  rintro e w3 ⟨rfl, rfl⟩
  rw [HO.out]
  go_wp2_with fail
  refine (lenO _ _ _ _ _ hO).mono ?_
  rintro e w3 ⟨rfl, rfl⟩
  rw [List.length_replicate]
  go_wp2_with fail
  go_loopw [70] (fun i wr => ∃ j : Nat, j ≤ hs.length ∧ i = .int .i64 j ∧ O wr m S (List.replicate hs.length 0) hs ∧ RowP wr g (ints .i64 (List.replicate j 5 ++ hs.drop j)) ∧ Below w.heap.size w wr) (fun i _ => hs.length - (intOf i).toNat)
  case atStart => exact ⟨0, Nat.zero_le _, rfl, hO, by simpa using hr2, B2⟩
  case round =>
    obtain ⟨j, hj, rfl, hO3, hr3, hbel⟩ := hrel
    by_cases hlt : j < hs.length
    · have hjh : j < hs.length := by omega
      have c0 := hr3.cell (ints_get (k := .i64) (xs := List.replicate j 5 ++ hs.drop j) (i := j) (by simp; omega))
      rw [five_get] at c0
      have zf := hr3.frozen j
      have hr4 := hr3.set j (by rw [ints_len]; simp; omega) (.int .i64 5)
      rw [← ints_set, five_set _ _ hjh] at hr4
      have hO4 : O (wr.setCell ⟨g, j, none⟩ (.int .i64 5)) m S (List.replicate hs.length 0) hs := hO3.keep (Upd.one wr g j _) (fun b hb e => by have := hS b hb; omega)
      have hbel4 : Below w.heap.size w (wr.setCell ⟨g, j, none⟩ (.int .i64 5)) := hbel.setCell (show w.heap.size ≤ g by omega) _
      have KH := homeO _ _ _ _ _ hO4 (j : Int)
      have KL := loadO _ _ _ _ _ hO4 (j : Int)
      rw [zeros_get] at KL
      rw [get_in rfl (by simp [inB]; omega)] at KH
      obtain ⟨x, hx⟩ : ∃ x, hs.getD j 0 = x := ⟨_, rfl⟩
      rw [hx] at c0 KH
      have HKH := Lib.hid KH
      have HKL := Lib.hid KL
      have hj' : (j : Int) < hs.length := by omega
      clear hx KH KL hr3 hO3 hr2
      go_wp2_with fail
      refine HKH.out.mono ?_
      rintro e w5 ⟨rfl, rfl⟩
      go_wp2_with fail
      refine HKL.out.mono ?_
      rintro e w5 ⟨rfl, rfl⟩
      go_wp2_with fail
      go_roundw
      case rel => exact ⟨j + 1, by omega, by go_num, hO4, hr4, hbel4⟩
      case measure => simp [intOf]; omega
    · have KH := homeO _ _ _ _ _ hO3 (-1)
      have KE := homeO _ _ _ _ _ hO3 ((hs.length : Nat) : Int)
      rw [get_neg] at KH
      rw [get_end hs hs.length rfl] at KE
      have HKH := Lib.hid KH
      have HKE := Lib.hid KE
      clear KH KE hr2 hr3
      go_wp2_with fail
      refine HKH.out.mono ?_
      rintro e w5 ⟨rfl, rfl⟩
      go_wp2_with fail
      refine HKE.out.mono ?_
      rintro e w5 ⟨rfl, rfl⟩
      go_wp2_with fail
      refine (awake _).mono ?_
      rintro e w6 ⟨rfl, u6⟩
      go_wp2
      go_ret
      exact ⟨rfl, hbel.trans (u6.mono hbel.size)⟩
set_option maxHeartbeats 4000000 in
theorem bad (v : Value) (hs : List Int) (a : Int) (w : World) (h : Src1 w v .i64 hs) (hl : hs.length ≤ 200) (ha : a ≤ 60000) (hok : homesOk hs = false) :
    Calls Try.prog 5 #[v, .int .u16 a] w fun e w' => e = .returned (.bool true) ∧ Below w.heap.size w w' := by
  have hread := fun o => (h.below ((Below.refl w.heap.size w).alloc (Nat.le_refl _) o)).readable
  obtain ⟨ao, cap, rfl, -, -⟩ := h
  have hl' : (hs.length : Int) ≤ 200 := by omega
  have h0 : 0 < hs.length := by
    cases hs with
    | nil => simp [homesOk] at hok
    | cons x xs => simp
  have HO := Lib.hid hok
  clear hok
  go_enter Try.func5, Try.ntmps5
  go_wp2_with (at_builtin; refine wpList_append_src rfl (.tmp 14) (.tmp 15) 27 rfl w.heap.size 3 (.int .i64 0) 1 8 Try.underlying27 info_i64 rfl (by decide) (.slice (some ⟨w.heap.size, 0, none⟩) 0 0) 0 [] rfl (own_empty1 w _) _ hs.length (ints .i64 hs) rfl (hread _) (ints_len1 hs) (ints_one hs) (by unfold maxLen; omega) (by omega) (by simp) ?_; intro v' w1 hown1 u1 hnear; rw [Nat.zero_add, List.nil_append] at hown1; have B1 : Below w.heap.size w w1 := u1.below ((Below.refl _ _).alloc (Nat.le_refl _) _) (by simp) (by intro i hi; simp [Value.ownBlock] at hi; omega); obtain ⟨g, gc, rfl, hg, hr⟩ := owned hown1 h0; clear hnear u1 hread)
  refine (new_arg _ _ hs (src_of_rowP hr) (by omega) HO.out).mono ?_
  rintro e w2 ⟨rfl, rfl⟩
  go_wp2_with fail
  refine (homes_all _ _ hs (src_of_rowP hr) (by omega)).mono ?_
  rintro e w3 ⟨rfl, rfl⟩
  rw [HO.out]
  go_wp2_with fail
  refine (awake _).mono ?_
  rintro e w6 ⟨rfl, u6⟩
  go_wp2
  go_ret
  exact ⟨rfl, B1.trans (u6.mono B1.size)⟩
set_option maxHeartbeats 4000000 in
theorem made (v : Value) (hs : List Int) (a : Int) (w : World) (h : Src1 w v .i64 hs) (hl : hs.length ≤ 200) (ha : 60000 < a) (a1 : a < 65536) (n : Nat) (hn : 4090 + a % 12 = n) (hnn : n ≤ 4096) :
    Calls Try.prog 5 #[v, .int .u16 a] w fun e w' => e = .returned (.bool true) ∧ Below w.heap.size w w' := by
  have hread := fun o => (h.below ((Below.refl w.heap.size w).alloc (Nat.le_refl _) o)).readable
  obtain ⟨ao, cap, rfl, -, -⟩ := h
  have hl' : (hs.length : Int) ≤ 200 := by omega
  have ha' : 60000 < a := by omega
  have hmk : ∀ W, (Instr.makeSlice 27 (.int .i64 (4090 + a % 12)) (.int .i64 (4090 + a % 12))).run Try.prog W = .ok (.slice (some ⟨W.heap.size, 0, none⟩) n n) (W.alloc (.cells (zeros n (.int .i64 0)) 3)) := by
    rw [hn]; exact run_make_zeros (P := Try.prog) 27 3 (.int .i64 0) 8 Try.underlying27 info_i64 rfl n (by omega) (by omega)
  have hn1 : 4090 ≤ n := by omega
  have hn2 : n ≤ 4101 := by omega
  clear hn
  go_enter Try.func5, Try.ntmps5
  go_wp2_with (at_builtin; refine wpList_append_src rfl (.tmp 14) (.tmp 15) 27 rfl w.heap.size 3 (.int .i64 0) 1 8 Try.underlying27 info_i64 rfl (by decide) (.slice (some ⟨w.heap.size, 0, none⟩) 0 0) 0 [] rfl (own_empty1 w _) _ hs.length (ints .i64 hs) rfl (hread _) (ints_len1 hs) (ints_one hs) (by unfold maxLen; omega) (by omega) (by simp) ?_; intro v' w1 hown1 u1 hnear; rw [Nat.zero_add, List.nil_append] at hown1; have B1 : Below w.heap.size w w1 := u1.below ((Below.refl _ _).alloc (Nat.le_refl _) _) (by simp) (by intro i hi; simp [Value.ownBlock] at hi; omega); skip; clear hnear u1 hread)
  have hn' : (n : Int) ≤ 4096 := by omega
  refine (newO _ _ _ (src_zeros _ _ _ _ (by simp)) (by simp; omega) (homes_zeros _)).mono ?_
  rintro e w2 ⟨m, rfl, hO, b1⟩
  rw [List.length_replicate] at hO
  have hr1 : RowP w2 w1.heap.size (ints .i64 (List.replicate n 0)) := ((show Row (w1.alloc (.cells (zeros n (.int .i64 0)) 3)) w1.heap.size (ints .i64 (List.replicate n 0)) from by have := Row.ofZeros (w := w1) (T := 3) (n := n) (z := .int .i64 0) rfl; simpa [ints] using this).below b1 (by simp)).toP
  have B2' : Below w.heap.size w w2 := (B1.alloc B1.size _).trans (b1.mono (by simp; exact Nat.le_succ_of_le B1.size))
  obtain ⟨g, hg⟩ : ∃ g, w1.heap.size = g := ⟨_, rfl⟩
  have hgw : w.heap.size ≤ g := by rw [← hg]; exact B1.size
  rw [hg] at hr1 ⊢
  obtain ⟨S, hS, hO⟩ : ∃ S : Nat → Prop, (∀ b, S b → g < b) ∧ O w2 m S (List.replicate n 0) (List.replicate n (0 : Int)) := ⟨_, fun b hb => Nat.lt_of_lt_of_le (by simp; omega) hb.1, hO⟩
  have hS2 : ∀ b, S b → w.heap.size ≤ b := fun b hb => by have := hS b hb; omega
  have hr2 : RowP w2 g (ints .i64 (List.replicate n (0 : Int))) := hr1
  have B2 : Below w.heap.size w w2 := B2'
  go_wp2_with fail
  refine (homes_all _ _ (List.replicate n (0 : Int)) (by have := src_of_rowP (cap := n) hr2; rwa [List.length_replicate] at this) (by simp; omega)).mono ?_
  rintro e w3 ⟨rfl, rfl⟩
  rw [homes_zeros]
  go_wp2_with fail
  refine (lenO _ _ _ _ _ hO).mono ?_
  rintro e w3 ⟨rfl, rfl⟩
  rw [List.length_replicate]
  go_wp2_with fail
  go_loopw [70] (fun i wr => ∃ j : Nat, j ≤ n ∧ i = .int .i64 j ∧ O wr m S (List.replicate n 0) (List.replicate n (0 : Int)) ∧ RowP wr g (ints .i64 (List.replicate j 5 ++ (List.replicate n (0 : Int)).drop j)) ∧ Below w.heap.size w wr) (fun i _ => n - (intOf i).toNat)
  case atStart => exact ⟨0, Nat.zero_le _, rfl, hO, by simpa using hr2, B2⟩
  case round =>
    obtain ⟨j, hj, rfl, hO3, hr3, hbel⟩ := hrel
    by_cases hlt : j < n
    · have hjh : j < (List.replicate n (0 : Int)).length := by simp; omega
      have c0 := hr3.cell (ints_get (k := .i64) (xs := List.replicate j 5 ++ (List.replicate n (0 : Int)).drop j) (i := j) (by simp; omega))
      rw [five_get] at c0
      have zf := hr3.frozen j
      have hr4 := hr3.set j (by rw [ints_len]; simp; omega) (.int .i64 5)
      rw [← ints_set, five_set _ _ hjh] at hr4
      have hO4 : O (wr.setCell ⟨g, j, none⟩ (.int .i64 5)) m S (List.replicate n 0) (List.replicate n (0 : Int)) := hO3.keep (Upd.one wr g j _) (fun b hb e => by have := hS b hb; omega)
      have hbel4 : Below w.heap.size w (wr.setCell ⟨g, j, none⟩ (.int .i64 5)) := hbel.setCell (show w.heap.size ≤ g by omega) _
      have KH := homeO _ _ _ _ _ hO4 (j : Int)
      have KL := loadO _ _ _ _ _ hO4 (j : Int)
      rw [zeros_get] at KL
      rw [get_in rfl (by simp [inB]; omega)] at KH
      obtain ⟨x, hx⟩ : ∃ x, (List.replicate n (0 : Int)).getD j 0 = x := ⟨_, rfl⟩
      rw [hx] at c0 KH
      have HKH := Lib.hid KH
      have HKL := Lib.hid KL
      have hj' : (j : Int) < n := by omega
      clear hx KH KL hr3 hO3 hr2
      go_wp2_with fail
      refine HKH.out.mono ?_
      rintro e w5 ⟨rfl, rfl⟩
      go_wp2_with fail
      refine HKL.out.mono ?_
      rintro e w5 ⟨rfl, rfl⟩
      go_wp2_with fail
      go_roundw
      case rel => exact ⟨j + 1, by omega, by go_num, hO4, hr4, hbel4⟩
      case measure => simp [intOf]; omega
    · have KH := homeO _ _ _ _ _ hO3 (-1)
      have KE := homeO _ _ _ _ _ hO3 ((n : Nat) : Int)
      rw [get_neg] at KH
      rw [get_end (List.replicate n (0 : Int)) n (by simp)] at KE
      have HKH := Lib.hid KH
      have HKE := Lib.hid KE
      clear KH KE hr2 hr3
      go_wp2_with fail
      refine HKH.out.mono ?_
      rintro e w5 ⟨rfl, rfl⟩
      go_wp2_with fail
      refine HKE.out.mono ?_
      rintro e w5 ⟨rfl, rfl⟩
      go_wp2_with fail
      refine (awake _).mono ?_
      rintro e w6 ⟨rfl, u6⟩
      go_wp2
      go_ret
      exact ⟨rfl, hbel.trans (u6.mono hbel.size)⟩
set_option maxHeartbeats 4000000 in
theorem big (v : Value) (hs : List Int) (a : Int) (w : World) (h : Src1 w v .i64 hs) (hl : hs.length ≤ 200) (ha : 60000 < a) (a1 : a < 65536) (n : Nat) (hn : 4090 + a % 12 = n) (hnn : 4096 < n) :
    Calls Try.prog 5 #[v, .int .u16 a] w fun e w' => e = .returned (.bool true) ∧ Below w.heap.size w w' := by
  have hread := fun o => (h.below ((Below.refl w.heap.size w).alloc (Nat.le_refl _) o)).readable
  obtain ⟨ao, cap, rfl, -, -⟩ := h
  have hl' : (hs.length : Int) ≤ 200 := by omega
  have ha' : 60000 < a := by omega
  have hmk : ∀ W, (Instr.makeSlice 27 (.int .i64 (4090 + a % 12)) (.int .i64 (4090 + a % 12))).run Try.prog W = .ok (.slice (some ⟨W.heap.size, 0, none⟩) n n) (W.alloc (.cells (zeros n (.int .i64 0)) 3)) := by
    rw [hn]; exact run_make_zeros (P := Try.prog) 27 3 (.int .i64 0) 8 Try.underlying27 info_i64 rfl n (by omega) (by omega)
  have hn1 : 4090 ≤ n := by omega
  have hn2 : n ≤ 4101 := by omega
  clear hn
  go_enter Try.func5, Try.ntmps5
  go_wp2_with (at_builtin; refine wpList_append_src rfl (.tmp 14) (.tmp 15) 27 rfl w.heap.size 3 (.int .i64 0) 1 8 Try.underlying27 info_i64 rfl (by decide) (.slice (some ⟨w.heap.size, 0, none⟩) 0 0) 0 [] rfl (own_empty1 w _) _ hs.length (ints .i64 hs) rfl (hread _) (ints_len1 hs) (ints_one hs) (by unfold maxLen; omega) (by omega) (by simp) ?_; intro v' w1 hown1 u1 hnear; rw [Nat.zero_add, List.nil_append] at hown1; have B1 : Below w.heap.size w w1 := u1.below ((Below.refl _ _).alloc (Nat.le_refl _) _) (by simp) (by intro i hi; simp [Value.ownBlock] at hi; omega); skip; clear hnear u1 hread)
  have hn' : (4096 : Int) < n := by omega
  refine (new_big _ _ _ (src_zeros _ _ _ _ (by simp)) (by simp; omega)).mono ?_
  rintro e w2 ⟨rfl, rfl⟩
  go_wp2_with fail
  refine (awake _).mono ?_
  rintro e w6 ⟨rfl, u6⟩
  go_wp2
  go_ret
  exact ⟨rfl, (B1.alloc B1.size _).trans (u6.mono (by simp; exact Nat.le_succ_of_le B1.size))⟩
theorem walk (v : Value) (hs : List Int) (a : Int) (w : World) (h : Mem.Src .i64 w v hs) (ha : (Lit.int .u16 a).wf = true) :
    Calls Try.prog 5 #[v, .int .u16 a] w fun e w' => e = .returned (.bool true) ∧ Below w.heap.size w w' := by
  have ha' : 0 ≤ a ∧ a < 65536 := by simp [Lit.wf, IntKind.min, IntKind.max, IntKind.bits, IntKind.signed] at ha; omega
  by_cases hl : hs.length ≤ 200
  · by_cases hb : a ≤ 60000
    · cases hs with
      | nil => exact nobody v [] a w h.2 hl rfl hb
      | cons x xs =>
        cases hok : homesOk (x :: xs) with
        | true => exact fine v _ a w h.2 hl (by simp) hb hok
        | false => exact bad v _ a w h.2 hl hb hok
    · by_cases hnn : (4090 + a % 12).toNat ≤ 4096
      · exact made v hs a w h.2 hl (by omega) ha'.2 (4090 + a % 12).toNat (by omega) hnn
      · exact big v hs a w h.2 hl (by omega) ha'.2 (4090 + a % 12).toNat (by omega) (by omega)
  · obtain ⟨ao, cap, rfl, _⟩ := h.1.len
    exact many ao _ cap a w (by omega)
end Go.Proofs.Ytcndppkcaplcjaa.WalkMemNews
