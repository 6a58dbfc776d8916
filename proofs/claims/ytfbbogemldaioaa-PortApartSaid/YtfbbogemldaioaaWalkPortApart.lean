/- The law PortApart, walked: what a thread does counts for it alone; misses and writes are accesses. -/
import Derived.Test.YtfbbogemldaioaaOps04
import Derived.Test.YtfbbogemldaioaaSrcS
import Derived.Deep.CutRange
import Derived.Deep.CutBlock
namespace Go.Proofs.Ytfbbogemldaioaa.WalkPortApart
open Go Go.RowKit Go.Proofs.Ytfbbogemldaioaa.Heap Go.Proofs.Ytfbbogemldaioaa.Open Go.Proofs.Ytfbbogemldaioaa.Law04 Go.Proofs.Ytfbbogemldaioaa.Has

/-- The accesses of eight threads. -/
def accs (l : List T) : List Int := (List.range 8).map fun (t : Nat) => ((acc l (t : Int) : Nat) : Int)
theorem accs_get (l : List T) (t : Nat) (h : t < 8) : (accs l).getD t 0 = ((acc l (t : Int) : Nat) : Int) := by simp [accs, List.getD, h]
theorem accs_len (l : List T) : (accs l).length = 8 := by simp [accs]
theorem fill8 (xs : List Int) (h : xs.length = 8) (k : Nat) (hk : k < 8) : (xs.take k ++ List.replicate (8 - k) 0).set k (xs.getD k 0) = xs.take (k + 1) ++ List.replicate (8 - (k + 1)) 0 := by
  have e1 : k - (xs.take k).length = 0 := by simp; omega
  have e2 : 8 - k = (8 - (k + 1)) + 1 := by omega
  rw [List.set_append_right _ _ (by simp; omega), e1, e2, List.replicate_succ, List.set_cons_zero, List.take_succ_eq_append_getElem (by omega), List.append_assoc, getD_lt _ _ _ (by omega)]; rfl
theorem fill8_get (xs : List Int) (h : xs.length = 8) (k : Nat) (hk : k < 8) : (xs.take k ++ List.replicate (8 - k) 0).getD k 0 = 0 := by
  have e1 : k - (xs.take k).length = 0 := by simp; omega
  have e2 : 8 - k = (8 - (k + 1)) + 1 := by omega
  rw [List.getD, List.getElem?_append_right (by simp; omega), e1, e2, List.replicate_succ]; rfl
/-- What one access more makes of a thread's accesses. -/
theorem acc_after (k n : Nat) (l : List T) (t a : Int) (wr : Bool) (u : Int) : acc l u ≤ acc (Cache.after k n l t a wr) u ∧ acc (Cache.after k n l t a wr) u ≤ acc l u + 1 ∧ (u ≠ t → acc (Cache.after k n l t a wr) u = acc l u) := by
  unfold Cache.after
  split
  · rw [acc_snoc]
    by_cases e : t = u
    · rw [if_pos e]; exact ⟨by omega, by omega, fun h => absurd e.symm h⟩
    · rw [if_neg e]; exact ⟨by omega, by omega, fun _ => rfl⟩
  · exact ⟨Nat.le_refl _, by omega, fun _ => rfl⟩
set_option maxHeartbeats 8000000 in
set_option maxRecDepth 100000 in
theorem walk (v : Value) (xs : List (List Value)) (w : World) (h : Recs w v kinds04 xs) :
    Calls Try.prog 4 #[v] w fun e w' => e = .returned (.bool true) ∧ Below w.heap.size w w' := by
  obtain ⟨ao, cap, rfl, hlc, hlm⟩ := h.len
  by_cases hlong : 60 < xs.length
  · have hl60 : (60 : Int) < (xs.length : Int) := by omega
    go_enter Try.func4, Try.ntmps4
    go_wp2_with fail
    refine (Port.newP _ 8 _ _ [0, 1] [0, 0] ((src_lit _ .i64 [0, 1] _ _ _ _ _ rfl rfl rfl).below ((Below.refl _ _).alloc (Nat.le_refl _) _)) (src_lit _ .u32 [0, 0] _ _ _ _ _ rfl (by simp) rfl) rfl (by decide) (by decide) (by intro x hx; simp at hx; omega) (by decide) (by decide)).mono ?_
    rintro e w1 ⟨p, rfl, h1, b1⟩
    have B1 : Below w.heap.size w w1 := (((Below.refl _ _).alloc (Nat.le_refl _) _).alloc (by simp) _).trans (b1.mono (by simp; omega))
    go_wp2_with fail
    refine (awake _).mono ?_
    rintro e w4 ⟨rfl, u4⟩
    go_wp2
    go_ret
    exact ⟨rfl, B1.trans (u4.mono B1.size)⟩
  have hl60 : (xs.length : Int) ≤ 60 := by omega
  go_enter Try.func4, Try.ntmps4
  go_wp2_with fail
  refine (Port.newP _ 8 _ _ [0, 1] [0, 0] ((src_lit _ .i64 [0, 1] _ _ _ _ _ rfl rfl rfl).below ((Below.refl _ _).alloc (Nat.le_refl _) _)) (src_lit _ .u32 [0, 0] _ _ _ _ _ rfl (by simp) rfl) rfl (by decide) (by decide) (by intro x hx; simp at hx; omega) (by decide) (by decide)).mono ?_
  rintro e w1 ⟨p, rfl, h1, b1⟩
  have B1 : Below w.heap.size w w1 := (((Below.refl _ _).alloc (Nat.le_refl _) _).alloc (by simp) _).trans (b1.mono (by simp; omega))
  obtain ⟨S, hS, hS2, h1⟩ : ∃ S : Nat → Prop, (∀ b, S b → w.heap.size ≤ b) ∧ (∀ b, S b → b < w1.heap.size) ∧ Port.O w1 p S 8 [0, 0] [0, 1] [] := ⟨_, fun b hb => Nat.le_trans (by simp; omega) hb.1, fun b hb => hb.2, h1⟩
  clear b1
  obtain ⟨M, hM⟩ : ∃ M, w1.heap.size = M := ⟨_, rfl⟩
  rw [hM] at hS2
  have hM1 : M ≤ w1.heap.size := by omega
  clear hM
  go_wp2_with fail
  go_loopw [38] (fun i wr => ∃ j : Nat, j ≤ xs.length ∧ i = .int .i64 j ∧ ∃ (ws : List Int) (l : List T), ws.length = 2 ∧ l.length ≤ j ∧ Port.O wr p S 8 ws [0, 1] l ∧ Below w.heap.size w wr ∧ M ≤ wr.heap.size) (fun i _ => xs.length - (intOf i).toNat)
  case atStart => exact ⟨0, Nat.zero_le _, rfl, [0, 0], [], rfl, Nat.le_refl _, h1, B1, hM1⟩
  case round =>
    obtain ⟨j, hj, rfl, ws, l, hws, hlj, hat, hbel, hsz⟩ := hrel
    by_cases hlt : j < xs.length
    · obtain ⟨b, off, rfl, hb, hrec, hcell⟩ := h.cells hbel hlt
      obtain ⟨y, hy⟩ : ∃ y, xs.getD j [] = y := ⟨_, rfl⟩
      rw [hy] at hrec hcell
      obtain ⟨y0, y1, y2, y3, y4, rfl, ⟨t, rfl, -⟩, ⟨q, rfl, -⟩, ⟨a, rfl, -⟩, ⟨o, rfl, -⟩, ⟨x, rfl, hx⟩⟩ := hrec.five
      have c0 := hcell 0 _ (by decide) rfl
      have c1 := hcell 1 _ (by decide) rfl
      have c2 := hcell 2 _ (by decide) rfl
      have c3 := hcell 3 _ (by decide) rfl
      have c4 := hcell 4 _ (by decide) rfl
      simp [kinds04] at c0 c1 c2 c3 c4
      have hx := wf_u32 hx
      have HL := Lib.hid (accs_len l)
      have HWS := Lib.hid hws
      clear hy hrec hcell h1 B1 hws
      go_wp2_with fail
      have hA0 : Port.O ((wr.alloc (.cells #[.int .i64 t, .int .i64 q, .int .i64 a, .int .u32 o, .int .u32 x] 35)).alloc (.cells #[.int .i64 0, .int .i64 0, .int .i64 0, .int .i64 0, .int .i64 0, .int .i64 0, .int .i64 0, .int .i64 0] 36)) p S 8 ws [0, 1] l := (hat.alloc _).alloc _
      have hbx : Row ((wr.alloc (.cells #[.int .i64 t, .int .i64 q, .int .i64 a, .int .u32 o, .int .u32 x] 35)).alloc (.cells #[.int .i64 0, .int .i64 0, .int .i64 0, .int .i64 0, .int .i64 0, .int .i64 0, .int .i64 0, .int .i64 0] 36)) wr.heap.size [.int .i64 t, .int .i64 q, .int .i64 a, .int .u32 o, .int .u32 x] := (Row.new' rfl).alloc _
      have hwas : Row ((wr.alloc (.cells #[.int .i64 t, .int .i64 q, .int .i64 a, .int .u32 o, .int .u32 x] 35)).alloc (.cells #[.int .i64 0, .int .i64 0, .int .i64 0, .int .i64 0, .int .i64 0, .int .i64 0, .int .i64 0, .int .i64 0] 36)) (wr.heap.size + 1) (ints .i64 ((accs l).take 0 ++ List.replicate (8 - 0) 0)) := Row.new' (by simp)
      have hb0 : Below w.heap.size w ((wr.alloc (.cells #[.int .i64 t, .int .i64 q, .int .i64 a, .int .u32 o, .int .u32 x] 35)).alloc (.cells #[.int .i64 0, .int .i64 0, .int .i64 0, .int .i64 0, .int .i64 0, .int .i64 0, .int .i64 0, .int .i64 0] 36)) := (hbel.alloc hbel.size _).alloc (by simp; exact Nat.le_succ_of_le hbel.size) _
      have hz0 := hbel.size
      obtain ⟨B, hB⟩ : ∃ B, wr.heap.size = B := ⟨_, rfl⟩
      obtain ⟨W0, hW0⟩ : ∃ W, ((wr.alloc (.cells #[.int .i64 t, .int .i64 q, .int .i64 a, .int .u32 o, .int .u32 x] 35)).alloc (.cells #[.int .i64 0, .int .i64 0, .int .i64 0, .int .i64 0, .int .i64 0, .int .i64 0, .int .i64 0, .int .i64 0] 36)) = W := ⟨_, rfl⟩
      rw [hW0] at hA0 hbx hwas hb0 ⊢
      rw [hB] at hbx hwas hsz hz0 ⊢
      clear hW0 hB hbel hat c0 c1 c2 c3 c4
      go_loopw [42] (fun i wi => ∃ n : Nat, n ≤ 8 ∧ i = .int .i64 n ∧ Port.O wi p S 8 ws [0, 1] l ∧ Row wi B [.int .i64 t, .int .i64 q, .int .i64 a, .int .u32 o, .int .u32 x] ∧ Row wi (B + 1) (ints .i64 ((accs l).take n ++ List.replicate (8 - n) 0)) ∧ Below w.heap.size w wi) (fun i _ => 8 - (intOf i).toNat)
      case atStart => exact ⟨0, by decide, rfl, hA0, hbx, hwas, hb0⟩
      case round =>
        obtain ⟨n, hn, rfl, hA, hbx, hwas, hbel⟩ := hrel
        by_cases hn8 : n < 8
        · have hn8' : (n : Int) < 8 := by omega
          have KA := Port.accessesP _ _ _ _ _ _ _ hA (n : Int)
          rw [if_pos (show Mem.inB (n : Int) 8 = true by simp [Mem.inB]; omega), ← accs_get l n hn8] at KA
          have e1 := fill8 (accs l) HL.out n hn8
          have e2 := fill8_get (accs l) HL.out n hn8
          have d0 := hwas.cell (ints_get (k := .i64) (i := n) (xs := (accs l).take n ++ List.replicate (8 - n) 0) (by simp [accs_len]; omega))
          rw [e2] at d0
          have zf := hwas.frozen n
          have hw2 := hwas.set n (.int .i64 ((accs l).getD n 0))
          rw [← ints_set, e1] at hw2
          obtain ⟨y, hy⟩ : ∃ y, (accs l).getD n 0 = y := ⟨_, rfl⟩
          rw [hy] at KA hw2
          have HKA := Lib.hid KA
          have up := Upd.one wr (B + 1) n (.int .i64 y)
          clear KA e1 e2 hy hwas
          go_wp2_with fail
          refine HKA.out.mono ?_
          rintro e w5 ⟨rfl, rfl⟩
          go_wp2_with fail
          go_roundw
          case rel => exact ⟨n + 1, by omega, by go_num, hA.keep up (fun b hb e => by have := hS2 b hb; omega), hbx.upd up (by omega), hw2, up.below hbel hbel.size (by omega)⟩
          case measure => simp [intOf]; omega
        · obtain rfl : n = 8 := by omega
          rw [List.take_of_length_le (by rw [HL.out]; exact Nat.le_refl _)] at hwas
          simp only [Nat.sub_self, List.replicate_zero, List.append_nil] at hwas
          have q0 := hbx.cell (i := 0) rfl
          have q1 := hbx.cell (i := 1) rfl
          have q2 := hbx.cell (i := 2) rfl
          have q3 := hbx.cell (i := 3) rfl
          have q4 := hbx.cell (i := 4) rfl
          have K1 := Port.loadP _ _ _ _ _ _ _ hA (by omega) t a
          have K3 := Port.swapP _ _ _ _ _ _ _ hA (by omega) t a x hx.1 hx.2
          obtain ⟨gg, hgg⟩ : ∃ y, (if Mem.inB t 8 = true then Mem.get ws a else 0) = y := ⟨_, rfl⟩
          rw [hgg] at K1 K3
          have H1 := Lib.hid K1
          have H3 := Lib.hid K3
          clear K1 K3 hgg
          have H4 := Lib.hid (Port.casP _ _ _ _ _ _ _ hA (by omega) t a o x hx.1 hx.2)
          have hz1 := hbel.size
          have hA9 := hA.lt
          have hB1 := hwas.lt
          go_upto_block 4 with (fail)
          go_cut [] from 51 to 80 (fun wx => ∃ (ws5 : List Int) (l5 : List T), ws5.length = 2 ∧ l5.length ≤ l.length + 1 ∧ (∀ u : Int, acc l u ≤ acc l5 u ∧ acc l5 u ≤ acc l u + 1 ∧ (u ≠ t → acc l5 u = acc l u)) ∧ Port.O wx p S 8 ws5 [0, 1] l5 ∧ Row wx B [.int .i64 t, .int .i64 q, .int .i64 a, .int .u32 o, .int .u32 x] ∧ Row wx (B + 1) (ints .i64 (accs l)) ∧ Below w.heap.size w wx)
          case first =>
            have fin : ∀ w5 ws5 wr', Upd S wr w5 → ws5.length = 2 → Port.O w5 p S 8 ws5 [0, 1] (Cache.after 8 ws.length l t a wr') → ∃ (ws5 : List Int) (l5 : List T), ws5.length = 2 ∧ l5.length ≤ l.length + 1 ∧ (∀ u : Int, acc l u ≤ acc l5 u ∧ acc l5 u ≤ acc l u + 1 ∧ (u ≠ t → acc l5 u = acc l u)) ∧ Port.O w5 p S 8 ws5 [0, 1] l5 ∧ Row w5 B [.int .i64 t, .int .i64 q, .int .i64 a, .int .u32 o, .int .u32 x] ∧ Row w5 (B + 1) (ints .i64 (accs l)) ∧ Below w.heap.size w w5 := by
              intro w5 ws5 wr' u5 h5 hA5
              exact ⟨ws5, _, h5, Cache.after_len _ _ _ _ _ _, acc_after _ _ _ _ _ _, hA5, hbx.upd u5 (fun e => by have := hS2 _ e; omega), hwas.upd u5 (fun e => by have := hS2 _ e; omega), u5.below hbel hbel.size hS⟩
            have FIN := Lib.hid fin
            clear fin
            by_cases e1 : q = 1
            · subst e1
              go_wp2_with fail
              refine H1.out.mono ?_
              rintro e w5 ⟨rfl, hA5, u5⟩
              go_wp2_with fail
              go_meet
              case rel => exact FIN.out _ _ _ u5 HWS.out hA5
            have E1 : (q == 1) = false := by simpa using e1
            by_cases e3 : q = 3
            · subst e3
              go_wp2_with fail
              refine H3.out.mono ?_
              rintro e w5 ⟨rfl, hA5, u5⟩
              go_wp2_with fail
              go_meet
              case rel => exact FIN.out _ _ _ u5 (by split <;> simp [Mem.put_len, HWS.out]) hA5
            have E3 : (q == 3) = false := by simpa using e3
            clear e1 e3
            go_wp2_with fail
            refine H4.out.mono ?_
            rintro e w5 ⟨rfl, hA5, u5⟩
            go_wp2_with fail
            go_meet
            case rel => exact FIN.out _ _ _ u5 (by split <;> simp [Mem.put_len, HWS.out]) hA5
          case rest =>
            clear H1 H3 H4 hA hbx hwas q0 q1 q2 q3 q4
            obtain ⟨ws5, l5, hws5, hl5, hac, hA5, hbx5, hwas5, hbel5⟩ := hcut
            obtain ⟨w5, hw5⟩ : ∃ w5, wc = w5 := ⟨_, rfl⟩
            rw [hw5] at hA5 hbx5 hwas5 hbel5 ⊢
            clear hw5
            have hz5 : M ≤ w5.heap.size := by have := hwas5.lt; omega
            have HW5 := Lib.hid hws5
            clear hws5
            go_wp2_with fail
            go_loopw [81] (fun i wi => ∃ n : Nat, n ≤ 8 ∧ i = .int .i64 n ∧ Below w5.heap.size w5 wi) (fun i _ => 8 - (intOf i).toNat)
            case atStart => exact ⟨0, by decide, rfl, Below.refl _ _⟩
            case round =>
              obtain ⟨n, hn, rfl, b6⟩ := hrel
              have hA6 := hA5.below b6
              by_cases hn8 : n < 8
              · have hn8' : (n : Int) < 8 := by omega
                have q0 := (hbx5.below b6 hbx5.lt).cell (i := 0) rfl
                have d0 := (hwas5.below b6 hwas5.lt).cell (ints_get (k := .i64) (i := n) (xs := accs l) (by rw [HL.out]; exact hn8))
                rw [accs_get l n hn8] at d0
                have KA := fun m => Port.accessesP _ _ _ _ _ _ _ (hA6.drewN m) (n : Int)
                have KW := fun m => Port.writesP _ _ _ _ _ _ _ (hA6.drewN m) (n : Int)
                have KM := fun m => Port.missesP _ _ _ _ _ _ _ (hA6.drewN m) (n : Int)
                have hin : Mem.inB (n : Int) 8 = true := by simp [Mem.inB]; omega
                simp only [hin, if_true] at KA KW KM
                obtain ⟨k1, k2, k3⟩ := hac n
                have k4 := wrs_le l5 n
                have k5 := misses_acc 8 l5 n
                have k6 := acc_le l n
                have k3' : (n : Int) ≠ t → ((acc l5 n : Nat) : Int) = ((acc l n : Nat) : Int) := fun hh => by rw [k3 hh]
                have k1' : ((acc l n : Nat) : Int) ≤ 1000000 ∧ 0 ≤ ((acc l n : Nat) : Int) ∧ ((acc l5 n : Nat) : Int) ≤ ((acc l n : Nat) : Int) + 1 ∧ ((wrs l5 n : Nat) : Int) ≤ ((acc l5 n : Nat) : Int) ∧ ((misses 8 l5 n : Nat) : Int) ≤ ((acc l5 n : Nat) : Int) := by omega
                clear k1 k2 k3 k4 k5 k6
                obtain ⟨y0, hy0⟩ : ∃ y : Int, ((acc l n : Nat) : Int) = y := ⟨_, rfl⟩
                obtain ⟨y5, hy5⟩ : ∃ y : Int, ((acc l5 n : Nat) : Int) = y := ⟨_, rfl⟩
                obtain ⟨z5, hz5'⟩ : ∃ y : Int, ((wrs l5 n : Nat) : Int) = y := ⟨_, rfl⟩
                obtain ⟨m5, hm5⟩ : ∃ y : Int, ((misses 8 l5 n : Nat) : Int) = y := ⟨_, rfl⟩
                rw [hy0] at d0 k1' k3'
                rw [hy5] at k1' k3'
                rw [hz5'] at k1'
                rw [hm5] at k1'
                simp only [hy5] at KA
                simp only [hz5'] at KW
                simp only [hm5] at KM
                obtain ⟨kb, kc, kd, ke, kf⟩ := k1'
                have g1 : decide (y0 + 1 < y5) = false := by simp; omega
                have g2 : decide (y5 < z5) = false := by simp; omega
                have g3 : decide (y5 < m5) = false := by simp; omega
                have k3 := k3'
                clear k3' ke kf
                have K3 := Lib.hid k3
                have HA := Lib.hid KA
                have HW := Lib.hid KW
                have HM := Lib.hid KM
                clear KA KW KM hy0 hy5 hz5' hm5 hin k3 kd
                by_cases hnt : (n : Int) = t
                · have hnt1 : ((n : Int) != t) = false := by simpa using hnt
                  clear hnt
                  as_aux_lemma =>
                  go_wp2_with fail
                  go_quiet ((first | (go_at_call 11; exact Calls.quiet_of_same ((HA.out _).mono fun e w' ⟨he, hw⟩ => ⟨he, hw.symm⟩)) | (go_at_call 14; exact Calls.quiet_of_same ((HW.out _).mono fun e w' ⟨he, hw⟩ => ⟨he, hw.symm⟩)) | (go_at_call 15; exact Calls.quiet_of_same ((HM.out _).mono fun e w' ⟨he, hw⟩ => ⟨he, hw.symm⟩))))
                  go_wp2
                  go_roundw
                  case rel => exact ⟨n + 1, by omega, by go_num, below_drewN b6 _⟩
                  case measure => simp [intOf]; omega
                · have hnt1 : ((n : Int) != t) = true := by simpa using hnt
                  have e55 : y5 = y0 := K3.out hnt
                  subst e55
                  clear hnt
                  as_aux_lemma =>
                  go_wp2_with fail
                  go_quiet ((first | (go_at_call 11; exact Calls.quiet_of_same ((HA.out _).mono fun e w' ⟨he, hw⟩ => ⟨he, hw.symm⟩)) | (go_at_call 14; exact Calls.quiet_of_same ((HW.out _).mono fun e w' ⟨he, hw⟩ => ⟨he, hw.symm⟩)) | (go_at_call 15; exact Calls.quiet_of_same ((HM.out _).mono fun e w' ⟨he, hw⟩ => ⟨he, hw.symm⟩))))
                  go_wp2
                  go_roundw
                  case rel => (repeat apply Exists.intro); exact ⟨⟨n + 1, by omega, by go_num, below_drewN b6 _⟩, rfl⟩
                  case measure => simp [intOf]; omega
              · go_wp2_with fail
                go_roundw
                case rel => first | exact ⟨j + 1, by omega, by go_num, ws5, l5, HW5.out, by omega, hA6, hbel5.trans (b6.mono hbel5.size), Nat.le_trans hz5 b6.size⟩ | ((repeat apply Exists.intro); exact ⟨⟨j + 1, by omega, by go_num, ws5, l5, HW5.out, by omega, hA6, hbel5.trans (b6.mono hbel5.size), Nat.le_trans hz5 b6.size⟩, rfl⟩)
                case measure => simp [intOf]; omega
    · go_wp2_with fail
      refine (awake _).mono ?_
      rintro e w6 ⟨rfl, u6⟩
      go_wp2
      go_ret
      exact ⟨rfl, hbel.trans (u6.mono hbel.size)⟩
end Go.Proofs.Ytfbbogemldaioaa.WalkPortApart
