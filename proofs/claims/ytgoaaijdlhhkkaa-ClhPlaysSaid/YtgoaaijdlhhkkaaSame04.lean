/- Has a port just the document's words and counts? Walked. -/
import Derived.Test.YtgoaaijdlhhkkaaRef04c
import Derived.Test.YtgoaaijdlhhkkaaPortO
namespace Go.Proofs.Ytgoaaijdlhhkkaa.Same04
open Go Go.RowKit Go.Proofs.Ytgoaaijdlhhkkaa.Heap Go.Proofs.Ytgoaaijdlhhkkaa.Open Go.Proofs.Ytgoaaijdlhhkkaa.Has Go.Proofs.Ytgoaaijdlhhkkaa.Ref04

theorem three_same (a b c : Int) (w : World) : (binOp .neq 133 (.agg #[.int .i64 a, .int .i64 b, .int .i64 c]) (.agg #[.int .i64 a, .int .i64 b, .int .i64 c])).run Try.prog w = .ok (.bool false) w := by
  obtain ⟨i, hi, _⟩ := info_parts (show (Try.prog.info? 3).map (fun i => (i.zero, i.size, i.bytes)) = some (some (.int .i64 0), 1, 8) by kernel_rfl)
  have := run_neq_ints w 133 3 3 .i64 Try.underlying133 Try.underlying3 hi (by kernel_rfl) [a, b, c] [a, b, c] rfl rfl
  rw [beq_self_eq_true] at this
  exact this
set_option maxHeartbeats 4000000 in
theorem same_all (w : World) (p x : Nat) (S R : Nat → Prop) (k : Nat) (ws hs : List Int) (l : List T) (h : Port.O w p S k ws hs l) (g : RO w x R k ws l) (hws : ws.length ≤ 4096) :
    Calls Try.prog 48 #[.pointer (some ⟨p, 0, none⟩), .pointer (some ⟨x, 0, none⟩)] w fun e w' => e = .returned (.bool true) ∧ Below w.heap.size w w' := by
  have hk := h.k64
  have hk' : (k : Int) ≤ 64 := by omega
  have hws' : (ws.length : Int) ≤ 4096 := by omega
  obtain ⟨m, S1, q0, hm, -⟩ := h.step
  go_enter Try.func48, Try.ntmps48
  go_wp2_with fail
  refine (Mem.wordsO _ _ _ _ _ hm hws).mono ?_
  rintro e w1 ⟨rfl, hrow, b1⟩
  have h1 := h.below b1
  have g1 := g.below b1
  obtain ⟨m', S1', q1, hm1, -⟩ := h1.step
  obtain ⟨⟨wv, tv, cb, P⟩, Pl⟩ := g1
  obtain ⟨wa, wcap, hwv⟩ : ∃ a c, wv = .slice a ws.length c := by obtain ⟨a, cap, e, _⟩ := P.words; exact ⟨a, cap, e⟩
  subst hwv
  have r0 := P.top.cell (i := 0) rfl
  have r1 := P.top.cell (i := 1) rfl
  have r3 := P.top.cell (i := 3) rfl
  have hs1 := b1.size
  obtain ⟨H, hH⟩ : ∃ H, w.heap.size = H := ⟨_, rfl⟩
  rw [hH] at hrow b1 hs1 ⊢
  have HH := Lib.hid hH
  clear hH q0 hm
  have HT := Lib.hid (fun n => Port.threadsP _ _ _ _ _ _ _ (h1.drewN n))
  have HL := Lib.hid (fun n => Mem.lenO _ _ _ _ _ (hm1.drewN n))
  go_wp2_with fail
  go_quiet ((first | (go_at_call 62; exact Calls.quiet_of_same ((HT.out _).mono fun e w' ⟨he, hw⟩ => ⟨he, hw.symm⟩)) | (go_at_call 63; exact Calls.quiet_of_same ((HL.out _).mono fun e w' ⟨he, hw⟩ => ⟨he, hw.symm⟩))))
  clear HT HL
  go_wp2_with fail
  go_loopw [45] (fun i wr => ∃ j : Nat, j ≤ ws.length ∧ i = .int .i64 j ∧ Below w1.heap.size w1 wr) (fun i _ => ws.length - (intOf i).toNat)
  case atStart => exact ⟨0, Nat.zero_le _, rfl, below_drewN (Below.refl _ _) _⟩
  case round =>
    obtain ⟨j, hj, rfl, b2⟩ := hrel
    have r0' := (b2.cell (p := ⟨x, 0, none⟩) P.top.lt).trans r0
    have r1' := (b2.cell (p := ⟨x, 1, none⟩) P.top.lt).trans r1
    by_cases hlt : j < ws.length
    · have c1 := (b2.cell (p := ⟨H, j, none⟩) hrow.lt).trans (hrow.cell (ints_get (k := .u32) hlt))
      obtain ⟨sa, sc, e, -, hx⟩ := P.words
      obtain ⟨xb, xo, rfl, hxb, hcx⟩ := hx (by omega)
      simp only [Value.slice.injEq] at e
      obtain ⟨rfl, -, -⟩ := e
      have c2 := (b2.cell (p := ⟨xb, xo + j, none⟩) hxb).trans (hcx j hlt)
      have hj' : (j : Int) < ws.length := by omega
      obtain ⟨z, hz⟩ : ∃ z, ws.getD j 0 = z := ⟨_, rfl⟩
      rw [hz] at c1 c2
      clear hz hcx hx
      go_wp2_with fail
      go_quiet (fail)
      go_wp2
      go_roundw
      case rel => exact ⟨j + 1, by omega, by go_num, below_drewN b2 _⟩
      case measure => simp [intOf]; omega
    · clear r0'
      go_wp2_with fail
      go_loopw [65] (fun i wr => ∃ t : Nat, t ≤ k ∧ i = .int .i64 t ∧ Below w1.heap.size w1 wr) (fun i _ => k - (intOf i).toNat)
      case atStart => exact ⟨0, Nat.zero_le _, rfl, b2⟩
      case round =>
        obtain ⟨t, ht, rfl, b3⟩ := hrel
        by_cases hlt2 : t < k
        · obtain ⟨cs, hrc, hc3⟩ := P.cnts
          obtain ⟨e0, e1, e2⟩ := hc3.2 t hlt2
          have rr := hrc.below b3 hrc.lt
          have d0 := rr.cell e0
          have d1 := rr.cell e1
          have d2 := rr.cell e2
          have r3' := (b3.cell (p := ⟨x, 3, none⟩) P.top.lt).trans r3
          have h3 := h1.below b3
          have KA := fun n => Port.accessesP _ _ _ _ _ _ _ (h3.drewN n) (t : Int)
          have KW := fun n => Port.writesP _ _ _ _ _ _ _ (h3.drewN n) (t : Int)
          have KM := fun n => Port.missesP _ _ _ _ _ _ _ (h3.drewN n) (t : Int)
          simp only [show Mem.inB (t : Int) k = true from Cache.inB_mk hlt2, if_true] at KA KW KM
          obtain ⟨y0, hy0⟩ : ∃ y : Int, ((acc l t : Nat) : Int) = y := ⟨_, rfl⟩
          obtain ⟨y1, hy1⟩ : ∃ y : Int, ((wrs l t : Nat) : Int) = y := ⟨_, rfl⟩
          obtain ⟨y2, hy2⟩ : ∃ y : Int, ((misses k l t : Nat) : Int) = y := ⟨_, rfl⟩
          rw [hy0] at d0
          rw [hy1] at d1
          rw [hy2] at d2
          simp only [hy0] at KA
          simp only [hy1] at KW
          simp only [hy2] at KM
          have HA := Lib.hid KA
          have HW := Lib.hid KW
          have HM := Lib.hid KM
          have E3 := three_same y0 y1 y2
          have ht' : (t : Int) < k := by omega
          clear KA KW KM hy0 hy1 hy2 e0 e1 e2 hc3 hrc
          go_wp2_with fail
          go_quiet ((first | (go_at_call 46; exact Calls.quiet_of_same ((HA.out _).mono fun e w' ⟨he, hw⟩ => ⟨he, hw.symm⟩)) | (go_at_call 64; exact Calls.quiet_of_same ((HW.out _).mono fun e w' ⟨he, hw⟩ => ⟨he, hw.symm⟩)) | (go_at_call 65; exact Calls.quiet_of_same ((HM.out _).mono fun e w' ⟨he, hw⟩ => ⟨he, hw.symm⟩))))
          go_wp2
          go_roundw
          case rel => exact ⟨t + 1, by omega, by go_num, below_drewN b3 _⟩
          case measure => simp [intOf]; omega
        · go_wp2
          go_ret
          exact ⟨rfl, by rw [HH.out]; exact b1.trans (b3.mono hs1)⟩

/-- What the program's accesses come to, in the document's words. -/
theorem two (x y : Bool) : (x = true ∧ y = true) ∨ (x = true ∧ y = false) ∨ x = false := by cases x <;> cases y <;> simp
theorem inR5 (k n : Nat) (t q a : Int) (h1 : 1 ≤ q) (h5 : q ≤ 5) : inR k n t q a = (Mem.inB t k && Mem.inB a n) := by unfold inR; simp [h1, h5]
theorem after_def (k n : Nat) (l : List T) (t a : Int) (wr : Bool) : Cache.after k n l t a wr = if (Mem.inB t k && Mem.inB a n) = true then l ++ [⟨t, a, wr⟩] else l := rfl
section
variable (k : Nat) (ws : List Int) (l : List T) (t a o x : Int)
theorem p1 : step04 k ws l t 1 a o x = ((if Mem.inB t k = true then Mem.get ws a else 0, 0), ws, Cache.after k ws.length l t a false) := by
  unfold step04; rw [inR5 _ _ _ _ _ (by decide) (by decide), after_def]
  rcases two (Mem.inB t k) (Mem.inB a ws.length) with ⟨e1, e2⟩ | ⟨e1, e2⟩ | e1
  · simp [e1, e2, Mem.step02]
  · simp [e1, e2, Mem.get_out e2]
  · simp [e1]
theorem p2 : step04 k ws l t 2 a o x = ((0, 0), (if Mem.inB t k = true then Mem.put ws a x else ws), Cache.after k ws.length l t a true) := by
  unfold step04; rw [inR5 _ _ _ _ _ (by decide) (by decide), after_def]
  rcases two (Mem.inB t k) (Mem.inB a ws.length) with ⟨e1, e2⟩ | ⟨e1, e2⟩ | e1
  · simp [e1, e2, Mem.step02]
  · simp [e1, e2, Mem.put_out e2]
  · simp [e1]
theorem p3 : step04 k ws l t 3 a o x = ((if Mem.inB t k = true then Mem.get ws a else 0, 0), (if Mem.inB t k = true then Mem.put ws a x else ws), Cache.after k ws.length l t a true) := by
  unfold step04; rw [inR5 _ _ _ _ _ (by decide) (by decide), after_def]
  rcases two (Mem.inB t k) (Mem.inB a ws.length) with ⟨e1, e2⟩ | ⟨e1, e2⟩ | e1
  · simp [e1, e2, Mem.step02]
  · simp [e1, e2, Mem.put_out e2, Mem.get_out e2]
  · simp [e1]
theorem p4 : step04 k ws l t 4 a o x = ((0, if (Mem.inB t k && Mem.casB ws a o) = true then 1 else 0), (if (Mem.inB t k && Mem.casB ws a o) = true then Mem.put ws a x else ws), Cache.after k ws.length l t a true) := by
  unfold step04; rw [inR5 _ _ _ _ _ (by decide) (by decide), after_def]
  rcases two (Mem.inB t k) (Mem.inB a ws.length) with ⟨e1, e2⟩ | ⟨e1, e2⟩ | e1
  · cases hc : Mem.casB ws a o <;> simp [e1, e2, Mem.step02, hc]
  · have hc : Mem.casB ws a o = false := by unfold Mem.casB; rw [e2]; rfl
    simp [e1, e2, hc]
  · simp [e1]
theorem p5 : step04 k ws l t 5 a o x = ((if Mem.inB t k = true then Mem.get ws a else 0, 0), (if Mem.inB t k = true then Mem.put ws a ((Mem.get ws a + x) % 4294967296) else ws), Cache.after k ws.length l t a true) := by
  unfold step04; rw [inR5 _ _ _ _ _ (by decide) (by decide), after_def]
  rcases two (Mem.inB t k) (Mem.inB a ws.length) with ⟨e1, e2⟩ | ⟨e1, e2⟩ | e1
  · simp [e1, e2, Mem.step02]
  · simp [e1, e2, Mem.put_out e2, Mem.get_out e2]
  · simp [e1]
theorem p0 (q : Int) (h : q < 1 ∨ 5 < q) : step04 k ws l t q a o x = ((0, 0), ws, l) := by
  unfold step04; rw [if_neg]; unfold inR; simp; omega
end
end Go.Proofs.Ytgoaaijdlhhkkaa.Same04
