/- The law MemApart, walked: an access of one word leaves all others as they are. -/
import Derived.Test.YtcndppkcaplcjaaDo02
import Derived.Test.YtcndppkcaplcjaaLaw02
import Derived.Lib.SmallJoins
namespace Go.Proofs.Ytcndppkcaplcjaa.WalkMemApart
open Go Go.RowKit Go.Joins Go.ChangeShapes Go.WideShapes Go.Proofs.Ytcndppkcaplcjaa.Heap Go.Proofs.Ytcndppkcaplcjaa.Mem Go.Proofs.Ytcndppkcaplcjaa.Law02 Go.Proofs.Ytcndppkcaplcjaa.Open

/-- An access. -/
def Acc (v : Value) (x : Int × Int × Int × Int) : Prop := v = .agg #[.int .i64 x.1, .int .i64 x.2.1, .int .u32 x.2.2.1, .int .u32 x.2.2.2] ∧ (0 ≤ x.2.2.2 ∧ x.2.2.2 < 4294967296)
theorem acc {H : Type} {enc : TypeId × Value → H} {w : World} {base : Nat} {spare : Nat → Bool} {held : Bool} {b0 : Nat} {v : Value} {d : DataW H} {p : List MemPlace}
    (hv : Value.okWide Try.prog w .any b0 44 v) (h : DataW.Trod enc Try.prog w base spare held 44 v d p) : ∃ x, Acc v x := by
  obtain ⟨v0, v1, v2, v3, y0, y1, y2, y3, m, rfl, _, _, h0, h1, h2, h3⟩ := open_agg4 Try.underlying44 (by kernel_rfl) (by kernel_rfl) hv h
  obtain ⟨n0, e0, _, w0⟩ := DataW.trod_int Try.underlying3 h0
  obtain ⟨n1, e1, _, w1⟩ := DataW.trod_int Try.underlying3 h1
  obtain ⟨n2, e2, _, w2⟩ := DataW.trod_int Try.underlying29 h2
  obtain ⟨n3, e3, _, w3⟩ := DataW.trod_int Try.underlying29 h3
  simp at e0 e1 e2 e3
  subst e0 e1 e2 e3
  exact ⟨(n0, n1, n2, n3), rfl, wf_u32 w3⟩
/-- An access changes no word but its own. -/
theorem apart (ws : List Int) (k a o v : Int) (j : Nat) (h : (j : Int) ≠ a) : (step02 ws k a o v).2.getD j 0 = ws.getD j 0 := by
  have key : ∀ x, (Mem.put ws a x).getD j 0 = ws.getD j 0 := by
    intro x
    rcases inB_cases a ws.length with ⟨n, rfl, hn, hi⟩ | ⟨_, hi⟩
    · rw [put_in rfl hi]
      simp only [List.getD]
      rw [List.getElem?_set_ne (by omega)]
    · rw [put_out hi]
  unfold step02; (repeat' split) <;> first | rfl | exact key _
theorem src_zeros (w : World) (T : TypeId) (n b : Nat) (hb : b = w.heap.size) : Src1 (w.alloc (.cells (zeros n (.int .i64 0)) T)) (.slice (some ⟨b, 0, none⟩) n n) .i64 (List.replicate n 0) := by
  have h : Row (w.alloc (.cells (zeros n (.int .i64 0)) T)) b (ints .i64 (List.replicate n 0)) := by
    have := Row.ofZeros (w := w) (T := T) (n := n) (z := .int .i64 0) hb
    simpa [ints] using this
  have := src_of_row (cap := n) h
  rwa [List.length_replicate] at this
theorem homes_zeros (n : Nat) : homesOk (List.replicate n 0) = true := by unfold homesOk; simp
theorem fill_put (xs : List Int) (k : Nat) (h : k < xs.length) : Mem.put (xs.take k ++ List.replicate (xs.length - k) 0) k xs[k] = xs.take (k + 1) ++ List.replicate (xs.length - (k + 1)) 0 := by
  rw [put_in rfl (by simp [inB]; omega), fill_step xs k h]

set_option maxHeartbeats 2000000 in
theorem many (ao : Option Addr) (len cap : Nat) (k a o v : Int) (w : World) (h : 40 < len) (hm : len ≤ maxLen) :
    Calls Try.prog 6 #[.slice ao len cap, .agg #[.int .i64 k, .int .i64 a, .int .u32 o, .int .u32 v]] w fun e w' => e = .returned (.bool true) ∧ Below w.heap.size w w' := by
  unfold maxLen at hm
  have h' : (40 : Int) < len := by omega
  have hmn : min (len : Int) 40 = 40 := by omega
  have hmk : ∀ W, (Instr.makeSlice 27 (.int .i64 40) (.int .i64 40)).run Try.prog W = .ok (.slice (some ⟨W.heap.size, 0, none⟩) 40 40) (W.alloc (.cells (zeros 40 (.int .i64 0)) 3)) := run_make_zeros (P := Try.prog) 27 3 (.int .i64 0) 8 Try.underlying27 info_i64 rfl 40 (by omega) (by omega)
  go_enter Try.func6, Try.ntmps6
  go_wp2_with fail
  refine (newO _ _ _ (src_zeros _ _ _ _ (by simp)) (by decide) (homes_zeros _)).mono ?_
  rintro e w1 ⟨m, rfl, hO, b1⟩
  have B1 : Below w.heap.size w w1 := (((Below.refl _ _).alloc (Nat.le_refl _) _).alloc (by simp) _).trans (b1.mono (by simp; omega))
  go_wp2_with fail
  refine (awake _).mono ?_
  rintro e w6 ⟨rfl, u6⟩
  go_wp2
  go_ret
  exact ⟨rfl, B1.trans (u6.mono B1.size)⟩

set_option maxHeartbeats 4000000 in
theorem few (v0 : Value) (xs : List Int) (k a o v : Int) (w : World) (h : Ints w v0 .u32 xs) (hl : xs.length ≤ 40) (v1 : 0 ≤ v) (v2 : v < 4294967296) :
    Calls Try.prog 6 #[v0, .agg #[.int .i64 k, .int .i64 a, .int .u32 o, .int .u32 v]] w fun e w' => e = .returned (.bool true) ∧ Below w.heap.size w w' := by
  obtain ⟨ao, cap, rfl, hlc, hlm⟩ := h.len
  have hl' : (xs.length : Int) ≤ 40 := by omega
  have hmn : min (xs.length : Int) 40 = xs.length := by omega
  have hmk := run_make_zeros (P := Try.prog) 27 3 (.int .i64 0) 8 Try.underlying27 info_i64 rfl xs.length (by omega) (by omega)
  go_enter Try.func6, Try.ntmps6
  go_wp2_with fail
  clear hmk
  refine (newO _ _ _ (src_zeros _ _ _ _ (by simp)) (by simp; omega) (homes_zeros _)).mono ?_
  rintro e w1 ⟨m, rfl, hO, b1⟩
  have B1 : Below w.heap.size w w1 := (((Below.refl _ _).alloc (Nat.le_refl _) _).alloc (by simp) _).trans (b1.mono (by simp; omega))
  rw [List.length_replicate] at hO
  have hbox : Row w1 w.heap.size [.int .i64 k, .int .i64 a, .int .u32 o, .int .u32 v] := ((Row.new' (T := 44) rfl).alloc _).below b1 (by simp; omega)
  obtain ⟨S, hS, hO⟩ : ∃ S : Nat → Prop, (∀ b, S b → w.heap.size < b) ∧ O w1 m S (List.replicate xs.length 0) (List.replicate xs.length 0) := ⟨_, fun b hb => Nat.lt_of_lt_of_le (by simp; omega) hb.1, hO⟩
  have hS2 : ∀ b, S b → w.heap.size ≤ b := fun b hb => Nat.le_of_lt (hS b hb)
  clear b1 hmn
  go_wp2_with fail
  go_loopw [42] (fun i wr => ∃ j : Nat, j ≤ xs.length ∧ i = .int .i64 j ∧ O wr m S (xs.take j ++ List.replicate (xs.length - j) 0) (List.replicate xs.length 0) ∧ Row wr w.heap.size [.int .i64 k, .int .i64 a, .int .u32 o, .int .u32 v] ∧ Below w.heap.size w wr) (fun i _ => xs.length - (intOf i).toNat)
  case atStart => exact ⟨0, Nat.zero_le _, rfl, by simpa using hO, hbox, B1⟩
  case round =>
    obtain ⟨j, hj, rfl, hO2, hbox2, hbel⟩ := hrel
    by_cases hlt : j < xs.length
    · obtain ⟨b, off, rfl, hb, hw, c0⟩ := h.cell hbel hlt
      have e0 := fill_put xs j hlt
      rw [getD_lt _ _ _ hlt] at c0 hw
      obtain ⟨x, hx⟩ : ∃ x, xs[j] = x := ⟨_, rfl⟩
      rw [hx] at c0 hw e0
      have K := storeO _ _ _ _ _ hO2 j x (wf_u32 hw).1 (wf_u32 hw).2
      rw [e0] at K
      have HK := Lib.hid K
      clear hx e0 K
      go_wp2_with fail
      refine HK.out.mono ?_
      rintro e w2 ⟨rfl, hO3, u3⟩
      have hbox3 := hbox2.upd u3 (fun e => Nat.lt_irrefl _ (hS _ e))
      have B3 := u3.below hbel hbel.size hS2
      go_wp2_with fail
      go_roundw
      case rel => exact ⟨j + 1, by omega, by go_num, hO3, hbox3, B3⟩
      case measure => simp [intOf]; omega
    · obtain rfl : j = xs.length := by omega
      simp only [List.take_length, Nat.sub_self, List.replicate_zero, List.append_nil] at hO2
      have q0 := hbox2.cell (i := 0) rfl
      have q1 := hbox2.cell (i := 1) rfl
      have q2 := hbox2.cell (i := 2) rfl
      have q3 := hbox2.cell (i := 3) rfl
      go_wp2_with fail
      refine (told_all _ _ _ _ _ hO2 k a o v v1 v2).mono ?_
      rintro e w2 ⟨rfl, hO3, u3⟩
      have hbox3 := hbox2.upd u3 (fun e => Nat.lt_irrefl _ (hS _ e))
      have B3 := u3.below hbel hbel.size hS2
      have hlen3 := step02_len xs k a o v
      have hap := apart xs k a o v
      obtain ⟨ys, hys⟩ : ∃ ys, (step02 xs k a o v).2 = ys := ⟨_, rfl⟩
      rw [hys] at hO3 hlen3 hap
      have HL := Lib.hid hlen3
      have HA := Lib.hid hap
      clear hap hys q0 q1 q2 q3
      go_wp2_with fail
      refine (wordsO _ _ _ _ _ hO3 (by omega)).mono ?_
      rintro e w3 ⟨rfl, hrow, b3⟩
      have hO4 := hO3.below b3
      have hbox4 := hbox3.below b3 hbox3.lt
      have B4 := B3.trans (b3.mono B3.size)
      obtain ⟨g, hg⟩ : ∃ g, w2.heap.size = g := ⟨_, rfl⟩
      rw [hg] at hrow ⊢
      rw [hlen3]
      clear hlen3 b3 hg u3
      go_wp2_with fail
      go_loopw [59] (fun i wr => ∃ j : Nat, j ≤ xs.length ∧ i = .int .i64 j ∧ O wr m S ys (List.replicate xs.length 0) ∧ Row wr w.heap.size [.int .i64 k, .int .i64 a, .int .u32 o, .int .u32 v] ∧ Row wr g (ints .u32 ys) ∧ Below w.heap.size w wr) (fun i _ => xs.length - (intOf i).toNat)
      case atStart => exact ⟨0, Nat.zero_le _, rfl, hO4, hbox4, hrow, B4⟩
      case round =>
        obtain ⟨j, hj, rfl, hO5, hbox5, hrow5, hbel5⟩ := hrel
        by_cases hlt : j < xs.length
        · obtain ⟨b, off, rfl, hb, hw, c0⟩ := h.cell hbel5 hlt
          have q1 := hbox5.cell (i := 1) rfl
          have hjy : j < ys.length := by rw [HL.out]; exact hlt
          have cw := hrow5.cell (ints_get (k := .u32) hjy)
          have hlt' : (j : Int) < xs.length := by omega
          have K := fun n => loadO _ _ _ _ _ (hO5.drewN n) (j : Int)
          rw [get_in rfl (by simp [inB]; omega)] at K
          have hd : (j : Int) ≠ a → ys.getD j 0 = xs.getD j 0 := HA.out j
          by_cases hja : (j : Int) = a
          · subst hja
            obtain ⟨x, hx⟩ : ∃ x, xs.getD j 0 = x := ⟨_, rfl⟩
            obtain ⟨y, hy⟩ : ∃ y, ys.getD j 0 = y := ⟨_, rfl⟩
            rw [hx] at c0
            rw [hy] at cw K
            have HK := Lib.hid K
            clear hd hx hy K
            go_wp2_with fail
            go_quiet ((go_at_call 11; exact Calls.quiet_of_same ((HK.out _).mono fun e w' ⟨he, hw⟩ => ⟨he, hw.symm⟩)))
            go_wp2
            go_roundw
            case rel => exact ⟨j + 1, by omega, by go_num, hO5.drewN _, hbox5, hrow5, below_drewN hbel5 _⟩
            case measure => simp [intOf]; omega
          · rw [hd hja] at cw K
            obtain ⟨x, hx⟩ : ∃ x, xs.getD j 0 = x := ⟨_, rfl⟩
            rw [hx] at c0 cw K
            have HK := Lib.hid K
            have hja2 : ((j : Int) == a) = false := by simpa using hja
            have hja3 : ((j : Int) != a) = true := by simp only [bne, hja2]; rfl
            clear hd hx K hja
            go_wp2_with fail
            go_quiet ((go_at_call 11; exact Calls.quiet_of_same ((HK.out _).mono fun e w' ⟨he, hw⟩ => ⟨he, hw.symm⟩)))
            go_wp2
            go_roundw
            case rel => exact ⟨j + 1, by omega, by go_num, hO5.drewN _, hbox5, hrow5, below_drewN hbel5 _⟩
            case measure => simp [intOf]; omega
        · have HLo := HL.out
          clear hbox hbox2 hbox3 hbox4
          go_wp2_with fail
          refine (awake _).mono ?_
          rintro e w6 ⟨rfl, u6⟩
          go_wp2
          go_ret
          exact ⟨rfl, hbel5.trans (u6.mono hbel5.size)⟩
theorem walk (v0 : Value) (xs : List Int) (v1 : Value) (x : Int × Int × Int × Int) (w : World) (h0 : Ints w v0 .u32 xs) (h1 : Acc v1 x) :
    Calls Try.prog 6 #[v0, v1] w fun e w' => e = .returned (.bool true) ∧ Below w.heap.size w w' := by
  obtain ⟨rfl, h2, h3⟩ := h1
  by_cases hl : xs.length ≤ 40
  · exact few v0 xs _ _ _ _ w h0 hl h2 h3
  · obtain ⟨ao, cap, rfl, hlc, hlm⟩ := h0.len
    exact many ao xs.length cap _ _ _ _ w (by omega) hlm
end Go.Proofs.Ytcndppkcaplcjaa.WalkMemApart
