/- The law MemPlays, walked: a memory answers every sequence of accesses as the document says. -/
import Derived.Test.YtcndppkcaplcjaaDo02
import Derived.Test.YtcndppkcaplcjaaLaw02
import Derived.Test.YtcndppkcaplcjaaWalkMemApart
namespace Go.Proofs.Ytcndppkcaplcjaa.WalkMemPlays
open Go Go.RowKit Go.Proofs.Ytcndppkcaplcjaa.Heap Go.Proofs.Ytcndppkcaplcjaa.Mem Go.Proofs.Ytcndppkcaplcjaa.Law02 Go.Proofs.Ytcndppkcaplcjaa.Open Go.Proofs.Ytcndppkcaplcjaa.WalkMemApart

/-- 'make([]T, n)' at a byte n. -/
theorem run_make_u8 {P : Program} (t e : TypeId) (z c : Value) (b : Nat) (ht : P.underlying t = some (.slice e)) (hi : (P.info? e).map (fun i => (i.zero, i.size, i.bytes)) = some (some z, 1, b)) (hz : z.cells = #[c])
    (n : Nat) (hb : b * n ≤ 281474976710656) (h63 : n ≤ 9223372036854775807) (W : World) :
    (Instr.makeSlice t (.int .u8 (n : Int)) (.int .u8 (n : Int))).run P W = .ok (.slice (some ⟨W.heap.size, 0, none⟩) n n) (W.alloc (.cells (zeros n c) e)) := by
  obtain ⟨i, hi, hz0, hz1, hz2⟩ := info_parts hi
  have hb' : (i.bytes : Int) * (n : Int) ≤ 281474976710656 := by
    rw [hz2]
    have h : ((b * n : Nat) : Int) ≤ 281474976710656 := by omega
    rwa [Int.natCast_mul] at h
  have hr := run_make (P := P) W t e i z ht hi hz0 .u8 .u8 n n (by omega) (Int.le_refl _) hb' (by omega)
  simp only [Int.toNat_natCast, hz1, Nat.mul_one, hz] at hr
  rw [hr]
  have : madeCells #[c] n = zeros n c := by
    apply Array.toList_inj.1
    rw [toList_madeCells_one]; rfl
  rw [this]
theorem many (n : Int) (ao : Option Addr) (len cap : Nat) (w : World) (h : 40 < n ∨ 100 < len) :
    Calls Try.prog 7 #[.int .u8 n, .slice ao len cap] w fun e w' => e = .returned (.bool true) ∧ Below w.heap.size w w' := by
  by_cases c : 40 < n
  · clear h
    go_enter Try.func7, Try.ntmps7
    go_wp2_with fail
    refine (awake _).mono ?_
    rintro e w6 ⟨rfl, u6⟩
    go_wp2
    go_ret
    exact ⟨rfl, u6⟩
  · have c2 : (100 : Int) < len := by omega
    have c3 : n ≤ 40 := by omega
    clear h c
    go_enter Try.func7, Try.ntmps7
    go_wp2_with fail
    refine (awake _).mono ?_
    rintro e w6 ⟨rfl, u6⟩
    go_wp2
    go_ret
    exact ⟨rfl, u6⟩
set_option maxHeartbeats 4000000 in
theorem few (n : Nat) (v : Value) (xs : List (List Value)) (w : World) (hn : n ≤ 40) (h : Recs w v kinds02 xs) (hl : xs.length ≤ 100) :
    Calls Try.prog 7 #[.int .u8 n, v] w fun e w' => e = .returned (.bool true) ∧ Below w.heap.size w w' := by
  obtain ⟨ao, cap, rfl, hlc, hlm⟩ := h.len
  have hl' : (xs.length : Int) ≤ 100 := by omega
  have hn' : (n : Int) ≤ 40 := by omega
  have m1 := run_make_u8 (P := Try.prog) 27 3 (.int .i64 0) (.int .i64 0) 8 Try.underlying27 info_i64 rfl n (by omega) (by omega)
  have m2 := run_make_u8 (P := Try.prog) 22 29 (.int .u32 0) (.int .u32 0) 4 Try.underlying22 info_u32 rfl n (by omega) (by omega)
  go_enter Try.func7, Try.ntmps7
  go_wp2_with fail
  refine (newO _ _ _ (src_zeros _ _ _ _ (by simp)) (by simp; omega) (homes_zeros _)).mono ?_
  rintro e w1 ⟨m, rfl, hO, b1⟩
  rw [List.length_replicate] at hO
  have B1 : Below w.heap.size w w1 := ((Below.refl _ _).alloc (Nat.le_refl _) _).trans (b1.mono (by simp))
  have Z1 := B1.size
  obtain ⟨S, hS, hS2, hO⟩ : ∃ S : Nat → Prop, (∀ b, S b → w.heap.size ≤ b) ∧ (∀ b, S b → b < w1.heap.size) ∧ O w1 m S (List.replicate n 0) (List.replicate n 0) := ⟨_, fun b hb => Nat.le_trans (by simp) hb.1, fun b hb => hb.2, hO⟩
  clear b1
  go_wp2_with fail
  refine (lenO _ _ _ _ _ hO).mono ?_
  rintro e w2 ⟨rfl, rfl⟩
  rw [List.length_replicate]
  go_wp2_with fail
  clear m1 m2
  have hx0 : Src1 (w1.alloc (.cells (zeros n (.int .u32 0)) 29)) (.slice (some ⟨w1.heap.size, 0, none⟩) n n) .u32 (List.replicate n 0) := by
    have hr : Row (w1.alloc (.cells (zeros n (.int .u32 0)) 29)) w1.heap.size (ints .u32 (List.replicate n 0)) := by
      have := Row.ofZeros (w := w1) (T := 29) (n := n) (z := .int .u32 0) rfl
      simpa [ints] using this
    have := src_of_row (cap := n) hr
    rwa [List.length_replicate] at this
  have hO0 := hO.alloc (.cells (zeros n (.int .u32 0)) 29)
  have B0 := B1.alloc Z1 (.cells (zeros n (.int .u32 0)) 29)
  have Z0 : w1.heap.size < (w1.alloc (.cells (zeros n (.int .u32 0)) 29)).heap.size := by simp
  obtain ⟨M, hM⟩ : ∃ M, w1.heap.size = M := ⟨_, rfl⟩
  obtain ⟨W0, hW0⟩ : ∃ W0, w1.alloc (.cells (zeros n (.int .u32 0)) 29) = W0 := ⟨_, rfl⟩
  rw [hW0] at hx0 hO0 B0 Z0 ⊢
  rw [hM] at hx0 Z1 hS2 Z0 ⊢
  clear hM hW0 hO B1
  go_loopw [7, 48] (fun xv i wr => ∃ k : Nat, k ≤ xs.length ∧ i = .int .i64 k ∧ ∃ ws : List Int, ws.length = n ∧ O wr m S ws (List.replicate n 0) ∧ Src1 wr xv .u32 ws ∧ Lies xv (fun b => M ≤ b) ∧ Below w.heap.size w wr ∧ M < wr.heap.size) (fun _ i _ => xs.length - (intOf i).toNat)
  case atStart => exact ⟨0, Nat.zero_le _, rfl, _, by simp, hO0, hx0, lies_some (Nat.le_refl _), B0, Z0⟩
  case round =>
    obtain ⟨k, hk, rfl, ws, hws, hat, hsrc, hlies, hbel, hsz⟩ := hrel
    by_cases hlt : k < xs.length
    · obtain ⟨b, off, rfl, hb, hrec, hcell⟩ := h.cells hbel hlt
      obtain ⟨y, hy⟩ : ∃ y, xs.getD k [] = y := ⟨_, rfl⟩
      rw [hy] at hrec hcell
      obtain ⟨y0, y1, y2, y3, rfl, ⟨q, rfl, -⟩, ⟨a, rfl, -⟩, ⟨o, rfl, -⟩, ⟨x, rfl, hx⟩⟩ := hrec.four
      have c0 := hcell 0 _ (by decide) rfl
      have c1 := hcell 1 _ (by decide) rfl
      have c2 := hcell 2 _ (by decide) rfl
      have c3 := hcell 3 _ (by decide) rfl
      have hx := wf_u32 hx
      have K1 := fun W V (hh : Src1 W V .u32 ws) => do_all W V ws hh q a o x (by omega)
      have K2 := fun W (hh : O W m S ws (List.replicate n 0)) => told_all W m S ws _ hh q a o x hx.1 hx.2
      have hl2 := step02_len ws q a o x
      obtain ⟨r, hr⟩ : ∃ r, (step02 ws q a o x).1.1 = r := ⟨_, rfl⟩
      obtain ⟨d, hd⟩ : ∃ d, (step02 ws q a o x).1.2 = d := ⟨_, rfl⟩
      obtain ⟨us, hus⟩ : ∃ us, (step02 ws q a o x).2 = us := ⟨_, rfl⟩
      simp only [hr, hd, hus] at K1 K2 hl2
      have HL := Lib.hid (hl2.trans hws)
      have HK1 := Lib.hid K1
      have HK2 := Lib.hid K2
      have hbox : Row (wr.alloc (.cells #[.int .i64 q, .int .i64 a, .int .u32 o, .int .u32 x] 44)) wr.heap.size [.int .i64 q, .int .i64 a, .int .u32 o, .int .u32 x] := Row.new' rfl
      have hat1 := hat.alloc (.cells #[.int .i64 q, .int .i64 a, .int .u32 o, .int .u32 x] 44)
      have hsrc1 := hsrc.below ((Below.refl wr.heap.size wr).alloc (Nat.le_refl _) (.cells #[.int .i64 q, .int .i64 a, .int .u32 o, .int .u32 x] 44))
      have hbel1 := hbel.alloc hbel.size (.cells #[.int .i64 q, .int .i64 a, .int .u32 o, .int .u32 x] 44)
      clear hr hd hus K1 K2 hl2 hy hcell hx hrec hws
      simp [kinds02] at c0 c1 c2 c3
      go_wp2_with fail
      refine (HK1.out _ _ hsrc1).mono ?_
      rintro e w2 ⟨xv', rfl, hsrc2, hb2, hl2⟩
      have hat2 := hat1.below hb2
      have hbox2 := hbox.below hb2 (by simp)
      have hbel2 := hbel1.trans (hb2.mono hbel1.size)
      have hZ2 : M < w2.heap.size := Nat.lt_of_lt_of_le hsz (Nat.le_trans (by simp) hb2.size)
      have hlies2 : Lies xv' (fun b => M ≤ b) := by
        rcases hl2 with rfl | hl2
        · exact hlies
        · intro b hb; have := hl2 b hb; simp at this; omega
      have q0 := hbox2.cell (i := 0) rfl
      have q1 := hbox2.cell (i := 1) rfl
      have q2 := hbox2.cell (i := 2) rfl
      have q3 := hbox2.cell (i := 3) rfl
      clear hl2
      go_wp2_with fail
      refine (HK2.out _ hat2).mono ?_
      rintro e w3 ⟨rfl, hat3, u3⟩
      have hbel3 := u3.below hbel2 hbel2.size hS
      have hsrc3 := Mem.Src1.keep hsrc2 hlies2 u3 (fun b hb hs => by have := hS2 b hs; omega)
      have hZ3 : M < w3.heap.size := Nat.lt_of_lt_of_le hZ2 u3.size
      go_wp2_with fail
      go_roundw
      case rel => exact ⟨k + 1, by omega, by go_num, us, HL.out, hat3, hsrc3, hlies2, hbel3, hZ3⟩
      case measure => simp [intOf]; omega
    · go_wp2_with fail
      refine (wordsO _ _ _ _ _ hat (by omega)).mono ?_
      rintro e w3 ⟨rfl, hrow, b3⟩
      have hsrc3 := hsrc.below b3
      have hbel3 := hbel.trans (b3.mono hbel.size)
      obtain ⟨g, hg⟩ : ∃ g, wr.heap.size = g := ⟨_, rfl⟩
      rw [hg] at hrow ⊢
      rw [hws]
      obtain ⟨xa, xc, rfl, -, hxc⟩ := hsrc3
      rw [hws] at hxc
      rw [hws]
      have HL := Lib.hid hws
      clear hsrc hlies b3 hg hws
      go_wp2_with fail
      go_loopw [92] (fun i wi => ∃ j : Nat, j ≤ n ∧ i = .int .i64 j ∧ Below w3.heap.size w3 wi) (fun i _ => n - (intOf i).toNat)
      case atStart => exact ⟨0, Nat.zero_le _, rfl, Below.refl _ _⟩
      case round =>
        obtain ⟨j, hj, rfl, hb4⟩ := hrel
        by_cases hlt2 : j < n
        · obtain ⟨xb, xo, rfl, hxb, hcx⟩ := hxc (by omega)
          have hjw : j < ws.length := by rw [HL.out]; exact hlt2
          have d0 := (hb4.cell (p := ⟨xb, xo + j, none⟩) hxb).trans (hcx j hlt2)
          have d1 := (hrow.below hb4 hrow.lt).cell (ints_get (k := .u32) hjw)
          have hj' : (j : Int) < n := by omega
          obtain ⟨z, hz⟩ : ∃ z, ws.getD j 0 = z := ⟨_, rfl⟩
          rw [hz] at d0 d1
          clear hz hcx hxc
          go_wp2_with fail
          go_quiet (fail)
          go_wp2
          go_roundw
          case rel => exact ⟨j + 1, by omega, by go_num, below_drewN hb4 _⟩
          case measure => simp [intOf]; omega
        · clear hxc
          go_wp2_with fail
          refine (awake _).mono ?_
          rintro e w6 ⟨rfl, u6⟩
          go_wp2
          go_ret
          have hB := hbel3.trans (hb4.mono hbel3.size)
          exact ⟨rfl, hB.trans (u6.mono hB.size)⟩
theorem walk (a : Int) (v : Value) (xs : List (List Value)) (w : World) (ha : (Lit.int .u8 a).wf = true) (h : Recs w v kinds02 xs) :
    Calls Try.prog 7 #[.int .u8 a, v] w fun e w' => e = .returned (.bool true) ∧ Below w.heap.size w w' := by
  have ha' : 0 ≤ a ∧ a < 256 := by simp [Lit.wf, IntKind.min, IntKind.max, IntKind.bits, IntKind.signed] at ha; omega
  by_cases hm : 40 < a ∨ 100 < xs.length
  · obtain ⟨ao, cap, rfl, _⟩ := h.len
    exact many a ao _ cap w hm
  · obtain ⟨n, rfl⟩ := Int.eq_ofNat_of_zero_le ha'.1
    exact few n v xs w (by omega) h (by omega)
end Go.Proofs.Ytcndppkcaplcjaa.WalkMemPlays
