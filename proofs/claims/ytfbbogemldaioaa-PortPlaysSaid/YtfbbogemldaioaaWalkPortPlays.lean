/- The law PortPlays, walked: whatever accesses come from whoever, each tells, and counts, what the document says. -/
import Derived.Test.YtfbbogemldaioaaOps04
import Derived.Test.YtfbbogemldaioaaSame04
namespace Go.Proofs.Ytfbbogemldaioaa.WalkPortPlays
open Go Go.RowKit Go.Proofs.Ytfbbogemldaioaa.Heap Go.Proofs.Ytfbbogemldaioaa.Open Go.Proofs.Ytfbbogemldaioaa.Law04 Go.Proofs.Ytfbbogemldaioaa.Has

theorem src_zeros (w : World) (T : TypeId) (n b : Nat) (hb : b = w.heap.size) : Src1 (w.alloc (.cells (zeros n (.int .i64 0)) T)) (.slice (some ⟨b, 0, none⟩) n n) .i64 (List.replicate n 0) := by
  have h : Row (w.alloc (.cells (zeros n (.int .i64 0)) T)) b (ints .i64 (List.replicate n 0)) := by
    have := Row.ofZeros (w := w) (T := T) (n := n) (z := .int .i64 0) hb
    simpa [ints] using this
  have := Mem.src_of_row (cap := n) h
  rwa [List.length_replicate] at this
theorem homes_zeros (n : Nat) : Mem.homesOk (List.replicate n 0) = true := by unfold Mem.homesOk; simp
set_option maxRecDepth 100000 in
theorem many (K : Int) (a1 a2 : Option Addr) (n1 c1 n2 c2 : Nat) (w : World) (h : K < 1 ∨ 8 < K ∨ 20 < n1 ∨ 60 < n2) :
    Calls Try.prog 6 #[.int .u8 K, .slice a1 n1 c1, .slice a2 n2 c2] w fun e w' => e = .returned (.bool true) ∧ Below w.heap.size w w' := by
  have ho : K < 1 ∨ (1 ≤ K ∧ 8 < K) ∨ ((1 ≤ K ∧ K ≤ 8) ∧ (20 : Int) < n1) ∨ ((1 ≤ K ∧ K ≤ 8) ∧ (n1 : Int) ≤ 20 ∧ (60 : Int) < n2) := by omega
  clear h
  rcases ho with g1 | ⟨g1, g2⟩ | ⟨⟨g1, g2⟩, g3⟩ | ⟨⟨g1, g2⟩, g3, g4⟩
  all_goals
    go_enter Try.func6, Try.ntmps6
    go_wp2_with fail
    refine (awake _).mono ?_
    rintro e w6 ⟨rfl, u6⟩
    go_wp2
    go_ret
    exact ⟨rfl, u6⟩
set_option maxHeartbeats 16000000 in
set_option maxRecDepth 100000 in
theorem few (K : Nat) (v1 v2 : Value) (us : List Int) (xs : List (List Value)) (w : World) (hK1 : 1 ≤ K) (hK : K ≤ 8) (hu : Law04.Src .u32 w v1 us) (hn : us.length ≤ 20) (h : Recs w v2 kinds04 xs) (hl : xs.length ≤ 60) :
    Calls Try.prog 6 #[.int .u8 K, v1, v2] w fun e w' => e = .returned (.bool true) ∧ Below w.heap.size w w' := by
  obtain ⟨ao, cap, rfl, hlc, hlm⟩ := h.len
  have hwd : Mem.Wd us := fun y hy => wf_u32 (hu.1.2 y hy)
  have hsrc := hu.2
  obtain ⟨a1, cap1, rfl, -, -⟩ := id hu.2
  have hl' : (xs.length : Int) ≤ 60 := by omega
  have hK1' : (1 : Int) ≤ K := by omega
  have hK' : (K : Int) ≤ 8 := by omega
  obtain ⟨n, hnn⟩ : ∃ n, us.length = n := ⟨_, rfl⟩
  rw [hnn] at hsrc hn ⊢
  have hn' : (n : Int) ≤ 20 := by omega
  have HN := Lib.hid hnn
  have m1 := run_make_zeros (P := Try.prog) 27 3 (.int .i64 0) 8 Try.underlying27 Mem.info_i64 rfl n (by omega) (by omega)
  clear hnn hu
  go_enter Try.func6, Try.ntmps6
  go_wp2_with fail
  refine (Port.newP _ K _ _ _ us (src_zeros _ _ _ _ (by simp)) (hsrc.below ((Below.refl _ _).alloc (Nat.le_refl _) _)) (by rw [List.length_replicate, HN.out]) (by rw [HN.out]; omega) (homes_zeros _) hwd hK1 (by omega)).mono ?_
  rintro e w1 ⟨p, rfl, hO, b1⟩
  have B1 : Below w.heap.size w w1 := ((Below.refl _ _).alloc (Nat.le_refl _) _).trans (b1.mono (by simp))
  have Z1 := B1.size
  obtain ⟨S, hS, hS2, hO⟩ : ∃ S : Nat → Prop, (∀ b, S b → w.heap.size ≤ b) ∧ (∀ b, S b → b < w1.heap.size) ∧ Port.O w1 p S K us (List.replicate n 0) [] := ⟨_, fun b hb => Nat.le_trans (by simp) hb.1, fun b hb => hb.2, hO⟩
  obtain ⟨hs, hhs⟩ : ∃ hs, List.replicate n (0 : Int) = hs := ⟨_, rfl⟩
  rw [hhs] at hO
  clear b1 m1 hhs
  go_wp2_with fail
  refine (Ref04.newR _ K _ us (hsrc.below B1) (by omega) (by rw [HN.out]; omega)).mono ?_
  rintro e w2 ⟨xp, rfl, hR0, b2⟩
  have hO2 := hO.below b2
  have B2 := B1.trans (b2.mono B1.size)
  have Z2 := b2.size
  obtain ⟨M, hM⟩ : ∃ M, w1.heap.size = M := ⟨_, rfl⟩
  rw [hM] at hS2 Z1 Z2
  obtain ⟨R0, hRM, hR0⟩ : ∃ R : Nat → Prop, (∀ b, R b → M ≤ b) ∧ Ref04.RO w2 xp R K us [] := ⟨_, fun b hb => by rw [← hM]; exact hb.1, hR0⟩
  clear b2 hO B1 hM hsrc
  go_wp2_with fail
  go_loopw [55] (fun i wr => ∃ j : Nat, j ≤ xs.length ∧ i = .int .i64 j ∧ ∃ (ws : List Int) (l : List T) (R : Nat → Prop), ws.length = n ∧ l.length ≤ j ∧ Port.O wr p S K ws hs l ∧ Ref04.RO wr xp R K ws l ∧ (∀ b, R b → M ≤ b) ∧ Below w.heap.size w wr ∧ M ≤ wr.heap.size) (fun i _ => xs.length - (intOf i).toNat)
  case atStart => exact ⟨0, Nat.zero_le _, rfl, us, [], R0, HN.out, Nat.le_refl _, hO2, hR0, hRM, B2, Z2⟩
  case round =>
    obtain ⟨j, hj, rfl, ws, l, R, hws, hlj, hat, href, hR, hbel, hsz⟩ := hrel
    by_cases hlt : j < xs.length
    · obtain ⟨b, off, rfl, hb, hrec, hcell⟩ := h.cells hbel hlt
      obtain ⟨y, hy⟩ : ∃ y, xs.getD j [] = y := ⟨_, rfl⟩
      rw [hy] at hrec hcell
      obtain ⟨y0, y1, y2, y3, y4, rfl, ⟨t, rfl, -⟩, ⟨q, rfl, -⟩, ⟨a, rfl, -⟩, ⟨o, rfl, -⟩, ⟨x, rfl, hx⟩⟩ := hrec.five
      have c0 := hcell 0 _ (by decide) rfl
      have c1 := hcell 1 _ (by decide) rfl
      have c2 := hcell 2 _ (by decide) rfl
      have c3 := hcell 3 _ (by decide) rfl
      have c4 := hcell 4 _ (by decide) rfl
      simp [kinds04] at c0 c1 c2 c3 c4
      have hx := wf_u32 hx
      clear hy hrec hcell hO2 hR0
      by_cases e1 : q = 1
      · subst e1
        have KD := fun W R (hh : Ref04.RO W xp R K ws l) => Ref04.doR W xp R K ws l hh (by omega) (by omega) (by omega) t 1 a o x
        simp only [Same04.p1 K ws l t a o x] at KD
        have K2 := fun W (hh : Port.O W p S K ws hs l) => Port.loadP W p S K ws hs l hh (by omega) t a
        have hll := Cache.after_len K ws.length l t a false
        obtain ⟨l2, hl2⟩ : ∃ y, Cache.after K ws.length l t a false = y := ⟨_, rfl⟩
        rw [hl2] at hll
        simp only [hl2] at KD K2
        have hlen : ws.length = n := by exact hws
        obtain ⟨g, hg⟩ : ∃ y, (if Mem.inB t K = true then Mem.get ws a else 0) = y := ⟨_, rfl⟩
        simp only [hg] at KD K2
        have HSAME := Lib.hid (fun W R (h1 : Port.O W p S K ws hs l2) (h2 : Ref04.RO W xp R K ws l2) => Same04.same_all W p xp S R K ws hs l2 h1 h2 (by omega))
        have HKD := Lib.hid KD
        have HK2 := Lib.hid K2
        have HLEN := Lib.hid hlen
        have HLL := Lib.hid hll
        clear KD K2 hlen hll hl2 hg
        have hat1 := hat.alloc (.cells #[.int .i64 t, .int .i64 1, .int .i64 a, .int .u32 o, .int .u32 x] 35)
        have href1 := href.alloc (.cells #[.int .i64 t, .int .i64 1, .int .i64 a, .int .u32 o, .int .u32 x] 35)
        have hbel1 := hbel.alloc hbel.size (.cells #[.int .i64 t, .int .i64 1, .int .i64 a, .int .u32 o, .int .u32 x] 35)
        have hbox1 : Row (wr.alloc (.cells #[.int .i64 t, .int .i64 1, .int .i64 a, .int .u32 o, .int .u32 x] 35)) wr.heap.size [.int .i64 t, .int .i64 1, .int .i64 a, .int .u32 o, .int .u32 x] := Row.new' rfl
        go_wp2_with fail
        refine (HKD.out _ _ href1).mono ?_
        rintro e w2 ⟨rfl, R2, href2, u2, hR2⟩
        have hR3 : ∀ b, R2 b → M ≤ b := fun b hb => by rcases hR2 b hb with e | e; exact hR b e; simp at e; omega
        have hat2 := hat1.keep u2 (fun b hb e => by have := hS2 b hb; have := hR b e; omega)
        have hbox2 := hbox1.upd u2 (fun e => by have := href.lt _ e; omega)
        have hbel2 := u2.below hbel1 hbel1.size (fun b hb => by have := hR b hb; omega)
        have hz2 : M ≤ w2.heap.size := Nat.le_trans hsz (Nat.le_trans (by simp) u2.size)
        have q0 := hbox2.cell (i := 0) rfl
        have q1 := hbox2.cell (i := 1) rfl
        have q2 := hbox2.cell (i := 2) rfl
        have q3 := hbox2.cell (i := 3) rfl
        have q4 := hbox2.cell (i := 4) rfl
        clear c0 c1 c2 c3 c4
        go_wp2_with fail
        refine (HK2.out _ hat2).mono ?_
        rintro e w3 ⟨rfl, hat3, u3⟩
        have href3 := href2.keep u3 (fun b hb e => by have := hS2 b e; have := hR3 b hb; omega)
        have hbel3 := u3.below hbel2 hbel2.size hS
        have hz3 := Nat.le_trans hz2 u3.size
        go_wp2_with fail
        refine (HSAME.out _ _ hat3 href3).mono ?_
        rintro e w4 ⟨rfl, b4⟩
        have hbel4 := hbel3.trans (b4.mono hbel3.size)
        go_wp2_with fail
        go_roundw
        case rel => exact ⟨j + 1, by omega, by go_num, ws, l2, R2, HLEN.out, by have := HLL.out; omega, hat3.below b4, href3.below b4, hR3, hbel4, Nat.le_trans hz3 b4.size⟩
        case measure => simp [intOf]; omega
      have E1 : (q == 1) = false := by simpa using e1
      by_cases e2 : q = 2
      · subst e2
        have KD := fun W R (hh : Ref04.RO W xp R K ws l) => Ref04.doR W xp R K ws l hh (by omega) (by omega) (by omega) t 2 a o x
        simp only [Same04.p2 K ws l t a o x] at KD
        have K2 := fun W (hh : Port.O W p S K ws hs l) => Port.storeP W p S K ws hs l hh (by omega) t a x hx.1 hx.2
        have hll := Cache.after_len K ws.length l t a true
        obtain ⟨l2, hl2⟩ : ∃ y, Cache.after K ws.length l t a true = y := ⟨_, rfl⟩
        rw [hl2] at hll
        simp only [hl2] at KD K2
        have hlen : (if Mem.inB t K = true then Mem.put ws a x else ws).length = n := by split <;> simp [Mem.put_len, hws]
        obtain ⟨ws2, hw2⟩ : ∃ y, (if Mem.inB t K = true then Mem.put ws a x else ws) = y := ⟨_, rfl⟩
        rw [hw2] at hlen
        simp only [hw2] at KD K2
        have HSAME := Lib.hid (fun W R (h1 : Port.O W p S K ws2 hs l2) (h2 : Ref04.RO W xp R K ws2 l2) => Same04.same_all W p xp S R K ws2 hs l2 h1 h2 (by omega))
        have HKD := Lib.hid KD
        have HK2 := Lib.hid K2
        have HLEN := Lib.hid hlen
        have HLL := Lib.hid hll
        clear KD K2 hlen hll hl2 hw2
        have hat1 := hat.alloc (.cells #[.int .i64 t, .int .i64 2, .int .i64 a, .int .u32 o, .int .u32 x] 35)
        have href1 := href.alloc (.cells #[.int .i64 t, .int .i64 2, .int .i64 a, .int .u32 o, .int .u32 x] 35)
        have hbel1 := hbel.alloc hbel.size (.cells #[.int .i64 t, .int .i64 2, .int .i64 a, .int .u32 o, .int .u32 x] 35)
        have hbox1 : Row (wr.alloc (.cells #[.int .i64 t, .int .i64 2, .int .i64 a, .int .u32 o, .int .u32 x] 35)) wr.heap.size [.int .i64 t, .int .i64 2, .int .i64 a, .int .u32 o, .int .u32 x] := Row.new' rfl
        go_wp2_with fail
        refine (HKD.out _ _ href1).mono ?_
        rintro e w2 ⟨rfl, R2, href2, u2, hR2⟩
        have hR3 : ∀ b, R2 b → M ≤ b := fun b hb => by rcases hR2 b hb with e | e; exact hR b e; simp at e; omega
        have hat2 := hat1.keep u2 (fun b hb e => by have := hS2 b hb; have := hR b e; omega)
        have hbox2 := hbox1.upd u2 (fun e => by have := href.lt _ e; omega)
        have hbel2 := u2.below hbel1 hbel1.size (fun b hb => by have := hR b hb; omega)
        have hz2 : M ≤ w2.heap.size := Nat.le_trans hsz (Nat.le_trans (by simp) u2.size)
        have q0 := hbox2.cell (i := 0) rfl
        have q1 := hbox2.cell (i := 1) rfl
        have q2 := hbox2.cell (i := 2) rfl
        have q3 := hbox2.cell (i := 3) rfl
        have q4 := hbox2.cell (i := 4) rfl
        clear c0 c1 c2 c3 c4
        go_wp2_with fail
        refine (HK2.out _ hat2).mono ?_
        rintro e w3 ⟨rfl, hat3, u3⟩
        have href3 := href2.keep u3 (fun b hb e => by have := hS2 b e; have := hR3 b hb; omega)
        have hbel3 := u3.below hbel2 hbel2.size hS
        have hz3 := Nat.le_trans hz2 u3.size
        go_wp2_with fail
        refine (HSAME.out _ _ hat3 href3).mono ?_
        rintro e w4 ⟨rfl, b4⟩
        have hbel4 := hbel3.trans (b4.mono hbel3.size)
        go_wp2_with fail
        go_roundw
        case rel => exact ⟨j + 1, by omega, by go_num, ws2, l2, R2, HLEN.out, by have := HLL.out; omega, hat3.below b4, href3.below b4, hR3, hbel4, Nat.le_trans hz3 b4.size⟩
        case measure => simp [intOf]; omega
      have E2 : (q == 2) = false := by simpa using e2
      by_cases e3 : q = 3
      · subst e3
        have KD := fun W R (hh : Ref04.RO W xp R K ws l) => Ref04.doR W xp R K ws l hh (by omega) (by omega) (by omega) t 3 a o x
        simp only [Same04.p3 K ws l t a o x] at KD
        have K2 := fun W (hh : Port.O W p S K ws hs l) => Port.swapP W p S K ws hs l hh (by omega) t a x hx.1 hx.2
        have hll := Cache.after_len K ws.length l t a true
        obtain ⟨l2, hl2⟩ : ∃ y, Cache.after K ws.length l t a true = y := ⟨_, rfl⟩
        rw [hl2] at hll
        simp only [hl2] at KD K2
        have hlen : (if Mem.inB t K = true then Mem.put ws a x else ws).length = n := by split <;> simp [Mem.put_len, hws]
        obtain ⟨ws2, hw2⟩ : ∃ y, (if Mem.inB t K = true then Mem.put ws a x else ws) = y := ⟨_, rfl⟩
        rw [hw2] at hlen
        simp only [hw2] at KD K2
        obtain ⟨g, hg⟩ : ∃ y, (if Mem.inB t K = true then Mem.get ws a else 0) = y := ⟨_, rfl⟩
        simp only [hg] at KD K2
        have HSAME := Lib.hid (fun W R (h1 : Port.O W p S K ws2 hs l2) (h2 : Ref04.RO W xp R K ws2 l2) => Same04.same_all W p xp S R K ws2 hs l2 h1 h2 (by omega))
        have HKD := Lib.hid KD
        have HK2 := Lib.hid K2
        have HLEN := Lib.hid hlen
        have HLL := Lib.hid hll
        clear KD K2 hlen hll hl2 hw2 hg
        have hat1 := hat.alloc (.cells #[.int .i64 t, .int .i64 3, .int .i64 a, .int .u32 o, .int .u32 x] 35)
        have href1 := href.alloc (.cells #[.int .i64 t, .int .i64 3, .int .i64 a, .int .u32 o, .int .u32 x] 35)
        have hbel1 := hbel.alloc hbel.size (.cells #[.int .i64 t, .int .i64 3, .int .i64 a, .int .u32 o, .int .u32 x] 35)
        have hbox1 : Row (wr.alloc (.cells #[.int .i64 t, .int .i64 3, .int .i64 a, .int .u32 o, .int .u32 x] 35)) wr.heap.size [.int .i64 t, .int .i64 3, .int .i64 a, .int .u32 o, .int .u32 x] := Row.new' rfl
        go_wp2_with fail
        refine (HKD.out _ _ href1).mono ?_
        rintro e w2 ⟨rfl, R2, href2, u2, hR2⟩
        have hR3 : ∀ b, R2 b → M ≤ b := fun b hb => by rcases hR2 b hb with e | e; exact hR b e; simp at e; omega
        have hat2 := hat1.keep u2 (fun b hb e => by have := hS2 b hb; have := hR b e; omega)
        have hbox2 := hbox1.upd u2 (fun e => by have := href.lt _ e; omega)
        have hbel2 := u2.below hbel1 hbel1.size (fun b hb => by have := hR b hb; omega)
        have hz2 : M ≤ w2.heap.size := Nat.le_trans hsz (Nat.le_trans (by simp) u2.size)
        have q0 := hbox2.cell (i := 0) rfl
        have q1 := hbox2.cell (i := 1) rfl
        have q2 := hbox2.cell (i := 2) rfl
        have q3 := hbox2.cell (i := 3) rfl
        have q4 := hbox2.cell (i := 4) rfl
        clear c0 c1 c2 c3 c4
        go_wp2_with fail
        refine (HK2.out _ hat2).mono ?_
        rintro e w3 ⟨rfl, hat3, u3⟩
        have href3 := href2.keep u3 (fun b hb e => by have := hS2 b e; have := hR3 b hb; omega)
        have hbel3 := u3.below hbel2 hbel2.size hS
        have hz3 := Nat.le_trans hz2 u3.size
        go_wp2_with fail
        refine (HSAME.out _ _ hat3 href3).mono ?_
        rintro e w4 ⟨rfl, b4⟩
        have hbel4 := hbel3.trans (b4.mono hbel3.size)
        go_wp2_with fail
        go_roundw
        case rel => exact ⟨j + 1, by omega, by go_num, ws2, l2, R2, HLEN.out, by have := HLL.out; omega, hat3.below b4, href3.below b4, hR3, hbel4, Nat.le_trans hz3 b4.size⟩
        case measure => simp [intOf]; omega
      have E3 : (q == 3) = false := by simpa using e3
      by_cases e4 : q = 4
      · subst e4
        have KD := fun W R (hh : Ref04.RO W xp R K ws l) => Ref04.doR W xp R K ws l hh (by omega) (by omega) (by omega) t 4 a o x
        simp only [Same04.p4 K ws l t a o x] at KD
        have K2 := fun W (hh : Port.O W p S K ws hs l) => Port.casP W p S K ws hs l hh (by omega) t a o x hx.1 hx.2
        have hll := Cache.after_len K ws.length l t a true
        obtain ⟨l2, hl2⟩ : ∃ y, Cache.after K ws.length l t a true = y := ⟨_, rfl⟩
        rw [hl2] at hll
        simp only [hl2] at KD K2
        have hlen : (if (Mem.inB t K && Mem.casB ws a o) = true then Mem.put ws a x else ws).length = n := by split <;> simp [Mem.put_len, hws]
        obtain ⟨ws2, hw2⟩ : ∃ y, (if (Mem.inB t K && Mem.casB ws a o) = true then Mem.put ws a x else ws) = y := ⟨_, rfl⟩
        rw [hw2] at hlen
        simp only [hw2] at KD K2
        obtain ⟨r, hr⟩ : ∃ y, (Mem.inB t K && Mem.casB ws a o) = y := ⟨_, rfl⟩
        simp only [hr] at KD K2
        have HSAME := Lib.hid (fun W R (h1 : Port.O W p S K ws2 hs l2) (h2 : Ref04.RO W xp R K ws2 l2) => Same04.same_all W p xp S R K ws2 hs l2 h1 h2 (by omega))
        have HKD := Lib.hid KD
        have HK2 := Lib.hid K2
        have HLEN := Lib.hid hlen
        have HLL := Lib.hid hll
        clear KD K2 hlen hll hl2 hw2 hr
        cases r
        · have hat1 := hat.alloc (.cells #[.int .i64 t, .int .i64 4, .int .i64 a, .int .u32 o, .int .u32 x] 35)
          have href1 := href.alloc (.cells #[.int .i64 t, .int .i64 4, .int .i64 a, .int .u32 o, .int .u32 x] 35)
          have hbel1 := hbel.alloc hbel.size (.cells #[.int .i64 t, .int .i64 4, .int .i64 a, .int .u32 o, .int .u32 x] 35)
          have hbox1 : Row (wr.alloc (.cells #[.int .i64 t, .int .i64 4, .int .i64 a, .int .u32 o, .int .u32 x] 35)) wr.heap.size [.int .i64 t, .int .i64 4, .int .i64 a, .int .u32 o, .int .u32 x] := Row.new' rfl
          go_wp2_with fail
          refine (HKD.out _ _ href1).mono ?_
          rintro e w2 ⟨rfl, R2, href2, u2, hR2⟩
          have hR3 : ∀ b, R2 b → M ≤ b := fun b hb => by rcases hR2 b hb with e | e; exact hR b e; simp at e; omega
          have hat2 := hat1.keep u2 (fun b hb e => by have := hS2 b hb; have := hR b e; omega)
          have hbox2 := hbox1.upd u2 (fun e => by have := href.lt _ e; omega)
          have hbel2 := u2.below hbel1 hbel1.size (fun b hb => by have := hR b hb; omega)
          have hz2 : M ≤ w2.heap.size := Nat.le_trans hsz (Nat.le_trans (by simp) u2.size)
          have q0 := hbox2.cell (i := 0) rfl
          have q1 := hbox2.cell (i := 1) rfl
          have q2 := hbox2.cell (i := 2) rfl
          have q3 := hbox2.cell (i := 3) rfl
          have q4 := hbox2.cell (i := 4) rfl
          clear c0 c1 c2 c3 c4
          go_wp2_with fail
          refine (HK2.out _ hat2).mono ?_
          rintro e w3 ⟨rfl, hat3, u3⟩
          have href3 := href2.keep u3 (fun b hb e => by have := hS2 b e; have := hR3 b hb; omega)
          have hbel3 := u3.below hbel2 hbel2.size hS
          have hz3 := Nat.le_trans hz2 u3.size
          go_wp2_with fail
          refine (HSAME.out _ _ hat3 href3).mono ?_
          rintro e w4 ⟨rfl, b4⟩
          have hbel4 := hbel3.trans (b4.mono hbel3.size)
          go_wp2_with fail
          go_roundw
          case rel => exact ⟨j + 1, by omega, by go_num, ws2, l2, R2, HLEN.out, by have := HLL.out; omega, hat3.below b4, href3.below b4, hR3, hbel4, Nat.le_trans hz3 b4.size⟩
          case measure => simp [intOf]; omega
        · have hat1 := hat.alloc (.cells #[.int .i64 t, .int .i64 4, .int .i64 a, .int .u32 o, .int .u32 x] 35)
          have href1 := href.alloc (.cells #[.int .i64 t, .int .i64 4, .int .i64 a, .int .u32 o, .int .u32 x] 35)
          have hbel1 := hbel.alloc hbel.size (.cells #[.int .i64 t, .int .i64 4, .int .i64 a, .int .u32 o, .int .u32 x] 35)
          have hbox1 : Row (wr.alloc (.cells #[.int .i64 t, .int .i64 4, .int .i64 a, .int .u32 o, .int .u32 x] 35)) wr.heap.size [.int .i64 t, .int .i64 4, .int .i64 a, .int .u32 o, .int .u32 x] := Row.new' rfl
          go_wp2_with fail
          refine (HKD.out _ _ href1).mono ?_
          rintro e w2 ⟨rfl, R2, href2, u2, hR2⟩
          have hR3 : ∀ b, R2 b → M ≤ b := fun b hb => by rcases hR2 b hb with e | e; exact hR b e; simp at e; omega
          have hat2 := hat1.keep u2 (fun b hb e => by have := hS2 b hb; have := hR b e; omega)
          have hbox2 := hbox1.upd u2 (fun e => by have := href.lt _ e; omega)
          have hbel2 := u2.below hbel1 hbel1.size (fun b hb => by have := hR b hb; omega)
          have hz2 : M ≤ w2.heap.size := Nat.le_trans hsz (Nat.le_trans (by simp) u2.size)
          have q0 := hbox2.cell (i := 0) rfl
          have q1 := hbox2.cell (i := 1) rfl
          have q2 := hbox2.cell (i := 2) rfl
          have q3 := hbox2.cell (i := 3) rfl
          have q4 := hbox2.cell (i := 4) rfl
          clear c0 c1 c2 c3 c4
          go_wp2_with fail
          refine (HK2.out _ hat2).mono ?_
          rintro e w3 ⟨rfl, hat3, u3⟩
          have href3 := href2.keep u3 (fun b hb e => by have := hS2 b e; have := hR3 b hb; omega)
          have hbel3 := u3.below hbel2 hbel2.size hS
          have hz3 := Nat.le_trans hz2 u3.size
          go_wp2_with fail
          refine (HSAME.out _ _ hat3 href3).mono ?_
          rintro e w4 ⟨rfl, b4⟩
          have hbel4 := hbel3.trans (b4.mono hbel3.size)
          go_wp2_with fail
          go_roundw
          case rel => exact ⟨j + 1, by omega, by go_num, ws2, l2, R2, HLEN.out, by have := HLL.out; omega, hat3.below b4, href3.below b4, hR3, hbel4, Nat.le_trans hz3 b4.size⟩
          case measure => simp [intOf]; omega
      have E4 : (q == 4) = false := by simpa using e4
      by_cases e5 : q = 5
      · subst e5
        have KD := fun W R (hh : Ref04.RO W xp R K ws l) => Ref04.doR W xp R K ws l hh (by omega) (by omega) (by omega) t 5 a o x
        simp only [Same04.p5 K ws l t a o x] at KD
        have K2 := fun W (hh : Port.O W p S K ws hs l) => Port.addP W p S K ws hs l hh (by omega) t a x
        have hll := Cache.after_len K ws.length l t a true
        obtain ⟨l2, hl2⟩ : ∃ y, Cache.after K ws.length l t a true = y := ⟨_, rfl⟩
        rw [hl2] at hll
        simp only [hl2] at KD K2
        have hlen : (if Mem.inB t K = true then Mem.put ws a ((Mem.get ws a + x) % 4294967296) else ws).length = n := by split <;> simp [Mem.put_len, hws]
        obtain ⟨ws2, hw2⟩ : ∃ y, (if Mem.inB t K = true then Mem.put ws a ((Mem.get ws a + x) % 4294967296) else ws) = y := ⟨_, rfl⟩
        rw [hw2] at hlen
        simp only [hw2] at KD K2
        obtain ⟨g, hg⟩ : ∃ y, (if Mem.inB t K = true then Mem.get ws a else 0) = y := ⟨_, rfl⟩
        simp only [hg] at KD K2
        have HSAME := Lib.hid (fun W R (h1 : Port.O W p S K ws2 hs l2) (h2 : Ref04.RO W xp R K ws2 l2) => Same04.same_all W p xp S R K ws2 hs l2 h1 h2 (by omega))
        have HKD := Lib.hid KD
        have HK2 := Lib.hid K2
        have HLEN := Lib.hid hlen
        have HLL := Lib.hid hll
        clear KD K2 hlen hll hl2 hw2 hg
        have hat1 := hat.alloc (.cells #[.int .i64 t, .int .i64 5, .int .i64 a, .int .u32 o, .int .u32 x] 35)
        have href1 := href.alloc (.cells #[.int .i64 t, .int .i64 5, .int .i64 a, .int .u32 o, .int .u32 x] 35)
        have hbel1 := hbel.alloc hbel.size (.cells #[.int .i64 t, .int .i64 5, .int .i64 a, .int .u32 o, .int .u32 x] 35)
        have hbox1 : Row (wr.alloc (.cells #[.int .i64 t, .int .i64 5, .int .i64 a, .int .u32 o, .int .u32 x] 35)) wr.heap.size [.int .i64 t, .int .i64 5, .int .i64 a, .int .u32 o, .int .u32 x] := Row.new' rfl
        go_wp2_with fail
        refine (HKD.out _ _ href1).mono ?_
        rintro e w2 ⟨rfl, R2, href2, u2, hR2⟩
        have hR3 : ∀ b, R2 b → M ≤ b := fun b hb => by rcases hR2 b hb with e | e; exact hR b e; simp at e; omega
        have hat2 := hat1.keep u2 (fun b hb e => by have := hS2 b hb; have := hR b e; omega)
        have hbox2 := hbox1.upd u2 (fun e => by have := href.lt _ e; omega)
        have hbel2 := u2.below hbel1 hbel1.size (fun b hb => by have := hR b hb; omega)
        have hz2 : M ≤ w2.heap.size := Nat.le_trans hsz (Nat.le_trans (by simp) u2.size)
        have q0 := hbox2.cell (i := 0) rfl
        have q1 := hbox2.cell (i := 1) rfl
        have q2 := hbox2.cell (i := 2) rfl
        have q3 := hbox2.cell (i := 3) rfl
        have q4 := hbox2.cell (i := 4) rfl
        clear c0 c1 c2 c3 c4
        go_wp2_with fail
        refine (HK2.out _ hat2).mono ?_
        rintro e w3 ⟨rfl, hat3, u3⟩
        have href3 := href2.keep u3 (fun b hb e => by have := hS2 b e; have := hR3 b hb; omega)
        have hbel3 := u3.below hbel2 hbel2.size hS
        have hz3 := Nat.le_trans hz2 u3.size
        go_wp2_with fail
        refine (HSAME.out _ _ hat3 href3).mono ?_
        rintro e w4 ⟨rfl, b4⟩
        have hbel4 := hbel3.trans (b4.mono hbel3.size)
        go_wp2_with fail
        go_roundw
        case rel => exact ⟨j + 1, by omega, by go_num, ws2, l2, R2, HLEN.out, by have := HLL.out; omega, hat3.below b4, href3.below b4, hR3, hbel4, Nat.le_trans hz3 b4.size⟩
        case measure => simp [intOf]; omega
      have E5 : (q == 5) = false := by simpa using e5
      have KD := fun W R (hh : Ref04.RO W xp R K ws l) => Ref04.doR W xp R K ws l hh (by omega) (by omega) (by omega) t q a o x
      simp only [Same04.p0 K ws l t a o x q (by omega)] at KD
      have HSAME := Lib.hid (fun W R (h1 : Port.O W p S K ws hs l) (h2 : Ref04.RO W xp R K ws l) => Same04.same_all W p xp S R K ws hs l h1 h2 (by omega))
      have HKD := Lib.hid KD
      have HLEN := Lib.hid hws
      have HLL := Lib.hid (Nat.le_succ l.length)
      clear KD e1 e2 e3 e4 e5
      have hat1 := hat.alloc (.cells #[.int .i64 t, .int .i64 q, .int .i64 a, .int .u32 o, .int .u32 x] 35)
      have href1 := href.alloc (.cells #[.int .i64 t, .int .i64 q, .int .i64 a, .int .u32 o, .int .u32 x] 35)
      have hbel1 := hbel.alloc hbel.size (.cells #[.int .i64 t, .int .i64 q, .int .i64 a, .int .u32 o, .int .u32 x] 35)
      have hbox1 : Row (wr.alloc (.cells #[.int .i64 t, .int .i64 q, .int .i64 a, .int .u32 o, .int .u32 x] 35)) wr.heap.size [.int .i64 t, .int .i64 q, .int .i64 a, .int .u32 o, .int .u32 x] := Row.new' rfl
      go_wp2_with fail
      refine (HKD.out _ _ href1).mono ?_
      rintro e w2 ⟨rfl, R2, href2, u2, hR2⟩
      have hR3 : ∀ b, R2 b → M ≤ b := fun b hb => by rcases hR2 b hb with e | e; exact hR b e; simp at e; omega
      have hat2 := hat1.keep u2 (fun b hb e => by have := hS2 b hb; have := hR b e; omega)
      have hbox2 := hbox1.upd u2 (fun e => by have := href.lt _ e; omega)
      have hbel2 := u2.below hbel1 hbel1.size (fun b hb => by have := hR b hb; omega)
      have hz2 : M ≤ w2.heap.size := Nat.le_trans hsz (Nat.le_trans (by simp) u2.size)
      have q0 := hbox2.cell (i := 0) rfl
      have q1 := hbox2.cell (i := 1) rfl
      have q2 := hbox2.cell (i := 2) rfl
      have q3 := hbox2.cell (i := 3) rfl
      have q4 := hbox2.cell (i := 4) rfl
      clear c0 c1 c2 c3 c4
      have hat3 := hat2
      have href3 := href2
      have hbel3 := hbel2
      have hz3 := hz2
      go_wp2_with fail
      refine (HSAME.out _ _ hat3 href3).mono ?_
      rintro e w4 ⟨rfl, b4⟩
      have hbel4 := hbel3.trans (b4.mono hbel3.size)
      go_wp2_with fail
      go_roundw
      case rel => exact ⟨j + 1, by omega, by go_num, ws, l, R2, HLEN.out, by have := HLL.out; omega, hat3.below b4, href3.below b4, hR3, hbel4, Nat.le_trans hz3 b4.size⟩
      case measure => simp [intOf]; omega
    · clear h
      go_wp2_with fail
      refine (awake _).mono ?_
      rintro e w6 ⟨rfl, u6⟩
      go_wp2
      go_ret
      exact ⟨rfl, hbel.trans (u6.mono hbel.size)⟩
theorem walk (a : Int) (v1 : Value) (us : List Int) (v2 : Value) (xs : List (List Value)) (w : World) (ha : (Lit.int .u8 a).wf = true) (hu : Law04.Src .u32 w v1 us) (h : Recs w v2 kinds04 xs) :
    Calls Try.prog 6 #[.int .u8 a, v1, v2] w fun e w' => e = .returned (.bool true) ∧ Below w.heap.size w w' := by
  have ha' : 0 ≤ a ∧ a < 256 := by simp [Lit.wf, IntKind.min, IntKind.max, IntKind.bits, IntKind.signed] at ha; omega
  by_cases hm : a < 1 ∨ 8 < a ∨ 20 < us.length ∨ 60 < xs.length
  · obtain ⟨a2, c2, rfl, _⟩ := h.len
    obtain ⟨a1, c1, rfl, _⟩ := hu.1.len
    exact many a a1 a2 _ c1 _ c2 w hm
  · obtain ⟨K, rfl⟩ := Int.eq_ofNat_of_zero_le ha'.1
    exact few K v1 v2 us xs w (by omega) (by omega) hu (by omega) h (by omega)
end Go.Proofs.Ytfbbogemldaioaa.WalkPortPlays
