/- Package port: accesses, counts, New. -/
import Derived.Test.YtlkpfdboagjaoaaPort
namespace Go.Proofs.Ytlkpfdboagjaoaa.Port
open Go Go.RowKit Go.Proofs.Ytlkpfdboagjaoaa.Heap Go.Proofs.Ytlkpfdboagjaoaa.Open Go.Proofs.Ytlkpfdboagjaoaa.Has

theorem and_cases (x y : Bool) : (x = true ∧ y = true ∧ (x && y) = true) ∨ ((x = false ∨ y = false) ∧ (x && y) = false) := by cases x <;> cases y <;> simp
set_option maxHeartbeats 1000000 in
theorem loadP (w : World) (p : Nat) (S : Nat → Prop) (k : Nat) (ws hs : List Int) (l : List T) (h : O w p S k ws hs l) (hf : l.length < 1000000) (t a : Int) :
    Calls Try.prog 57 #[.pointer (some ⟨p, 0, none⟩), .int .i64 t, .int .i64 a] w fun e w' => e = .returned (.int .u32 (if Mem.inB t k = true then Mem.get ws a else 0)) ∧ O w' p S k ws hs (Cache.after k ws.length l t a false) ∧ Upd S w w' := by
  have KT := touchP w p S k ws hs l h hf t a false
  rcases and_cases (Mem.inB t k) (Mem.inB a ws.length) with ⟨e1, e2, e3⟩ | ⟨e1, e3⟩
  · rw [e3] at KT
    simp only [e1, if_true]
    have HKT := Lib.hid KT
    clear KT e1 e2 e3
    go_enter Try.func57, Try.ntmps57
    go_wp2_with fail
    refine HKT.out.mono ?_
    rintro e w1 ⟨rfl, h1, u1⟩
    obtain ⟨m, S1, q0, hm, hstep⟩ := h1.step
    go_wp2_with fail
    refine (Mem.loadO _ _ _ _ _ hm a).mono ?_
    rintro e w2 ⟨rfl, rfl⟩
    go_wp2
    go_ret
    exact ⟨rfl, h1, u1⟩
  · rw [e3] at KT
    have er : (if Mem.inB t k = true then Mem.get ws a else 0) = 0 := by
      rcases e1 with e1 | e1
      · rw [e1, if_neg (by decide)]
      · rw [Mem.get_out e1]; split <;> rfl
    rw [er]
    have HKT := Lib.hid KT
    clear KT e1 e3 er
    go_enter Try.func57, Try.ntmps57
    go_wp2_with fail
    refine HKT.out.mono ?_
    rintro e w1 ⟨rfl, h1, u1⟩
    go_wp2
    go_ret
    exact ⟨rfl, h1, u1⟩
set_option maxHeartbeats 1000000 in
theorem storeP (w : World) (p : Nat) (S : Nat → Prop) (k : Nat) (ws hs : List Int) (l : List T) (h : O w p S k ws hs l) (hf : l.length < 1000000) (t a : Int) (x : Int) (x0 : 0 ≤ x) (x1 : x < 4294967296) :
    Calls Try.prog 55 #[.pointer (some ⟨p, 0, none⟩), .int .i64 t, .int .i64 a, .int .u32 x] w fun e w' => e = .returned (.tuple #[]) ∧ O w' p S k (if Mem.inB t k = true then Mem.put ws a x else ws) hs (Cache.after k ws.length l t a true) ∧ Upd S w w' := by
  have KT := touchP w p S k ws hs l h hf t a true
  rcases and_cases (Mem.inB t k) (Mem.inB a ws.length) with ⟨e1, e2, e3⟩ | ⟨e1, e3⟩
  · rw [e3] at KT
    simp only [e1, if_true]
    have HKT := Lib.hid KT
    clear KT e1 e2 e3
    go_enter Try.func55, Try.ntmps55
    go_wp2_with fail
    refine HKT.out.mono ?_
    rintro e w1 ⟨rfl, h1, u1⟩
    obtain ⟨m, S1, q0, hm, hstep⟩ := h1.step
    go_wp2_with fail
    refine (Mem.storeO _ _ _ _ _ hm a x x0 x1).mono ?_
    rintro e w2 ⟨rfl, h2, u2⟩
    obtain ⟨h3, u3⟩ := hstep _ _ h2 (Mem.put_len _ _ _) u2
    go_wp2
    go_end0
    exact ⟨rfl, h3, u1.trans u3⟩
  · rw [e3] at KT
    have ew : (if Mem.inB t k = true then Mem.put ws a x else ws) = ws := by
      rcases e1 with e1 | e1
      · rw [e1, if_neg (by decide)]
      · rw [Mem.put_out e1]; split <;> rfl
    rw [ew]
    have HKT := Lib.hid KT
    clear KT e1 e3 ew
    go_enter Try.func55, Try.ntmps55
    go_wp2_with fail
    refine HKT.out.mono ?_
    rintro e w1 ⟨rfl, h1, u1⟩
    go_wp2
    go_end0
    exact ⟨rfl, h1, u1⟩
set_option maxHeartbeats 1000000 in
theorem swapP (w : World) (p : Nat) (S : Nat → Prop) (k : Nat) (ws hs : List Int) (l : List T) (h : O w p S k ws hs l) (hf : l.length < 1000000) (t a : Int) (x : Int) (x0 : 0 ≤ x) (x1 : x < 4294967296) :
    Calls Try.prog 56 #[.pointer (some ⟨p, 0, none⟩), .int .i64 t, .int .i64 a, .int .u32 x] w fun e w' => e = .returned (.int .u32 (if Mem.inB t k = true then Mem.get ws a else 0)) ∧ O w' p S k (if Mem.inB t k = true then Mem.put ws a x else ws) hs (Cache.after k ws.length l t a true) ∧ Upd S w w' := by
  have KT := touchP w p S k ws hs l h hf t a true
  rcases and_cases (Mem.inB t k) (Mem.inB a ws.length) with ⟨e1, e2, e3⟩ | ⟨e1, e3⟩
  · rw [e3] at KT
    simp only [e1, if_true]
    have HKT := Lib.hid KT
    clear KT e1 e2 e3
    go_enter Try.func56, Try.ntmps56
    go_wp2_with fail
    refine HKT.out.mono ?_
    rintro e w1 ⟨rfl, h1, u1⟩
    obtain ⟨m, S1, q0, hm, hstep⟩ := h1.step
    go_wp2_with fail
    refine (Mem.swapO _ _ _ _ _ hm a x x0 x1).mono ?_
    rintro e w2 ⟨rfl, h2, u2⟩
    obtain ⟨h3, u3⟩ := hstep _ _ h2 (Mem.put_len _ _ _) u2
    go_wp2
    go_ret
    exact ⟨rfl, h3, u1.trans u3⟩
  · rw [e3] at KT
    have er : (if Mem.inB t k = true then Mem.get ws a else 0) = 0 := by
      rcases e1 with e1 | e1
      · rw [e1, if_neg (by decide)]
      · rw [Mem.get_out e1]; split <;> rfl
    rw [er]
    have ew : (if Mem.inB t k = true then Mem.put ws a x else ws) = ws := by
      rcases e1 with e1 | e1
      · rw [e1, if_neg (by decide)]
      · rw [Mem.put_out e1]; split <;> rfl
    rw [ew]
    have HKT := Lib.hid KT
    clear KT e1 e3 er ew
    go_enter Try.func56, Try.ntmps56
    go_wp2_with fail
    refine HKT.out.mono ?_
    rintro e w1 ⟨rfl, h1, u1⟩
    go_wp2
    go_ret
    exact ⟨rfl, h1, u1⟩
set_option maxHeartbeats 1000000 in
theorem casP (w : World) (p : Nat) (S : Nat → Prop) (k : Nat) (ws hs : List Int) (l : List T) (h : O w p S k ws hs l) (hf : l.length < 1000000) (t a : Int) (o x : Int) (x0 : 0 ≤ x) (x1 : x < 4294967296) :
    Calls Try.prog 58 #[.pointer (some ⟨p, 0, none⟩), .int .i64 t, .int .i64 a, .int .u32 o, .int .u32 x] w fun e w' => e = .returned (.bool (Mem.inB t k && Mem.casB ws a o)) ∧ O w' p S k (if (Mem.inB t k && Mem.casB ws a o) = true then Mem.put ws a x else ws) hs (Cache.after k ws.length l t a true) ∧ Upd S w w' := by
  have KT := touchP w p S k ws hs l h hf t a true
  rcases and_cases (Mem.inB t k) (Mem.inB a ws.length) with ⟨e1, e2, e3⟩ | ⟨e1, e3⟩
  · rw [e3] at KT
    simp only [e1, Bool.true_and]
    cases hr : Mem.casB ws a o with
    | true =>
      have HR := Lib.hid hr
      clear hr
      have HKT := Lib.hid KT
      clear KT e1 e2 e3
      go_enter Try.func58, Try.ntmps58
      go_wp2_with fail
      refine HKT.out.mono ?_
      rintro e w1 ⟨rfl, h1, u1⟩
      obtain ⟨m, S1, q0, hm, hstep⟩ := h1.step
      go_wp2_with fail
      refine (Mem.casO _ _ _ _ _ hm a o x x0 x1).mono ?_
      rintro e w2 ⟨rfl, h2, u2⟩
      rw [HR.out] at h2 ⊢
      obtain ⟨h3, u3⟩ := hstep _ _ h2 (by first | rw [if_pos rfl, Mem.put_len] | rw [if_neg (by decide)]) u2
      go_wp2
      go_ret
      exact ⟨rfl, h3, u1.trans u3⟩
    | false =>
      have HR := Lib.hid hr
      clear hr
      have HKT := Lib.hid KT
      clear KT e1 e2 e3
      go_enter Try.func58, Try.ntmps58
      go_wp2_with fail
      refine HKT.out.mono ?_
      rintro e w1 ⟨rfl, h1, u1⟩
      obtain ⟨m, S1, q0, hm, hstep⟩ := h1.step
      go_wp2_with fail
      refine (Mem.casO _ _ _ _ _ hm a o x x0 x1).mono ?_
      rintro e w2 ⟨rfl, h2, u2⟩
      rw [HR.out] at h2 ⊢
      obtain ⟨h3, u3⟩ := hstep _ _ h2 (by first | rw [if_pos rfl, Mem.put_len] | rw [if_neg (by decide)]) u2
      go_wp2
      go_ret
      exact ⟨rfl, h3, u1.trans u3⟩
  · rw [e3] at KT
    have er : (Mem.inB t k && Mem.casB ws a o) = false := by
      rcases e1 with e1 | e1
      · rw [e1, Bool.false_and]
      · unfold Mem.casB; rw [e1, Bool.false_and, Bool.and_false]
    rw [er, if_neg (by decide)]
    have HKT := Lib.hid KT
    clear KT e1 e3 er
    go_enter Try.func58, Try.ntmps58
    go_wp2_with fail
    refine HKT.out.mono ?_
    rintro e w1 ⟨rfl, h1, u1⟩
    go_wp2
    go_ret
    exact ⟨rfl, h1, u1⟩
theorem count_no (w : World) (p : Nat) (S : Nat → Prop) (k : Nat) (ws hs : List Int) (l : List T) (h : O w p S k ws hs l) (t : Int) (hn : Mem.inB t k = false) (i : Int) :
    Calls Try.prog 62 #[.pointer (some ⟨p, 0, none⟩), .int .i64 t, .int .i64 i] w fun e w' => e = .returned (.int .i64 0) ∧ w = w' := by
  obtain ⟨⟨m, c, cb, S1, S2, hp⟩, hl⟩ := h
  have q2 := hp.top.cell (i := 2) rfl
  have ho : t < 0 ∨ (k : Int) ≤ t := by simp [Mem.inB] at hn; omega
  clear hn
  by_cases c1 : t < 0
  · clear ho
    go_enter Try.func62, Try.ntmps62
    go_wp2
    go_ret
    exact ⟨rfl, rfl⟩
  have c1' : 0 ≤ t := by omega
  have c2 : (k : Int) ≤ t := by omega
  clear ho
  go_enter Try.func62, Try.ntmps62
  go_wp2
  go_ret
  exact ⟨rfl, rfl⟩
theorem count_0 (w : World) (p : Nat) (S : Nat → Prop) (k : Nat) (ws hs : List Int) (l : List T) (h : O w p S k ws hs l) (t : Nat) (ht : t < k) :
    Calls Try.prog 62 #[.pointer (some ⟨p, 0, none⟩), .int .i64 t, .int .i64 0] w fun e w' => e = .returned (.int .i64 (acc l t : Nat)) ∧ w = w' := by
  obtain ⟨⟨m, c, cb, S1, S2, hp⟩, hl⟩ := h
  have q2 := hp.top.cell (i := 2) rfl
  obtain ⟨cs, hr, hc⟩ := hp.cnts
  have d0 := hr.cell (hc.2 t ht).1
  have ht' : (t : Int) < k := by omega
  go_enter Try.func62, Try.ntmps62
  go_wp2
  go_ret
  exact ⟨rfl, rfl⟩
theorem count_1 (w : World) (p : Nat) (S : Nat → Prop) (k : Nat) (ws hs : List Int) (l : List T) (h : O w p S k ws hs l) (t : Nat) (ht : t < k) :
    Calls Try.prog 62 #[.pointer (some ⟨p, 0, none⟩), .int .i64 t, .int .i64 1] w fun e w' => e = .returned (.int .i64 (wrs l t : Nat)) ∧ w = w' := by
  obtain ⟨⟨m, c, cb, S1, S2, hp⟩, hl⟩ := h
  have q2 := hp.top.cell (i := 2) rfl
  obtain ⟨cs, hr, hc⟩ := hp.cnts
  have d0 := hr.cell (hc.2 t ht).2
  have ht' : (t : Int) < k := by omega
  go_enter Try.func62, Try.ntmps62
  go_wp2
  go_ret
  exact ⟨rfl, rfl⟩
theorem accessesP (w : World) (p : Nat) (S : Nat → Prop) (k : Nat) (ws hs : List Int) (l : List T) (h : O w p S k ws hs l) (t : Int) :
    Calls Try.prog 48 #[.pointer (some ⟨p, 0, none⟩), .int .i64 t] w fun e w' => e = .returned (.int .i64 (if Mem.inB t k = true then (acc l t : Nat) else 0)) ∧ w = w' := by
  cases hn : Mem.inB t k with
  | false =>
    have K := count_no w p S k ws hs l h t hn 0
    have HK := Lib.hid K
    clear K hn
    go_enter Try.func48, Try.ntmps48
    go_wp2_with fail
    refine HK.out.mono ?_
    rintro e w1 ⟨rfl, rfl⟩
    go_wp2
    go_ret
    exact ⟨rfl, rfl⟩
  | true =>
    obtain ⟨t, rfl, ht⟩ := Cache.inB_nat hn
    rw [if_pos rfl]
    have HK := Lib.hid (count_0 w p S k ws hs l h t ht)
    clear hn
    go_enter Try.func48, Try.ntmps48
    go_wp2_with fail
    refine HK.out.mono ?_
    rintro e w1 ⟨rfl, rfl⟩
    go_wp2
    go_ret
    exact ⟨rfl, rfl⟩
theorem writesP (w : World) (p : Nat) (S : Nat → Prop) (k : Nat) (ws hs : List Int) (l : List T) (h : O w p S k ws hs l) (t : Int) :
    Calls Try.prog 68 #[.pointer (some ⟨p, 0, none⟩), .int .i64 t] w fun e w' => e = .returned (.int .i64 (if Mem.inB t k = true then (wrs l t : Nat) else 0)) ∧ w = w' := by
  cases hn : Mem.inB t k with
  | false =>
    have K := count_no w p S k ws hs l h t hn 1
    have HK := Lib.hid K
    clear K hn
    go_enter Try.func68, Try.ntmps68
    go_wp2_with fail
    refine HK.out.mono ?_
    rintro e w1 ⟨rfl, rfl⟩
    go_wp2
    go_ret
    exact ⟨rfl, rfl⟩
  | true =>
    obtain ⟨t, rfl, ht⟩ := Cache.inB_nat hn
    rw [if_pos rfl]
    have HK := Lib.hid (count_1 w p S k ws hs l h t ht)
    clear hn
    go_enter Try.func68, Try.ntmps68
    go_wp2_with fail
    refine HK.out.mono ?_
    rintro e w1 ⟨rfl, rfl⟩
    go_wp2
    go_ret
    exact ⟨rfl, rfl⟩
theorem missesP (w : World) (p : Nat) (S : Nat → Prop) (k : Nat) (ws hs : List Int) (l : List T) (h : O w p S k ws hs l) (t : Int) :
    Calls Try.prog 69 #[.pointer (some ⟨p, 0, none⟩), .int .i64 t] w fun e w' => e = .returned (.int .i64 (if Mem.inB t k = true then (misses k l t : Nat) else 0)) ∧ w = w' := by
  obtain ⟨⟨m, c, cb, S1, S2, hp⟩, hl⟩ := h
  have q1 := hp.top.cell (i := 1) rfl
  have K := Cache.missesO _ c S2 k ws.length l hp.cache t
  obtain ⟨r, hr⟩ : ∃ r : Int, (if Cache.inB t k = true then ((misses k l t : Nat) : Int) else 0) = r := ⟨_, rfl⟩
  rw [show (if Mem.inB t k = true then ((misses k l t : Nat) : Int) else 0) = r from hr]
  rw [hr] at K
  have HK := Lib.hid K
  clear K hr
  go_enter Try.func69, Try.ntmps69
  go_wp2_with fail
  refine HK.out.mono ?_
  rintro e w1 ⟨rfl, rfl⟩
  go_wp2
  go_ret
  exact ⟨rfl, rfl⟩
theorem threadsP (w : World) (p : Nat) (S : Nat → Prop) (k : Nat) (ws hs : List Int) (l : List T) (h : O w p S k ws hs l) :
    Calls Try.prog 66 #[.pointer (some ⟨p, 0, none⟩)] w fun e w' => e = .returned (.int .i64 k) ∧ w = w' := by
  obtain ⟨⟨m, c, cb, S1, S2, hp⟩, hl⟩ := h
  have q2 := hp.top.cell (i := 2) rfl
  go_enter Try.func66, Try.ntmps66
  go_wp2
  go_ret
  exact ⟨rfl, rfl⟩
theorem info_pair : (Try.prog.info? 151).map (fun i => (i.zero, i.size, i.bytes)) = some (some (.agg #[.int .i64 0, .int .i64 0]), 2, 16) := by kernel_rfl
theorem cnts_zero (k : Nat) : Cnts k [] (List.replicate (k * 2) (.int .i64 0)) := by
  refine ⟨by simp, fun t ht => ⟨?_, ?_⟩⟩
  · rw [List.getElem?_replicate_of_lt (by omega)]; rfl
  · rw [List.getElem?_replicate_of_lt (by omega)]; rfl
theorem fill_put (xs : List Int) (k : Nat) (h : k < xs.length) : Mem.put (xs.take k ++ List.replicate (xs.length - k) 0) k xs[k] = xs.take (k + 1) ++ List.replicate (xs.length - (k + 1)) 0 := by
  have e1 : k - (xs.take k).length = 0 := by simp; omega
  have e2 : xs.length - k = (xs.length - (k + 1)) + 1 := by omega
  rw [Mem.put_in rfl (by simp [Mem.inB]; omega), List.set_append_right _ _ (by simp; omega), e1, e2, List.replicate_succ, List.set_cons_zero, List.take_succ_eq_append_getElem h, List.append_assoc]; rfl
set_option maxHeartbeats 2000000 in
set_option maxRecDepth 100000 in
theorem newP (w : World) (k : Nat) (v1 v2 : Value) (hs xs : List Int) (h1 : Src1 w v1 .i64 hs) (h2 : Src1 w v2 .u32 xs) (hl : hs.length = xs.length) (hx : xs.length ≤ 4096) (hok : Mem.homesOk hs = true) (hw : Mem.Wd xs) (k1 : 1 ≤ k) (k2 : k ≤ 64) :
    Calls Try.prog 53 #[.int .i64 k, v1, v2] w fun e w' => ∃ p, e = .returned (.tuple #[.pointer (some ⟨p, 0, none⟩), .int .i64 0]) ∧ O w' p (Mem.Btw w w') k xs hs [] ∧ Below w.heap.size w w' := by
  have KN := Mem.newO w v1 hs h1 (by omega) hok
  obtain ⟨a1, cap1, rfl, -, -⟩ := h1
  obtain ⟨a2, cap2, rfl, -, hc2⟩ := h2
  obtain ⟨n, hn⟩ : ∃ n, xs.length = n := ⟨_, rfl⟩
  rw [hl] at KN ⊢
  rw [hn] at KN hc2 hx ⊢
  have HN := Lib.hid KN
  have hx' : (n : Int) ≤ 4096 := by omega
  have k1' : (1 : Int) ≤ k := by omega
  have k2' : (k : Int) ≤ 64 := by omega
  have HC := Lib.hid (fun W => Cache.newO W k n k1 k2 hx)
  have hmk := run_make_many (P := Try.prog) 59 151 (.agg #[.int .i64 0, .int .i64 0]) (.int .i64 0) 2 16 Try.underlying59 info_pair (by intro i hi; match i, hi with | 0, _ => rfl | 1, _ => rfl) (by decide) k (by omega) (by omega)
  have HM := Lib.hid hmk
  have HL := Lib.hid hn
  clear hmk hl hn KN
  go_enter Try.func53, Try.ntmps53
  go_wp2_with fail
  refine HN.out.mono ?_
  rintro e w1 ⟨m, rfl, hO, b1⟩
  obtain ⟨S1, hS1⟩ : ∃ S1, Mem.Btw w w1 = S1 := ⟨_, rfl⟩
  have hSlo : ∀ b, S1 b → w.heap.size ≤ b := fun b hb => by rw [← hS1] at hb; exact hb.1
  have hShi : ∀ b, S1 b → b < w1.heap.size := fun b hb => by rw [← hS1] at hb; exact hb.2
  rw [hS1] at hO
  clear hS1
  go_wp2_with fail
  go_loopw [37] (fun i wr => ∃ j : Nat, j ≤ n ∧ i = .int .i64 j ∧ Mem.O wr m S1 (xs.take j ++ List.replicate (n - j) 0) hs ∧ Below w.heap.size w wr ∧ w1.heap.size ≤ wr.heap.size) (fun i _ => n - (intOf i).toNat)
  case atStart => exact ⟨0, Nat.zero_le _, rfl, by simpa using hO, b1, Nat.le_refl _⟩
  case round =>
    obtain ⟨j, hj, rfl, hO2, hbel, hsz⟩ := hrel
    by_cases hlt : j < n
    · obtain ⟨b, off, rfl, hb, hcell⟩ := hc2 (by omega)
      have c0 := (hbel.cell (p := ⟨b, off + j, none⟩) hb).trans (hcell j hlt)
      have hltx : j < xs.length := by rw [HL.out]; exact hlt
      have e0 := fill_put xs j hltx
      rw [HL.out] at e0
      rw [getD_lt _ _ _ hltx] at c0
      have hwx := hw xs[j] (List.getElem_mem hltx)
      obtain ⟨x, hxx⟩ : ∃ x, xs[j] = x := ⟨_, rfl⟩
      rw [hxx] at c0 e0 hwx
      have K := Mem.storeO _ _ _ _ _ hO2 j x hwx.1 hwx.2
      rw [e0] at K
      have HK := Lib.hid K
      clear hxx e0 K hc2 hcell
      go_wp2_with fail
      refine HK.out.mono ?_
      rintro e w2 ⟨rfl, hO3, u3⟩
      have B3 := u3.below hbel hbel.size hSlo
      have hsz3 := Nat.le_trans hsz u3.size
      go_wp2_with fail
      go_roundw
      case rel => exact ⟨j + 1, by omega, by go_num, hO3, B3, hsz3⟩
      case measure => simp [intOf]; omega
    · obtain rfl : j = n := by omega
      rw [List.take_of_length_le (by rw [HL.out]; exact Nat.le_refl _), Nat.sub_self, List.replicate_zero, List.append_nil] at hO2
      go_wp2_with fail
      refine (HC.out _).mono ?_
      rintro e w2 ⟨c, rfl, hc, b2⟩
      rw [← HL.out] at hc
      have hO3 := hO2.below b2
      have B2 := hbel.trans (b2.mono hbel.size)
      have hmk := HM.out
      have hz1 := hbel.size
      have hz2 := b2.size
      go_wp2_with fail
      clear hmk
      go_ret2
      have hcnt : Row (w2.alloc (.cells (zeros (k * 2) (.int .i64 0)) 151)) w2.heap.size (List.replicate (k * 2) (.int .i64 0)) := Row.ofZeros rfl
      have Q : ∀ W, Below w2.heap.size w2 W → Row W w2.heap.size (List.replicate (k * 2) (.int .i64 0)) → ∀ p, w2.heap.size < p → p < W.heap.size → Row W p [.pointer (some ⟨m, 0, none⟩), .pointer (some ⟨c, 0, none⟩), .slice (some ⟨w2.heap.size, 0, none⟩) k k] → O W p (Mem.Btw w W) k xs hs [] ∧ Below w.heap.size w W := by
        intro W bW rW p hp1 hp2 hr
        have B := B2.trans (bW.mono B2.size)
        have hzW := bW.size
        refine ⟨⟨⟨m, c, w2.heap.size, S1, _, hr, hO3.below bW, hc.below bW, ⟨_, rW, cnts_zero k⟩, ?_, ?_, ?_, ?_, ?_, ?_, ?_, ?_, ?_, ?_⟩, fun b hb => hb.2⟩, B⟩
        · intro b hb; have := hSlo b hb; have := hShi b hb; exact ⟨by omega, by omega⟩
        · rintro b ⟨x1, x2⟩; exact ⟨by omega, by omega⟩
        · exact ⟨by omega, hp2⟩
        · exact ⟨by omega, by omega⟩
        · intro b hb hb2; have := hShi b hb; omega
        · intro hb; have := hShi _ hb; omega
        · rintro ⟨x1, x2⟩; omega
        · intro hb; have := hShi _ hb; omega
        · rintro ⟨x1, x2⟩; omega
        · omega
      refine ⟨_, rfl, Q _ ?_ ?_ _ ?_ ?_ (Row.new' ?_)⟩
      · exact ((Below.refl _ _).alloc (Nat.le_refl _) _).alloc (by simp) _
      · exact hcnt.alloc _
      · simp
      · simp
      · simp
end Go.Proofs.Ytlkpfdboagjaoaa.Port
