/- Package plan: plans as objects: New, Row, Word, Len. -/
import Derived.Test.YtlkpfdboagjaoaaPortN
namespace Go.Proofs.Ytlkpfdboagjaoaa.Plan
open Go Go.RowKit Go.Proofs.Ytlkpfdboagjaoaa.Heap Go.Proofs.Ytlkpfdboagjaoaa.Open Go.Proofs.Ytlkpfdboagjaoaa.Mem

theorem info_u32 : (Try.prog.info? 27).map (fun i => (i.zero, i.size, i.bytes)) = some (some (.int .u32 0), 1, 4) := by kernel_rfl
structure Parts (w : World) (p : Nat) (S : Nat → Prop) (k : Int) (hs xs : List Int) (hv wv : Value) : Prop where
  top : Row w p [.int .i64 k, hv, wv]
  homes : w.ownsRow 0 3 1 hv hs.length (ints .i64 hs)
  words : w.ownsRow 0 27 1 wv xs.length (ints .u32 xs)
  sp : S p
  hl : ∀ b, hv.ownBlock = some b → S b ∧ b ≠ p
  wl : ∀ b, wv.ownBlock = some b → S b ∧ b ≠ p
  apart : ∀ b, hv.ownBlock = some b → wv.ownBlock ≠ some b
/-- A plan at p: for so many threads, with these homes and words; all its blocks in S. -/
structure O (w : World) (p : Nat) (S : Nat → Prop) (k : Int) (hs xs : List Int) : Prop where
  ex : ∃ hv wv, Parts w p S k hs xs hv wv
  lt : ∀ b, S b → b < w.heap.size
  len : hs.length = xs.length
theorem Parts.keep {U S : Nat → Prop} {w w' : World} {p : Nat} {k : Int} {hs xs : List Int} {hv wv : Value} (h : Parts w p S k hs xs hv wv) (hu : Upd U w w') (hd : ∀ b, S b → ¬ U b) : Parts w' p S k hs xs hv wv :=
  ⟨h.top.upd hu (hd _ h.sp), own_upd h.homes hu (fun b hb => hd b (h.hl b hb).1), own_upd h.words hu (fun b hb => hd b (h.wl b hb).1), h.sp, h.hl, h.wl, h.apart⟩
theorem O.keep {U S : Nat → Prop} {w w' : World} {p : Nat} {k : Int} {hs xs : List Int} (h : O w p S k hs xs) (hu : Upd U w w') (hd : ∀ b, S b → ¬ U b) : O w' p S k hs xs := by
  obtain ⟨⟨hv, wv, hp⟩, hl, hn⟩ := h
  exact ⟨⟨hv, wv, hp.keep hu hd⟩, fun b hb => Nat.lt_of_lt_of_le (hl b hb) hu.size, hn⟩
theorem O.alloc {S : Nat → Prop} {w : World} {p : Nat} {k : Int} {hs xs : List Int} (h : O w p S k hs xs) (o : Obj) : O (w.alloc o) p S k hs xs := h.keep ((Upd.refl (fun _ => False) w).alloc o) fun _ _ => id
theorem O.drewN {S : Nat → Prop} {w : World} {p : Nat} {k : Int} {hs xs : List Int} (h : O w p S k hs xs) (n : Nat) : O (w.drewN n) p S k hs xs := h.keep ((Upd.refl (fun _ => False) w).drewN n) fun _ _ => id
theorem O.below {S : Nat → Prop} {w w' : World} {p : Nat} {k : Int} {hs xs : List Int} (h : O w p S k hs xs) (hb : Below w.heap.size w w') : O w' p S k hs xs := h.keep (Upd.of_below (S := fun _ => False) hb) fun _ _ => id

theorem newPl (w : World) (k : Int) : Calls Try.prog 10 #[.int .i64 k] w fun e w' => ∃ p, e = .returned (.pointer (some ⟨p, 0, none⟩)) ∧ O w' p (Btw w w') k [] [] ∧ Below w.heap.size w w' := by
  go_enter Try.func10, Try.ntmps10
  go_wp2
  go_ret
  refine ⟨_, rfl, ⟨⟨.slice none 0 0, .slice none 0 0, Row.new' rfl, World.ownsRow_nil _ _ _ _, World.ownsRow_nil _ _ _ _, ⟨Nat.le_refl _, by simp⟩, ?_, ?_, ?_⟩, fun b hb => hb.2, rfl⟩, (Below.refl _ _).alloc (Nat.le_refl _) _⟩
  all_goals (intro b hb; simp [Value.ownBlock] at hb)
theorem lenPl (w : World) (p : Nat) (S : Nat → Prop) (k : Int) (hs xs : List Int) (h : O w p S k hs xs) :
    Calls Try.prog 14 #[.pointer (some ⟨p, 0, none⟩)] w fun e w' => e = .returned (.int .i64 xs.length) ∧ w = w' := by
  obtain ⟨⟨hv, wv, hp⟩, hl, hn⟩ := h
  have q2 := hp.top.cell (i := 2) rfl
  obtain ⟨a, c, rfl⟩ := owned_len1 hp.words
  go_enter Try.func14, Try.ntmps14
  go_wp2
  go_ret
  exact ⟨rfl, rfl⟩
/-- How many words a row lays. -/
def cnt (n : Int) : Nat := (min (max n 0) 4097).toNat
theorem cell_newAt (w : World) (v : Value) (T : TypeId) (b : Nat) (hb : b = w.heap.size) : ∀ j u, [v][j]? = some u → (w.alloc (.cells #[v] T)).cell? ((⟨b, 0, none⟩ : Addr).add j) = some u := by subst hb; exact cell_new1 w v T
theorem ints_snoc {k : IntKind} (xs : List Int) (x : Int) : ints k xs ++ [.int k x] = ints k (xs ++ [x]) := by simp [ints]
set_option maxHeartbeats 8000000 in
set_option maxRecDepth 100000 in
theorem row_mid (w : World) (p : Nat) (S : Nat → Prop) (k : Int) (hs xs : List Int) (h : O w p S k hs xs) (hx : xs.length ≤ 1000000) (c : Nat) (c0 : 0 < c) (c1 : c ≤ 4097) (home v : Int) :
    Calls Try.prog 11 #[.pointer (some ⟨p, 0, none⟩), .int .i64 (c : Int), .int .i64 home, .int .u32 v] w fun e w' => e = .returned (.int .i64 xs.length) ∧
      ∃ S', O w' p S' k (hs ++ List.replicate c home) (xs ++ List.replicate c v) ∧ Upd S w w' ∧ (∀ b, S' b → S b ∨ w.heap.size ≤ b) := by
  have hlen := h.len
  obtain ⟨⟨hv0, wv0, hp0⟩, hl0, -⟩ := id h
  have q2 := hp0.top.cell (i := 2) rfl
  obtain ⟨wa, wc, hwv⟩ := owned_len1 hp0.words
  rw [hwv] at q2
  have c0' : (0 : Int) < c := by omega
  have c1' : (c : Int) ≤ 4097 := by omega
  have HLEN := Lib.hid hlen
  clear hlen hp0 hl0 hwv
  go_enter Try.func11, Try.ntmps11
  go_wp2_with fail
  go_loopw [18] (fun i wr => ∃ j : Nat, j ≤ c ∧ i = .int .i64 j ∧ ∃ S', O wr p S' k (hs ++ List.replicate j home) (xs ++ List.replicate j v) ∧ Upd S w wr ∧ (∀ b, S' b → S b ∨ w.heap.size ≤ b)) (fun i _ => c - (intOf i).toNat)
  case atStart => exact ⟨0, Nat.zero_le _, rfl, S, by simpa using h, Upd.refl _ _, fun _ hb => .inl hb⟩
  case round =>
    obtain ⟨j, hj, rfl, S1, hO, hu, hS1⟩ := hrel
    by_cases hlt : j < c
    · obtain ⟨⟨hv, wv, hp⟩, hl, hn⟩ := hO
      have t1 := hp.top.cell (i := 1) rfl
      have pl := hl _ hp.sp
      have hhl : ∀ b, hv.ownBlock = some b → b < wr.heap.size := fun b hb => (own_lt hp.homes hb).1
      have hwl : ∀ b, wv.ownBlock = some b → b < wr.heap.size := fun b hb => (own_lt hp.words hb).1
      have lh : (hs ++ List.replicate j home).length ≤ 2000000 := by have := HLEN.out; simp; omega
      have lw : (xs ++ List.replicate j v).length ≤ 2000000 := by simp; omega
      have hlt' : (j : Int) < (c : Nat) := by omega
      obtain ⟨hs1, eh⟩ : ∃ y, hs ++ List.replicate j home = y := ⟨_, rfl⟩
      obtain ⟨xs1, ex⟩ : ∃ y, xs ++ List.replicate j v = y := ⟨_, rfl⟩
      have eh2 : hs ++ List.replicate (j + 1) home = hs1 ++ [home] := by rw [← eh, List.replicate_succ', List.append_assoc]
      have ex2 : xs ++ List.replicate (j + 1) v = xs1 ++ [v] := by rw [← ex, List.replicate_succ', List.append_assoc]
      rw [eh] at hp lh hn
      rw [ex] at hp lw hn
      have EH := Lib.hid eh2
      have EX := Lib.hid ex2
      have HN := Lib.hid hn
      clear eh ex eh2 ex2 hn
      go_wp2_with (first
        | (at_builtin; refine wpList_append_near rfl (.tmp 24) (.tmp 26) 22 rfl 0 3 (.int .i64 0) 1 8 Try.underlying22 Mem.info_i64 rfl (by decide) hv hs1.length (ints .i64 hs1) rfl (own_upd hp.homes ((Upd.refl (fun _ => False) wr).alloc _) (fun _ _ => id)) ⟨wr.heap.size, 0, none⟩ 1 1 [.int .i64 home] rfl rfl (cell_new1 _ _ _) (one_cell rfl) (by unfold maxLen; omega) (by omega) (Nat.zero_le _) ?_; intro hv2 w2 hown2 hg2 near2; rw [ints_snoc] at hown2; have u2 := Upd.grown hg2; have tp2 : Row w2 p [.int .i64 k, hv, wv] := (hp.top.alloc _).upd u2 (fun e => (hp.hl _ e).2 rfl); have wd2 : w2.ownsRow 0 27 1 wv xs1.length (ints .u32 xs1) := own_upd (own_upd hp.words ((Upd.refl (fun _ => False) wr).alloc _) (fun _ _ => id)) u2 (fun b hb e => hp.apart b e hb); have s1 := tp2.cell (i := 1) rfl; have z1 := tp2.frozen 1; obtain ⟨ha, hcap, rfl⟩ := owned_len1 hown2; have tp3 := tp2.set 1 (.slice ha (hs1.length + 1) hcap); have s2 := tp3.cell (i := 2) rfl; clear hg2)
        | (at_builtin; refine wpList_append_near rfl (.tmp 34) (.tmp 36) 55 rfl 0 27 (.int .u32 0) 1 4 Try.underlying55 info_u32 rfl (by decide) wv xs1.length (ints .u32 xs1) rfl (own_upd (own_upd wd2 (Upd.one w2 p 1 (.slice ha (hs1.length + 1) hcap)) (fun b hb e => (hp.wl b hb).2 e)) ((Upd.refl (fun _ => False) _).alloc _) (fun _ _ => id)) ⟨w2.heap.size, 0, none⟩ 1 1 [.int .u32 v] rfl rfl (cell_newAt _ _ _ _ (by simp)) (one_cell rfl) (by unfold maxLen; omega) (by omega) (Nat.zero_le _) ?_; intro wv2 w3 hown3 hg3 near3; rw [ints_snoc] at hown3; have u3 := Upd.grown hg3; have tp4 : Row w3 p [.int .i64 k, .slice ha (hs1.length + 1) hcap, wv] := (tp3.alloc _).upd u3 (fun e => (hp.wl _ e).2 rfl); have y2 := tp4.cell (i := 2) rfl; have z2 := tp4.frozen 2; obtain ⟨va, vcap, rfl⟩ := owned_len1 hown3; clear hg3))
      have hha : ∀ b, (Value.slice ha (hs1.length + 1) hcap).ownBlock = some b → (S1 b ∨ wr.heap.size ≤ b) ∧ b ≠ p ∧ wv.ownBlock ≠ some b ∧ b < w2.heap.size := by
        intro b hb
        have hb2 := (own_lt hown2 hb).1
        rcases near2 with e | ⟨g, hg, e⟩
        · rw [e] at hb
          exact ⟨.inl (hp.hl b hb).1, (hp.hl b hb).2, hp.apart b hb, hb2⟩
        · rw [e] at hb
          simp only [Option.some.injEq] at hb
          subst hb
          simp at hg
          exact ⟨.inr (by omega), by omega, fun e2 => by have := hwl _ e2; omega, hb2⟩
      have z2s : w2.heap.size + 1 ≤ w3.heap.size := by have := u3.size; simpa using this
      have hva : ∀ b, (Value.slice va (xs1.length + 1) vcap).ownBlock = some b → (S1 b ∨ wr.heap.size ≤ b) ∧ b ≠ p ∧ (Value.slice ha (hs1.length + 1) hcap).ownBlock ≠ some b ∧ b < w3.heap.size := by
        intro b hb
        have hb2 := (own_lt hown3 hb).1
        have w2s : wr.heap.size + 1 ≤ w2.heap.size := by have := u2.size; simpa using this
        rcases near3 with e | ⟨g, hg, e⟩
        · rw [e] at hb
          exact ⟨.inl (hp.wl b hb).1, (hp.wl b hb).2, fun e2 => (hha b e2).2.2.1 hb, hb2⟩
        · rw [e] at hb
          simp only [Option.some.injEq] at hb
          subst hb
          simp at hg
          exact ⟨.inr (by omega), by omega, fun e2 => by have := (hha _ e2).2.2.2; omega, hb2⟩
      have U1 : Upd S1 wr (w3.setCell ⟨p, 2, none⟩ (.slice va (xs1.length + 1) vcap)) :=
        (((((((Upd.refl S1 wr).alloc _).trans (u2.mono fun i _ e => (hp.hl i e).1)).setCell (p := ⟨p, 1, none⟩) (.inl hp.sp) (.slice ha (hs1.length + 1) hcap)).alloc _).trans (u3.mono fun i _ e => (hp.wl i e).1)).setCell (p := ⟨p, 2, none⟩) (.inl hp.sp) (.slice va (xs1.length + 1) vcap))
      have zr : wr.heap.size ≤ w3.heap.size := by have := U1.size; simpa using this
      have hup : Upd (fun b => b = p) w3 (w3.setCell ⟨p, 2, none⟩ (.slice va (xs1.length + 1) vcap)) := Upd.one _ _ _ _
      go_roundw
      case rel =>
        refine ⟨j + 1, by omega, by go_num, fun b => S1 b ∨ (wr.heap.size ≤ b ∧ b < w3.heap.size), ?_, hu.then U1 (fun i hi h1 => by rcases hS1 i h1 with e | e; exact e; omega), fun b hb => ?_⟩
        · rw [EH.out, EX.out]
          refine ⟨⟨_, _, tp4.set 2 _, ?_, ?_, .inl hp.sp, ?_, ?_, ?_⟩, ?_, by simp [HN.out]⟩
          · have hh := own_upd (own_upd (own_upd (own_upd hown2 (Upd.one w2 p 1 (.slice ha (hs1.length + 1) hcap)) (fun b hb e => (hha b hb).2.1 e)) ((Upd.refl (fun _ => False) _).alloc _) (fun _ _ => id)) u3 (fun b hb e => (hha b hb).2.2.1 e)) hup (fun b hb e => (hha b hb).2.1 e)
            simpa using hh
          · have hh := own_upd hown3 hup (fun b hb e => (hva b hb).2.1 e)
            simpa using hh
          · intro b hb
            obtain ⟨q1, q2, q3, q4⟩ := hha b hb
            exact ⟨by rcases q1 with e | e; exact .inl e; exact .inr ⟨e, by omega⟩, q2⟩
          · intro b hb
            obtain ⟨q1, q2, q3, q4⟩ := hva b hb
            exact ⟨by rcases q1 with e | e; exact .inl e; exact .inr ⟨e, q4⟩, q2⟩
          · intro b hb e
            exact (hva b e).2.2.1 hb
          · intro b hb
            rcases hb with e | e
            · have := hl b e; simp; omega
            · simpa using e.2
        · rcases hb with e | e
          · exact hS1 b e
          · have := hu.size; exact .inr (by omega)
      case measure => simp [intOf]; omega
    · obtain rfl : j = c := by omega
      go_wp2_with fail
      go_ret
      exact ⟨rfl, S1, hO, hu, hS1⟩
set_option maxHeartbeats 8000000 in
set_option maxRecDepth 100000 in
theorem row_big (w : World) (p : Nat) (S : Nat → Prop) (k : Int) (hs xs : List Int) (h : O w p S k hs xs) (hx : xs.length ≤ 1000000) (n : Int) (n1 : 4097 < n) (c : Nat) (hc : c = 4097) (home v : Int) :
    Calls Try.prog 11 #[.pointer (some ⟨p, 0, none⟩), .int .i64 n, .int .i64 home, .int .u32 v] w fun e w' => e = .returned (.int .i64 xs.length) ∧
      ∃ S', O w' p S' k (hs ++ List.replicate c home) (xs ++ List.replicate c v) ∧ Upd S w w' ∧ (∀ b, S' b → S b ∨ w.heap.size ≤ b) := by
  have hlen := h.len
  obtain ⟨⟨hv0, wv0, hp0⟩, hl0, -⟩ := id h
  have q2 := hp0.top.cell (i := 2) rfl
  obtain ⟨wa, wc, hwv⟩ := owned_len1 hp0.words
  rw [hwv] at q2
  have n0' : 0 < n := by omega
  have cb : c ≤ 4097 := by omega
  have HC := Lib.hid hc
  clear hc
  have HLEN := Lib.hid hlen
  clear hlen hp0 hl0 hwv
  go_enter Try.func11, Try.ntmps11
  go_wp2_with fail
  go_loopw [18] (fun i wr => ∃ j : Nat, j ≤ c ∧ i = .int .i64 j ∧ ∃ S', O wr p S' k (hs ++ List.replicate j home) (xs ++ List.replicate j v) ∧ Upd S w wr ∧ (∀ b, S' b → S b ∨ w.heap.size ≤ b)) (fun i _ => c - (intOf i).toNat)
  case atStart => exact ⟨0, Nat.zero_le _, rfl, S, by simpa using h, Upd.refl _ _, fun _ hb => .inl hb⟩
  case round =>
    obtain ⟨j, hj, rfl, S1, hO, hu, hS1⟩ := hrel
    by_cases hlt : j < c
    · obtain ⟨⟨hv, wv, hp⟩, hl, hn⟩ := hO
      have t1 := hp.top.cell (i := 1) rfl
      have pl := hl _ hp.sp
      have hhl : ∀ b, hv.ownBlock = some b → b < wr.heap.size := fun b hb => (own_lt hp.homes hb).1
      have hwl : ∀ b, wv.ownBlock = some b → b < wr.heap.size := fun b hb => (own_lt hp.words hb).1
      have lh : (hs ++ List.replicate j home).length ≤ 2000000 := by have := HLEN.out; simp; omega
      have lw : (xs ++ List.replicate j v).length ≤ 2000000 := by simp; omega
      have hlt' : (j : Int) < 4097 := by have := HC.out; omega
      obtain ⟨hs1, eh⟩ : ∃ y, hs ++ List.replicate j home = y := ⟨_, rfl⟩
      obtain ⟨xs1, ex⟩ : ∃ y, xs ++ List.replicate j v = y := ⟨_, rfl⟩
      have eh2 : hs ++ List.replicate (j + 1) home = hs1 ++ [home] := by rw [← eh, List.replicate_succ', List.append_assoc]
      have ex2 : xs ++ List.replicate (j + 1) v = xs1 ++ [v] := by rw [← ex, List.replicate_succ', List.append_assoc]
      rw [eh] at hp lh hn
      rw [ex] at hp lw hn
      have EH := Lib.hid eh2
      have EX := Lib.hid ex2
      have HN := Lib.hid hn
      clear eh ex eh2 ex2 hn
      go_wp2_with (first
        | (at_builtin; refine wpList_append_near rfl (.tmp 24) (.tmp 26) 22 rfl 0 3 (.int .i64 0) 1 8 Try.underlying22 Mem.info_i64 rfl (by decide) hv hs1.length (ints .i64 hs1) rfl (own_upd hp.homes ((Upd.refl (fun _ => False) wr).alloc _) (fun _ _ => id)) ⟨wr.heap.size, 0, none⟩ 1 1 [.int .i64 home] rfl rfl (cell_new1 _ _ _) (one_cell rfl) (by unfold maxLen; omega) (by omega) (Nat.zero_le _) ?_; intro hv2 w2 hown2 hg2 near2; rw [ints_snoc] at hown2; have u2 := Upd.grown hg2; have tp2 : Row w2 p [.int .i64 k, hv, wv] := (hp.top.alloc _).upd u2 (fun e => (hp.hl _ e).2 rfl); have wd2 : w2.ownsRow 0 27 1 wv xs1.length (ints .u32 xs1) := own_upd (own_upd hp.words ((Upd.refl (fun _ => False) wr).alloc _) (fun _ _ => id)) u2 (fun b hb e => hp.apart b e hb); have s1 := tp2.cell (i := 1) rfl; have z1 := tp2.frozen 1; obtain ⟨ha, hcap, rfl⟩ := owned_len1 hown2; have tp3 := tp2.set 1 (.slice ha (hs1.length + 1) hcap); have s2 := tp3.cell (i := 2) rfl; clear hg2)
        | (at_builtin; refine wpList_append_near rfl (.tmp 34) (.tmp 36) 55 rfl 0 27 (.int .u32 0) 1 4 Try.underlying55 info_u32 rfl (by decide) wv xs1.length (ints .u32 xs1) rfl (own_upd (own_upd wd2 (Upd.one w2 p 1 (.slice ha (hs1.length + 1) hcap)) (fun b hb e => (hp.wl b hb).2 e)) ((Upd.refl (fun _ => False) _).alloc _) (fun _ _ => id)) ⟨w2.heap.size, 0, none⟩ 1 1 [.int .u32 v] rfl rfl (cell_newAt _ _ _ _ (by simp)) (one_cell rfl) (by unfold maxLen; omega) (by omega) (Nat.zero_le _) ?_; intro wv2 w3 hown3 hg3 near3; rw [ints_snoc] at hown3; have u3 := Upd.grown hg3; have tp4 : Row w3 p [.int .i64 k, .slice ha (hs1.length + 1) hcap, wv] := (tp3.alloc _).upd u3 (fun e => (hp.wl _ e).2 rfl); have y2 := tp4.cell (i := 2) rfl; have z2 := tp4.frozen 2; obtain ⟨va, vcap, rfl⟩ := owned_len1 hown3; clear hg3))
      have hha : ∀ b, (Value.slice ha (hs1.length + 1) hcap).ownBlock = some b → (S1 b ∨ wr.heap.size ≤ b) ∧ b ≠ p ∧ wv.ownBlock ≠ some b ∧ b < w2.heap.size := by
        intro b hb
        have hb2 := (own_lt hown2 hb).1
        rcases near2 with e | ⟨g, hg, e⟩
        · rw [e] at hb
          exact ⟨.inl (hp.hl b hb).1, (hp.hl b hb).2, hp.apart b hb, hb2⟩
        · rw [e] at hb
          simp only [Option.some.injEq] at hb
          subst hb
          simp at hg
          exact ⟨.inr (by omega), by omega, fun e2 => by have := hwl _ e2; omega, hb2⟩
      have z2s : w2.heap.size + 1 ≤ w3.heap.size := by have := u3.size; simpa using this
      have hva : ∀ b, (Value.slice va (xs1.length + 1) vcap).ownBlock = some b → (S1 b ∨ wr.heap.size ≤ b) ∧ b ≠ p ∧ (Value.slice ha (hs1.length + 1) hcap).ownBlock ≠ some b ∧ b < w3.heap.size := by
        intro b hb
        have hb2 := (own_lt hown3 hb).1
        have w2s : wr.heap.size + 1 ≤ w2.heap.size := by have := u2.size; simpa using this
        rcases near3 with e | ⟨g, hg, e⟩
        · rw [e] at hb
          exact ⟨.inl (hp.wl b hb).1, (hp.wl b hb).2, fun e2 => (hha b e2).2.2.1 hb, hb2⟩
        · rw [e] at hb
          simp only [Option.some.injEq] at hb
          subst hb
          simp at hg
          exact ⟨.inr (by omega), by omega, fun e2 => by have := (hha _ e2).2.2.2; omega, hb2⟩
      have U1 : Upd S1 wr (w3.setCell ⟨p, 2, none⟩ (.slice va (xs1.length + 1) vcap)) :=
        (((((((Upd.refl S1 wr).alloc _).trans (u2.mono fun i _ e => (hp.hl i e).1)).setCell (p := ⟨p, 1, none⟩) (.inl hp.sp) (.slice ha (hs1.length + 1) hcap)).alloc _).trans (u3.mono fun i _ e => (hp.wl i e).1)).setCell (p := ⟨p, 2, none⟩) (.inl hp.sp) (.slice va (xs1.length + 1) vcap))
      have zr : wr.heap.size ≤ w3.heap.size := by have := U1.size; simpa using this
      have hup : Upd (fun b => b = p) w3 (w3.setCell ⟨p, 2, none⟩ (.slice va (xs1.length + 1) vcap)) := Upd.one _ _ _ _
      go_roundw
      case rel =>
        refine ⟨j + 1, by omega, by go_num, fun b => S1 b ∨ (wr.heap.size ≤ b ∧ b < w3.heap.size), ?_, hu.then U1 (fun i hi h1 => by rcases hS1 i h1 with e | e; exact e; omega), fun b hb => ?_⟩
        · rw [EH.out, EX.out]
          refine ⟨⟨_, _, tp4.set 2 _, ?_, ?_, .inl hp.sp, ?_, ?_, ?_⟩, ?_, by simp [HN.out]⟩
          · have hh := own_upd (own_upd (own_upd (own_upd hown2 (Upd.one w2 p 1 (.slice ha (hs1.length + 1) hcap)) (fun b hb e => (hha b hb).2.1 e)) ((Upd.refl (fun _ => False) _).alloc _) (fun _ _ => id)) u3 (fun b hb e => (hha b hb).2.2.1 e)) hup (fun b hb e => (hha b hb).2.1 e)
            simpa using hh
          · have hh := own_upd hown3 hup (fun b hb e => (hva b hb).2.1 e)
            simpa using hh
          · intro b hb
            obtain ⟨q1, q2, q3, q4⟩ := hha b hb
            exact ⟨by rcases q1 with e | e; exact .inl e; exact .inr ⟨e, by omega⟩, q2⟩
          · intro b hb
            obtain ⟨q1, q2, q3, q4⟩ := hva b hb
            exact ⟨by rcases q1 with e | e; exact .inl e; exact .inr ⟨e, q4⟩, q2⟩
          · intro b hb e
            exact (hva b e).2.2.1 hb
          · intro b hb
            rcases hb with e | e
            · have := hl b e; simp; omega
            · simpa using e.2
        · rcases hb with e | e
          · exact hS1 b e
          · have := hu.size; exact .inr (by omega)
      case measure => simp [intOf]; omega
    · have hge : (4097 : Int) ≤ j := by have := HC.out; omega
      obtain rfl : j = c := by omega
      go_wp2_with fail
      go_ret
      exact ⟨rfl, S1, hO, hu, hS1⟩
theorem row_none (w : World) (p : Nat) (S : Nat → Prop) (k : Int) (hs xs : List Int) (h : O w p S k hs xs) (n : Int) (hn : n ≤ 0) (home v : Int) :
    Calls Try.prog 11 #[.pointer (some ⟨p, 0, none⟩), .int .i64 n, .int .i64 home, .int .u32 v] w fun e w' => e = .returned (.int .i64 xs.length) ∧ w = w' := by
  obtain ⟨⟨hv0, wv0, hp0⟩, hl0, -⟩ := id h
  have q2 := hp0.top.cell (i := 2) rfl
  obtain ⟨wa, wc, hwv⟩ := owned_len1 hp0.words
  rw [hwv] at q2
  clear hp0 hl0 hwv
  rcases (by omega : n < 0 ∨ n = 0) with n0 | rfl
  · go_enter Try.func11, Try.ntmps11
    go_wp2_with fail
    refine wp_loop_rounds 1 ?_
    rw [rounds_succ]
    go_wp2_with fail
    go_ret
    exact ⟨rfl, rfl⟩
  · go_enter Try.func11, Try.ntmps11
    go_wp2_with fail
    refine wp_loop_rounds 1 ?_
    rw [rounds_succ]
    go_wp2_with fail
    go_ret
    exact ⟨rfl, rfl⟩
theorem rowPl (w : World) (p : Nat) (S : Nat → Prop) (k : Int) (hs xs : List Int) (h : O w p S k hs xs) (hx : xs.length ≤ 1000000) (n home v : Int) :
    Calls Try.prog 11 #[.pointer (some ⟨p, 0, none⟩), .int .i64 n, .int .i64 home, .int .u32 v] w fun e w' => e = .returned (.int .i64 xs.length) ∧
      ∃ S', O w' p S' k (hs ++ List.replicate (cnt n) home) (xs ++ List.replicate (cnt n) v) ∧ Upd S w w' ∧ (∀ b, S' b → S b ∨ w.heap.size ≤ b) := by
  by_cases h0 : n ≤ 0
  · have e : cnt n = 0 := by unfold cnt; omega
    rw [e]
    exact (row_none w p S k hs xs h n h0 home v).mono fun e w' ⟨he, hw⟩ => ⟨he, S, by subst hw; simpa using h, hw ▸ Upd.refl _ _, fun _ hb => .inl hb⟩
  by_cases h1 : 4097 < n
  · have e : cnt n = 4097 := by unfold cnt; omega
    rw [e]
    exact row_big w p S k hs xs h hx n h1 4097 rfl home v
  obtain ⟨c, rfl⟩ := Int.eq_ofNat_of_zero_le (show 0 ≤ n by omega)
  have e : cnt c = c := by unfold cnt; omega
  rw [e]
  exact row_mid w p S k hs xs h hx c (by omega) (by omega) home v
theorem wordPl (w : World) (p : Nat) (S : Nat → Prop) (k : Int) (hs xs : List Int) (h : O w p S k hs xs) (hx : xs.length ≤ 1000000) (home v : Int) :
    Calls Try.prog 35 #[.pointer (some ⟨p, 0, none⟩), .int .i64 home, .int .u32 v] w fun e w' => e = .returned (.int .i64 xs.length) ∧
      ∃ S', O w' p S' k (hs ++ [home]) (xs ++ [v]) ∧ Upd S w w' ∧ (∀ b, S' b → S b ∨ w.heap.size ≤ b) := by
  have K := rowPl w p S k hs xs h hx 1 home v
  rw [show cnt 1 = 1 from rfl] at K
  have HK := Lib.hid K
  clear K
  go_enter Try.func35, Try.ntmps35
  go_wp2_with fail
  refine HK.out.mono ?_
  rintro e w' ⟨rfl, S', h', hu, hS⟩
  go_wp2
  go_ret
  exact ⟨rfl, S', h', hu, hS⟩
end Go.Proofs.Ytlkpfdboagjaoaa.Plan
