/- The document's plan: Row, walked. -/
import Derived.Test.YtoddbjmkdhaklaaPlan
namespace Go.Proofs.Ytoddbjmkdhaklaa.Ref05
open Go Go.RowKit Go.Proofs.Ytoddbjmkdhaklaa.Heap Go.Proofs.Ytoddbjmkdhaklaa.Open Go.Proofs.Ytoddbjmkdhaklaa.Mem Go.Proofs.Ytoddbjmkdhaklaa.Plan

/-- A document's plan by value: two slices of one's own, in S. -/
structure Val (w : World) (S : Nat → Prop) (hs xs : List Int) (hv wv : Value) : Prop where
  homes : w.ownsRow 0 3 1 hv hs.length (ints .i64 hs)
  words : w.ownsRow 0 22 1 wv xs.length (ints .u32 xs)
  hl : ∀ b, hv.ownBlock = some b → S b
  wl : ∀ b, wv.ownBlock = some b → S b
  apart : ∀ b, hv.ownBlock = some b → wv.ownBlock ≠ some b
  len : hs.length = xs.length
theorem Val.keep {U S : Nat → Prop} {w w' : World} {hs xs : List Int} {hv wv : Value} (h : Val w S hs xs hv wv) (hu : Upd U w w') (hd : ∀ b, S b → ¬ U b) : Val w' S hs xs hv wv :=
  ⟨own_upd h.homes hu (fun b hb => hd b (h.hl b hb)), own_upd h.words hu (fun b hb => hd b (h.wl b hb)), h.hl, h.wl, h.apart, h.len⟩
/-- How many words. -/
def cnt5 (n : Int) : Nat := (if 4096 < n then 4097 else n).toNat
theorem cnt5_eq (n : Int) : cnt5 n = cnt n := by unfold cnt5 cnt; split <;> omega
set_option maxHeartbeats 8000000 in
set_option maxRecDepth 100000 in
theorem rowRef_a (w : World) (S : Nat → Prop) (hs xs : List Int) (hv0 wv0 : Value) (h : Val w S hs xs hv0 wv0) (hx : xs.length ≤ 1000000) (n : Int) (n1 : n ≤ 4096) (c : Nat) (hc : c = n.toNat) (home v : Int) :
    Calls Try.prog 12 #[.agg #[hv0, wv0], .int .i64 n, .int .i64 home, .int .u32 v] w fun e w' => ∃ hv wv, e = .returned (.tuple #[.agg #[hv, wv], .int .i64 xs.length]) ∧
      ∃ S', Val w' S' (hs ++ List.replicate c home) (xs ++ List.replicate c v) hv wv ∧ Upd S w w' ∧ (∀ b, S' b → S b ∨ w.heap.size ≤ b) := by
  have c1 : c ≤ 4097 := by omega
  have c2 : ∀ j : Nat, j < c → (j : Int) < n := fun j hj => by omega
  have c3 : n ≤ (c : Int) := by omega
  clear hc
  have hlen := h.len
  have h8 : ∀ b, hv0.ownBlock = some b → b < w.heap.size := fun b hb => (own_lt h.homes hb).1
  have h9 : ∀ b, wv0.ownBlock = some b → b < w.heap.size := fun b hb => (own_lt h.words hb).1
  obtain ⟨ha0, hc0, rfl⟩ := owned_len1 h.homes
  obtain ⟨wa0, wc0, rfl⟩ := owned_len1 h.words
  have HLEN := Lib.hid hlen
  clear hlen
  have B0 : Row ((w.alloc (.cells #[.slice ha0 hs.length hc0, .slice wa0 xs.length wc0] 44)).alloc (.cells #[.slice none 0 0, .slice none 0 0] 44)) w.heap.size [.slice ha0 hs.length hc0, .slice wa0 xs.length wc0] := (Row.new' rfl).alloc _
  have R0 : Row ((w.alloc (.cells #[.slice ha0 hs.length hc0, .slice wa0 xs.length wc0] 44)).alloc (.cells #[.slice none 0 0, .slice none 0 0] 44)) (w.heap.size + 1) [.slice none 0 0, .slice none 0 0] := Row.new' (by simp)
  have U0 : Upd (fun _ => False) w ((w.alloc (.cells #[.slice ha0 hs.length hc0, .slice wa0 xs.length wc0] 44)).alloc (.cells #[.slice none 0 0, .slice none 0 0] 44)) := ((Upd.refl _ _).alloc _).alloc _
  have V0 := h.keep U0 (fun _ _ => id)
  go_enter Try.func12, Try.ntmps12
  go_wp2_with fail
  obtain ⟨B, hB⟩ : ∃ B, w.heap.size = B := ⟨_, rfl⟩
  obtain ⟨W0, hW0⟩ : ∃ W, ((w.alloc (.cells #[.slice ha0 hs.length hc0, .slice wa0 xs.length wc0] 44)).alloc (.cells #[.slice none 0 0, .slice none 0 0] 44)) = W := ⟨_, rfl⟩
  have hS9 : ∀ b, (Value.slice ha0 hs.length hc0).ownBlock = some b ∨ (Value.slice wa0 xs.length wc0).ownBlock = some b → b < B := fun b hb => by rw [← hB]; rcases hb with e | e; exact h8 b e; exact h9 b e
  rw [hW0] at B0 R0 U0 V0 ⊢
  rw [hB] at B0 R0 ⊢
  have HB := Lib.hid hB
  clear hW0 hB h8 h9 h
  go_loopw [11] (fun i wr => ∃ j : Nat, j ≤ c ∧ i = .int .i64 j ∧ ∃ hv wv S', Val wr S' (hs ++ List.replicate j home) (xs ++ List.replicate j v) hv wv ∧ Row wr B [hv, wv] ∧ Row wr (B + 1) [.slice none 0 0, .slice none 0 0] ∧ Upd S w wr ∧ (∀ b, S' b → (S b ∨ B ≤ b) ∧ b ≠ B ∧ b ≠ B + 1)) (fun i _ => c - (intOf i).toNat)
  case atStart => exact ⟨0, Nat.zero_le _, rfl, _, _, fun b => (Value.slice ha0 hs.length hc0).ownBlock = some b ∨ (Value.slice wa0 xs.length wc0).ownBlock = some b, by simpa using (⟨V0.homes, V0.words, fun b hb => .inl hb, fun b hb => .inr hb, V0.apart, V0.len⟩ : Val _ _ hs xs _ _), B0, R0, U0.mono fun _ _ e => e.elim, fun b hb => ⟨.inl (by rcases hb with e | e; exact V0.hl b e; exact V0.wl b e), by have := hS9 b hb; omega, by have := hS9 b hb; omega⟩⟩
  case round =>
    obtain ⟨j, hj, rfl, hv, wv, S1, V, hbx, hrs, hu, hS1⟩ := hrel
    by_cases hlt : j < c
    · have t1 := hbx.cell (i := 0) rfl
      have lh : (hs ++ List.replicate j home).length ≤ 2000000 := by have := HLEN.out; simp; omega
      have lw : (xs ++ List.replicate j v).length ≤ 2000000 := by simp; omega
      have hlt' := c2 j hlt
      have hhl : ∀ b, hv.ownBlock = some b → b < wr.heap.size := fun b hb => (own_lt V.homes hb).1
      have hwl : ∀ b, wv.ownBlock = some b → b < wr.heap.size := fun b hb => (own_lt V.words hb).1
      have bl := hbx.lt
      have rl := hrs.lt
      obtain ⟨hs1, eh⟩ : ∃ y, hs ++ List.replicate j home = y := ⟨_, rfl⟩
      obtain ⟨xs1, ex⟩ : ∃ y, xs ++ List.replicate j v = y := ⟨_, rfl⟩
      have eh2 : hs ++ List.replicate (j + 1) home = hs1 ++ [home] := by rw [← eh, List.replicate_succ', List.append_assoc]
      have ex2 : xs ++ List.replicate (j + 1) v = xs1 ++ [v] := by rw [← ex, List.replicate_succ', List.append_assoc]
      rw [eh] at V lh
      rw [ex] at V lw
      have EH := Lib.hid eh2
      have EX := Lib.hid ex2
      clear eh ex eh2 ex2
      go_wp2_with (first
        | (at_builtin; refine wpList_append_near rfl (.tmp 23) (.tmp 25) 42 rfl 0 3 (.int .i64 0) 1 8 Try.underlying42 Mem.info_i64 rfl (by decide) hv hs1.length (ints .i64 hs1) rfl (own_upd V.homes ((Upd.refl (fun _ => False) wr).alloc _) (fun _ _ => id)) ⟨wr.heap.size, 0, none⟩ 1 1 [.int .i64 home] rfl rfl (cell_new1 _ _ _) (one_cell rfl) (by unfold maxLen; omega) (by omega) (Nat.zero_le _) ?_; intro hv2 w2 hown2 hg2 near2; rw [ints_snoc] at hown2; have u2 := Upd.grown hg2; have tp2 : Row w2 B [hv, wv] := (hbx.alloc _).upd u2 (fun e => (hS1 _ (V.hl _ e)).2.1 rfl); have rs2 := (hrs.alloc (.cells #[.int .i64 home] 3)).upd u2 (fun e => (hS1 _ (V.hl _ e)).2.2 rfl); have wd2 : w2.ownsRow 0 22 1 wv xs1.length (ints .u32 xs1) := own_upd (own_upd V.words ((Upd.refl (fun _ => False) wr).alloc _) (fun _ _ => id)) u2 (fun b hb e => V.apart b e hb); have s1 := tp2.cell (i := 0) rfl; have z1 := tp2.frozen 0; obtain ⟨ha, hcap, rfl⟩ := owned_len1 hown2; have tp3 := tp2.set 0 (.slice ha (hs1.length + 1) hcap); have s2 := tp3.cell (i := 1) rfl; clear hg2)
        | (at_builtin; refine wpList_append_near rfl (.tmp 29) (.tmp 31) 31 rfl 0 22 (.int .u32 0) 1 4 Try.underlying31 info_u32 rfl (by decide) wv xs1.length (ints .u32 xs1) rfl (own_upd (own_upd wd2 (Upd.one w2 B 0 (.slice ha (hs1.length + 1) hcap)) (fun b hb e => (hS1 b (V.wl b hb)).2.1 e)) ((Upd.refl (fun _ => False) _).alloc _) (fun _ _ => id)) ⟨w2.heap.size, 0, none⟩ 1 1 [.int .u32 v] rfl rfl (cell_newAt _ _ _ _ (by simp)) (one_cell rfl) (by unfold maxLen; omega) (by omega) (Nat.zero_le _) ?_; intro wv2 w3 hown3 hg3 near3; rw [ints_snoc] at hown3; have u3 := Upd.grown hg3; have tp4 : Row w3 B [.slice ha (hs1.length + 1) hcap, wv] := (tp3.alloc _).upd u3 (fun e => (hS1 _ (V.wl _ e)).2.1 rfl); have y2 := tp4.cell (i := 1) rfl; have z2 := tp4.frozen 1; obtain ⟨va, vcap, rfl⟩ := owned_len1 hown3; clear hg3))
      have hha : ∀ b, (Value.slice ha (hs1.length + 1) hcap).ownBlock = some b → (S1 b ∨ wr.heap.size ≤ b) ∧ wv.ownBlock ≠ some b ∧ b < w2.heap.size := by
        intro b hb
        have hb2 := (own_lt hown2 hb).1
        rcases near2 with e | ⟨g, hg, e⟩
        · rw [e] at hb
          exact ⟨.inl (V.hl b hb), V.apart b hb, hb2⟩
        · rw [e] at hb
          simp only [Option.some.injEq] at hb
          subst hb
          simp at hg
          exact ⟨.inr (by omega), fun e2 => by have := hwl _ e2; omega, hb2⟩
      have z2s : w2.heap.size + 1 ≤ w3.heap.size := by have := u3.size; simpa using this
      have w2s : wr.heap.size + 1 ≤ w2.heap.size := by have := u2.size; simpa using this
      have hva : ∀ b, (Value.slice va (xs1.length + 1) vcap).ownBlock = some b → (S1 b ∨ wr.heap.size ≤ b) ∧ (Value.slice ha (hs1.length + 1) hcap).ownBlock ≠ some b ∧ b < w3.heap.size := by
        intro b hb
        have hb2 := (own_lt hown3 hb).1
        rcases near3 with e | ⟨g, hg, e⟩
        · rw [e] at hb
          exact ⟨.inl (V.wl b hb), fun e2 => (hha b e2).2.1 hb, hb2⟩
        · rw [e] at hb
          simp only [Option.some.injEq] at hb
          subst hb
          simp at hg
          exact ⟨.inr (by omega), fun e2 => by have := (hha _ e2).2.2; omega, hb2⟩
      have hin : ∀ b, S1 b ∨ wr.heap.size ≤ b → (S b ∨ B ≤ b) ∧ b ≠ B ∧ b ≠ B + 1 := fun b hb => by
        rcases hb with e | e
        · exact hS1 b e
        · exact ⟨.inr (by omega), by omega, by omega⟩
      have hSo : ∀ i, i < w.heap.size → S1 i → S i := fun i hi h1 => by
        rcases (hS1 i h1).1 with e | e
        · exact e
        · have := HB.out; omega
      have U1 : Upd S w (w3.setCell ⟨B, 1, none⟩ (.slice va (xs1.length + 1) vcap)) := by
        have a1 := (hu.alloc (.cells #[.int .i64 home] 3)).then u2 (fun i hi e => hSo i hi (V.hl i e))
        have a2 := (a1.setCell (p := ⟨B, 0, none⟩) (.inr (by rw [HB.out]; exact Nat.le_refl _)) (.slice ha (hs1.length + 1) hcap)).alloc (.cells #[.int .u32 v] 22)
        exact (a2.then u3 (fun i hi e => hSo i hi (V.wl i e))).setCell (p := ⟨B, 1, none⟩) (.inr (by rw [HB.out]; exact Nat.le_refl _)) _
      have hup : Upd (fun b => b = B) w3 (w3.setCell ⟨B, 1, none⟩ (.slice va (xs1.length + 1) vcap)) := Upd.one _ _ _ _
      have rs3 : Row w3 (B + 1) [.slice none 0 0, .slice none 0 0] := ((rs2.upd (Upd.one w2 B 0 (.slice ha (hs1.length + 1) hcap)) (by omega)).alloc _).upd u3 (fun e => (hS1 _ (V.wl _ e)).2.2 rfl)
      go_roundw
      case rel =>
        refine ⟨j + 1, by omega, by go_num, .slice ha (hs1.length + 1) hcap, .slice va (xs1.length + 1) vcap, fun b => S1 b ∨ wr.heap.size ≤ b, ?_, tp4.set 1 _, rs3.upd hup (by omega), U1, hin⟩
        rw [EH.out, EX.out]
        have hh := own_upd (own_upd (own_upd (own_upd hown2 (Upd.one w2 B 0 (.slice ha (hs1.length + 1) hcap)) (fun b hb e => (hin b (hha b hb).1).2.1 e)) ((Upd.refl (fun _ => False) _).alloc _) (fun _ _ => id)) u3 (fun b hb e => (hha b hb).2.1 e)) hup (fun b hb e => (hin b (hha b hb).1).2.1 e)
        have hh2 := own_upd hown3 hup (fun b hb e => (hin b (hva b hb).1).2.1 e)
        exact ⟨by simpa using hh, by simpa using hh2, fun b hb => (hha b hb).1, fun b hb => (hva b hb).1, fun b hb e => (hva b e).2.1 hb, by simp [V.len]⟩
      case measure => simp [intOf]; omega
    · obtain rfl : j = c := by omega
      have t0 := hbx.cell (i := 0) rfl
      have t1 := hbx.cell (i := 1) rfl
      have d0 := hrs.cell (i := 0) rfl
      have d1 := hrs.cell (i := 1) rfl
      have f0 := hrs.frozen 0
      have f1 := hrs.frozen 1
      obtain ⟨ha, hcap, rfl⟩ := owned_len1 V.homes
      obtain ⟨va, vcap, rfl⟩ := owned_len1 V.words
      go_wp2_with fail
      have hin : ∀ b, S1 b → (S b ∨ B ≤ b) ∧ b ≠ B ∧ b ≠ B + 1 := hS1
      have ue : Upd (fun b => b = B + 1) wr ((wr.setCell ⟨B + 1, 0, none⟩ (.slice ha (hs.length + j) hcap)).setCell ⟨B + 1, 1, none⟩ (.slice va (xs.length + j) vcap)) := ((Upd.refl (fun b => b = B + 1) wr).setCell (p := ⟨B + 1, 0, none⟩) (.inl rfl) _).setCell (p := ⟨B + 1, 1, none⟩) (.inl rfl) _
      have hr2 := (hrs.set 0 (.slice ha (hs.length + j) hcap)).set 1 (.slice va (xs.length + j) vcap)
      have e0 := hr2.cell (i := 0) rfl
      have e1 := hr2.cell (i := 1) rfl
      have hu2 : Upd S w ((wr.setCell ⟨B + 1, 0, none⟩ (.slice ha (hs.length + j) hcap)).setCell ⟨B + 1, 1, none⟩ (.slice va (xs.length + j) vcap)) := (hu.setCell (p := ⟨B + 1, 0, none⟩) (.inr (by rw [HB.out]; exact Nat.le_succ _)) _).setCell (p := ⟨B + 1, 1, none⟩) (.inr (by rw [HB.out]; exact Nat.le_succ _)) _
      have V2 := V.keep ue (fun b hb e => (hS1 b hb).2.2 e)
      refine bodyPost_ret (v := .tuple #[.agg #[.slice ha (hs.length + j) hcap, .slice va (xs.length + j) vcap], .int .i64 xs.length]) (by simp [results, Try.results12, go_sem, e0, e1]) rfl ?_
      exact ⟨_, _, rfl, S1, by simpa using V2, hu2, fun b hb => by rw [HB.out]; exact (hS1 b hb).1⟩
set_option maxHeartbeats 8000000 in
set_option maxRecDepth 100000 in
theorem rowRef_b (w : World) (S : Nat → Prop) (hs xs : List Int) (hv0 wv0 : Value) (h : Val w S hs xs hv0 wv0) (hx : xs.length ≤ 1000000) (n : Int) (n1 : 4096 < n) (c : Nat) (hc : c = 4097) (home v : Int) :
    Calls Try.prog 12 #[.agg #[hv0, wv0], .int .i64 n, .int .i64 home, .int .u32 v] w fun e w' => ∃ hv wv, e = .returned (.tuple #[.agg #[hv, wv], .int .i64 xs.length]) ∧
      ∃ S', Val w' S' (hs ++ List.replicate c home) (xs ++ List.replicate c v) hv wv ∧ Upd S w w' ∧ (∀ b, S' b → S b ∨ w.heap.size ≤ b) := by
  have c1 : c ≤ 4097 := by omega
  have c2 : ∀ j : Nat, j < c → (j : Int) < 4097 := fun j hj => by omega
  have c3 : 4097 ≤ (c : Int) := by omega
  clear hc
  have hlen := h.len
  have h8 : ∀ b, hv0.ownBlock = some b → b < w.heap.size := fun b hb => (own_lt h.homes hb).1
  have h9 : ∀ b, wv0.ownBlock = some b → b < w.heap.size := fun b hb => (own_lt h.words hb).1
  obtain ⟨ha0, hc0, rfl⟩ := owned_len1 h.homes
  obtain ⟨wa0, wc0, rfl⟩ := owned_len1 h.words
  have HLEN := Lib.hid hlen
  clear hlen
  have B0 : Row ((w.alloc (.cells #[.slice ha0 hs.length hc0, .slice wa0 xs.length wc0] 44)).alloc (.cells #[.slice none 0 0, .slice none 0 0] 44)) w.heap.size [.slice ha0 hs.length hc0, .slice wa0 xs.length wc0] := (Row.new' rfl).alloc _
  have R0 : Row ((w.alloc (.cells #[.slice ha0 hs.length hc0, .slice wa0 xs.length wc0] 44)).alloc (.cells #[.slice none 0 0, .slice none 0 0] 44)) (w.heap.size + 1) [.slice none 0 0, .slice none 0 0] := Row.new' (by simp)
  have U0 : Upd (fun _ => False) w ((w.alloc (.cells #[.slice ha0 hs.length hc0, .slice wa0 xs.length wc0] 44)).alloc (.cells #[.slice none 0 0, .slice none 0 0] 44)) := ((Upd.refl _ _).alloc _).alloc _
  have V0 := h.keep U0 (fun _ _ => id)
  go_enter Try.func12, Try.ntmps12
  go_wp2_with fail
  obtain ⟨B, hB⟩ : ∃ B, w.heap.size = B := ⟨_, rfl⟩
  obtain ⟨W0, hW0⟩ : ∃ W, ((w.alloc (.cells #[.slice ha0 hs.length hc0, .slice wa0 xs.length wc0] 44)).alloc (.cells #[.slice none 0 0, .slice none 0 0] 44)) = W := ⟨_, rfl⟩
  have hS9 : ∀ b, (Value.slice ha0 hs.length hc0).ownBlock = some b ∨ (Value.slice wa0 xs.length wc0).ownBlock = some b → b < B := fun b hb => by rw [← hB]; rcases hb with e | e; exact h8 b e; exact h9 b e
  rw [hW0] at B0 R0 U0 V0 ⊢
  rw [hB] at B0 R0 ⊢
  have HB := Lib.hid hB
  clear hW0 hB h8 h9 h
  go_loopw [11] (fun i wr => ∃ j : Nat, j ≤ c ∧ i = .int .i64 j ∧ ∃ hv wv S', Val wr S' (hs ++ List.replicate j home) (xs ++ List.replicate j v) hv wv ∧ Row wr B [hv, wv] ∧ Row wr (B + 1) [.slice none 0 0, .slice none 0 0] ∧ Upd S w wr ∧ (∀ b, S' b → (S b ∨ B ≤ b) ∧ b ≠ B ∧ b ≠ B + 1)) (fun i _ => c - (intOf i).toNat)
  case atStart => exact ⟨0, Nat.zero_le _, rfl, _, _, fun b => (Value.slice ha0 hs.length hc0).ownBlock = some b ∨ (Value.slice wa0 xs.length wc0).ownBlock = some b, by simpa using (⟨V0.homes, V0.words, fun b hb => .inl hb, fun b hb => .inr hb, V0.apart, V0.len⟩ : Val _ _ hs xs _ _), B0, R0, U0.mono fun _ _ e => e.elim, fun b hb => ⟨.inl (by rcases hb with e | e; exact V0.hl b e; exact V0.wl b e), by have := hS9 b hb; omega, by have := hS9 b hb; omega⟩⟩
  case round =>
    obtain ⟨j, hj, rfl, hv, wv, S1, V, hbx, hrs, hu, hS1⟩ := hrel
    by_cases hlt : j < c
    · have t1 := hbx.cell (i := 0) rfl
      have lh : (hs ++ List.replicate j home).length ≤ 2000000 := by have := HLEN.out; simp; omega
      have lw : (xs ++ List.replicate j v).length ≤ 2000000 := by simp; omega
      have hlt' := c2 j hlt
      have hhl : ∀ b, hv.ownBlock = some b → b < wr.heap.size := fun b hb => (own_lt V.homes hb).1
      have hwl : ∀ b, wv.ownBlock = some b → b < wr.heap.size := fun b hb => (own_lt V.words hb).1
      have bl := hbx.lt
      have rl := hrs.lt
      obtain ⟨hs1, eh⟩ : ∃ y, hs ++ List.replicate j home = y := ⟨_, rfl⟩
      obtain ⟨xs1, ex⟩ : ∃ y, xs ++ List.replicate j v = y := ⟨_, rfl⟩
      have eh2 : hs ++ List.replicate (j + 1) home = hs1 ++ [home] := by rw [← eh, List.replicate_succ', List.append_assoc]
      have ex2 : xs ++ List.replicate (j + 1) v = xs1 ++ [v] := by rw [← ex, List.replicate_succ', List.append_assoc]
      rw [eh] at V lh
      rw [ex] at V lw
      have EH := Lib.hid eh2
      have EX := Lib.hid ex2
      clear eh ex eh2 ex2
      go_wp2_with (first
        | (at_builtin; refine wpList_append_near rfl (.tmp 23) (.tmp 25) 42 rfl 0 3 (.int .i64 0) 1 8 Try.underlying42 Mem.info_i64 rfl (by decide) hv hs1.length (ints .i64 hs1) rfl (own_upd V.homes ((Upd.refl (fun _ => False) wr).alloc _) (fun _ _ => id)) ⟨wr.heap.size, 0, none⟩ 1 1 [.int .i64 home] rfl rfl (cell_new1 _ _ _) (one_cell rfl) (by unfold maxLen; omega) (by omega) (Nat.zero_le _) ?_; intro hv2 w2 hown2 hg2 near2; rw [ints_snoc] at hown2; have u2 := Upd.grown hg2; have tp2 : Row w2 B [hv, wv] := (hbx.alloc _).upd u2 (fun e => (hS1 _ (V.hl _ e)).2.1 rfl); have rs2 := (hrs.alloc (.cells #[.int .i64 home] 3)).upd u2 (fun e => (hS1 _ (V.hl _ e)).2.2 rfl); have wd2 : w2.ownsRow 0 22 1 wv xs1.length (ints .u32 xs1) := own_upd (own_upd V.words ((Upd.refl (fun _ => False) wr).alloc _) (fun _ _ => id)) u2 (fun b hb e => V.apart b e hb); have s1 := tp2.cell (i := 0) rfl; have z1 := tp2.frozen 0; obtain ⟨ha, hcap, rfl⟩ := owned_len1 hown2; have tp3 := tp2.set 0 (.slice ha (hs1.length + 1) hcap); have s2 := tp3.cell (i := 1) rfl; clear hg2)
        | (at_builtin; refine wpList_append_near rfl (.tmp 29) (.tmp 31) 31 rfl 0 22 (.int .u32 0) 1 4 Try.underlying31 info_u32 rfl (by decide) wv xs1.length (ints .u32 xs1) rfl (own_upd (own_upd wd2 (Upd.one w2 B 0 (.slice ha (hs1.length + 1) hcap)) (fun b hb e => (hS1 b (V.wl b hb)).2.1 e)) ((Upd.refl (fun _ => False) _).alloc _) (fun _ _ => id)) ⟨w2.heap.size, 0, none⟩ 1 1 [.int .u32 v] rfl rfl (cell_newAt _ _ _ _ (by simp)) (one_cell rfl) (by unfold maxLen; omega) (by omega) (Nat.zero_le _) ?_; intro wv2 w3 hown3 hg3 near3; rw [ints_snoc] at hown3; have u3 := Upd.grown hg3; have tp4 : Row w3 B [.slice ha (hs1.length + 1) hcap, wv] := (tp3.alloc _).upd u3 (fun e => (hS1 _ (V.wl _ e)).2.1 rfl); have y2 := tp4.cell (i := 1) rfl; have z2 := tp4.frozen 1; obtain ⟨va, vcap, rfl⟩ := owned_len1 hown3; clear hg3))
      have hha : ∀ b, (Value.slice ha (hs1.length + 1) hcap).ownBlock = some b → (S1 b ∨ wr.heap.size ≤ b) ∧ wv.ownBlock ≠ some b ∧ b < w2.heap.size := by
        intro b hb
        have hb2 := (own_lt hown2 hb).1
        rcases near2 with e | ⟨g, hg, e⟩
        · rw [e] at hb
          exact ⟨.inl (V.hl b hb), V.apart b hb, hb2⟩
        · rw [e] at hb
          simp only [Option.some.injEq] at hb
          subst hb
          simp at hg
          exact ⟨.inr (by omega), fun e2 => by have := hwl _ e2; omega, hb2⟩
      have z2s : w2.heap.size + 1 ≤ w3.heap.size := by have := u3.size; simpa using this
      have w2s : wr.heap.size + 1 ≤ w2.heap.size := by have := u2.size; simpa using this
      have hva : ∀ b, (Value.slice va (xs1.length + 1) vcap).ownBlock = some b → (S1 b ∨ wr.heap.size ≤ b) ∧ (Value.slice ha (hs1.length + 1) hcap).ownBlock ≠ some b ∧ b < w3.heap.size := by
        intro b hb
        have hb2 := (own_lt hown3 hb).1
        rcases near3 with e | ⟨g, hg, e⟩
        · rw [e] at hb
          exact ⟨.inl (V.wl b hb), fun e2 => (hha b e2).2.1 hb, hb2⟩
        · rw [e] at hb
          simp only [Option.some.injEq] at hb
          subst hb
          simp at hg
          exact ⟨.inr (by omega), fun e2 => by have := (hha _ e2).2.2; omega, hb2⟩
      have hin : ∀ b, S1 b ∨ wr.heap.size ≤ b → (S b ∨ B ≤ b) ∧ b ≠ B ∧ b ≠ B + 1 := fun b hb => by
        rcases hb with e | e
        · exact hS1 b e
        · exact ⟨.inr (by omega), by omega, by omega⟩
      have hSo : ∀ i, i < w.heap.size → S1 i → S i := fun i hi h1 => by
        rcases (hS1 i h1).1 with e | e
        · exact e
        · have := HB.out; omega
      have U1 : Upd S w (w3.setCell ⟨B, 1, none⟩ (.slice va (xs1.length + 1) vcap)) := by
        have a1 := (hu.alloc (.cells #[.int .i64 home] 3)).then u2 (fun i hi e => hSo i hi (V.hl i e))
        have a2 := (a1.setCell (p := ⟨B, 0, none⟩) (.inr (by rw [HB.out]; exact Nat.le_refl _)) (.slice ha (hs1.length + 1) hcap)).alloc (.cells #[.int .u32 v] 22)
        exact (a2.then u3 (fun i hi e => hSo i hi (V.wl i e))).setCell (p := ⟨B, 1, none⟩) (.inr (by rw [HB.out]; exact Nat.le_refl _)) _
      have hup : Upd (fun b => b = B) w3 (w3.setCell ⟨B, 1, none⟩ (.slice va (xs1.length + 1) vcap)) := Upd.one _ _ _ _
      have rs3 : Row w3 (B + 1) [.slice none 0 0, .slice none 0 0] := ((rs2.upd (Upd.one w2 B 0 (.slice ha (hs1.length + 1) hcap)) (by omega)).alloc _).upd u3 (fun e => (hS1 _ (V.wl _ e)).2.2 rfl)
      go_roundw
      case rel =>
        refine ⟨j + 1, by omega, by go_num, .slice ha (hs1.length + 1) hcap, .slice va (xs1.length + 1) vcap, fun b => S1 b ∨ wr.heap.size ≤ b, ?_, tp4.set 1 _, rs3.upd hup (by omega), U1, hin⟩
        rw [EH.out, EX.out]
        have hh := own_upd (own_upd (own_upd (own_upd hown2 (Upd.one w2 B 0 (.slice ha (hs1.length + 1) hcap)) (fun b hb e => (hin b (hha b hb).1).2.1 e)) ((Upd.refl (fun _ => False) _).alloc _) (fun _ _ => id)) u3 (fun b hb e => (hha b hb).2.1 e)) hup (fun b hb e => (hin b (hha b hb).1).2.1 e)
        have hh2 := own_upd hown3 hup (fun b hb e => (hin b (hva b hb).1).2.1 e)
        exact ⟨by simpa using hh, by simpa using hh2, fun b hb => (hha b hb).1, fun b hb => (hva b hb).1, fun b hb e => (hva b e).2.1 hb, by simp [V.len]⟩
      case measure => simp [intOf]; omega
    · obtain rfl : j = c := by omega
      have t0 := hbx.cell (i := 0) rfl
      have t1 := hbx.cell (i := 1) rfl
      have d0 := hrs.cell (i := 0) rfl
      have d1 := hrs.cell (i := 1) rfl
      have f0 := hrs.frozen 0
      have f1 := hrs.frozen 1
      obtain ⟨ha, hcap, rfl⟩ := owned_len1 V.homes
      obtain ⟨va, vcap, rfl⟩ := owned_len1 V.words
      go_wp2_with fail
      have hin : ∀ b, S1 b → (S b ∨ B ≤ b) ∧ b ≠ B ∧ b ≠ B + 1 := hS1
      have ue : Upd (fun b => b = B + 1) wr ((wr.setCell ⟨B + 1, 0, none⟩ (.slice ha (hs.length + j) hcap)).setCell ⟨B + 1, 1, none⟩ (.slice va (xs.length + j) vcap)) := ((Upd.refl (fun b => b = B + 1) wr).setCell (p := ⟨B + 1, 0, none⟩) (.inl rfl) _).setCell (p := ⟨B + 1, 1, none⟩) (.inl rfl) _
      have hr2 := (hrs.set 0 (.slice ha (hs.length + j) hcap)).set 1 (.slice va (xs.length + j) vcap)
      have e0 := hr2.cell (i := 0) rfl
      have e1 := hr2.cell (i := 1) rfl
      have hu2 : Upd S w ((wr.setCell ⟨B + 1, 0, none⟩ (.slice ha (hs.length + j) hcap)).setCell ⟨B + 1, 1, none⟩ (.slice va (xs.length + j) vcap)) := (hu.setCell (p := ⟨B + 1, 0, none⟩) (.inr (by rw [HB.out]; exact Nat.le_succ _)) _).setCell (p := ⟨B + 1, 1, none⟩) (.inr (by rw [HB.out]; exact Nat.le_succ _)) _
      have V2 := V.keep ue (fun b hb e => (hS1 b hb).2.2 e)
      refine bodyPost_ret (v := .tuple #[.agg #[.slice ha (hs.length + j) hcap, .slice va (xs.length + j) vcap], .int .i64 xs.length]) (by simp [results, Try.results12, go_sem, e0, e1]) rfl ?_
      exact ⟨_, _, rfl, S1, by simpa using V2, hu2, fun b hb => by rw [HB.out]; exact (hS1 b hb).1⟩
theorem rowRef (w : World) (S : Nat → Prop) (hs xs : List Int) (hv0 wv0 : Value) (h : Val w S hs xs hv0 wv0) (hx : xs.length ≤ 1000000) (n : Int) (home v : Int) :
    Calls Try.prog 12 #[.agg #[hv0, wv0], .int .i64 n, .int .i64 home, .int .u32 v] w fun e w' => ∃ hv wv, e = .returned (.tuple #[.agg #[hv, wv], .int .i64 xs.length]) ∧
      ∃ S', Val w' S' (hs ++ List.replicate (cnt n) home) (xs ++ List.replicate (cnt n) v) hv wv ∧ Upd S w w' ∧ (∀ b, S' b → S b ∨ w.heap.size ≤ b) := by
  rw [← cnt5_eq]
  by_cases h4 : 4096 < n
  · exact rowRef_b w S hs xs hv0 wv0 h hx n h4 (cnt5 n) (by unfold cnt5; omega) home v
  · exact rowRef_a w S hs xs hv0 wv0 h hx n (by omega) (cnt5 n) (by unfold cnt5; omega) home v
end Go.Proofs.Ytoddbjmkdhaklaa.Ref05
