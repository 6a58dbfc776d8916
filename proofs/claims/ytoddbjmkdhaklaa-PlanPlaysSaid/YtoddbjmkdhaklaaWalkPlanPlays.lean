/- The law PlanPlays, walked: whatever words and rows are laid, the plan has what the document says. -/
import Derived.Test.YtoddbjmkdhaklaaLaw05
import Derived.Test.YtoddbjmkdhaklaaRecs
import Derived.Test.YtoddbjmkdhaklaaRef05
import Derived.Test.YtoddbjmkdhaklaaDo02
namespace Go.Proofs.Ytoddbjmkdhaklaa.WalkPlanPlays
open Go Go.RowKit Go.Proofs.Ytoddbjmkdhaklaa.Heap Go.Proofs.Ytoddbjmkdhaklaa.Open Go.Proofs.Ytoddbjmkdhaklaa.Plan Go.Proofs.Ytoddbjmkdhaklaa.Law05

def kinds05 : List (Option IntKind) := [none, some .i64, some .i64, some .u32]
theorem Wd.app {a b : List Int} (ha : Mem.Wd a) (hb : Mem.Wd b) : Mem.Wd (a ++ b) := by
  intro x hx
  rcases List.mem_append.1 hx with e | e
  · exact ha x e
  · exact hb x e
theorem Wd.rep (k : Nat) (v : Int) (h0 : 0 ≤ v) (h1 : v < 4294967296) : Mem.Wd (List.replicate k v) := by intro x hx; rw [List.eq_of_mem_replicate hx]; exact ⟨h0, h1⟩
theorem src_cell {w : World} {a : Option Addr} {n cap : Nat} {k : IntKind} {xs : List Int} (h : Src1 w (.slice a n cap) k xs) {i : Nat} (hi : i < xs.length) :
    ∃ b off, a = some ⟨b, off, none⟩ ∧ b < w.heap.size ∧ w.cell? ⟨b, off + i, none⟩ = some (.int k (xs.getD i 0)) := by
  obtain ⟨a', cap', e, -, hc⟩ := h
  injection e with e1 e2 e3
  subst e1
  obtain ⟨b, off, rfl, hb, hc⟩ := hc (by omega)
  exact ⟨b, off, rfl, hb, hc i hi⟩
set_option maxRecDepth 100000 in
theorem many (t : Int) (a1 : Option Addr) (n1 c1 : Nat) (w : World) (h : 12 < n1) :
    Calls Try.prog 4 #[.int .i64 t, .slice a1 n1 c1] w fun e w' => e = .returned (.bool true) ∧ Below w.heap.size w w' := by
  have h' : (12 : Int) < n1 := by omega
  go_enter Try.func4, Try.ntmps4
  go_wp2_with fail
  refine (awake _).mono ?_
  rintro e w6 ⟨rfl, u6⟩
  go_wp2
  go_ret
  exact ⟨rfl, u6⟩
set_option maxHeartbeats 16000000 in
set_option maxRecDepth 100000 in
theorem few (t : Int) (v : Value) (ops : List (List Value)) (w : World) (h : Recs w v kinds05 ops) (hl : ops.length ≤ 12) :
    Calls Try.prog 4 #[.int .i64 t, v] w fun e w' => e = .returned (.bool true) ∧ Below w.heap.size w w' := by
  obtain ⟨ao, cap, rfl, hlc, hlm⟩ := h.len
  have hl' : (ops.length : Int) ≤ 12 := by omega
  go_enter Try.func4, Try.ntmps4
  go_wp2_with fail
  refine (newPl _ t).mono ?_
  rintro e w1 ⟨p, rfl, hp, c1⟩
  obtain ⟨S0, hS, hS2, hp⟩ : ∃ S : Nat → Prop, (∀ b, S b → w.heap.size ≤ b) ∧ (∀ b, S b → b < w1.heap.size) ∧ Plan.O w1 p S t [] [] := ⟨_, fun b hb => hb.1, fun b hb => hb.2, hp⟩
  have z1 := c1.size
  have hp1 := hp.alloc (.cells #[.slice none 0 0, .slice none 0 0] 44)
  have B1 := c1.alloc c1.size (.cells #[.slice none 0 0, .slice none 0 0] 44)
  have X1 : Row (w1.alloc (.cells #[.slice none 0 0, .slice none 0 0] 44)) w1.heap.size [.slice none 0 0, .slice none 0 0] := Row.new' rfl
  have V1 : Ref05.Val (w1.alloc (.cells #[.slice none 0 0, .slice none 0 0] 44)) (fun _ => False) [] [] (.slice none 0 0) (.slice none 0 0) := ⟨World.ownsRow_nil _ _ _ _, World.ownsRow_nil _ _ _ _, fun b hb => by simp [Value.ownBlock] at hb, fun b hb => by simp [Value.ownBlock] at hb, fun b hb => by simp [Value.ownBlock] at hb, rfl⟩
  go_wp2_with fail
  obtain ⟨X, hX⟩ : ∃ X, w1.heap.size = X := ⟨_, rfl⟩
  have hXw : w.heap.size ≤ X := by omega
  obtain ⟨W1, hW1⟩ : ∃ W, (w1.alloc (.cells #[.slice none 0 0, .slice none 0 0] 44)) = W := ⟨_, rfl⟩
  rw [hX] at hS2 z1 X1
  rw [hW1] at hp1 B1 X1 V1 ⊢
  rw [hX]
  clear hX hW1 hp c1
  go_loopw [27] (fun i wr => ∃ j : Nat, j ≤ ops.length ∧ i = .int .i64 j ∧ ∃ hs xs hv wv S R, Plan.O wr p S t hs xs ∧ Row wr X [hv, wv] ∧ Ref05.Val wr R hs xs hv wv ∧ ¬ S X ∧ ¬ R X ∧ (∀ b, R b → ¬ S b) ∧ (∀ b, R b → b < wr.heap.size) ∧ (∀ b, S b → w.heap.size ≤ b) ∧ (∀ b, R b → w.heap.size ≤ b) ∧ xs.length ≤ 4097 * j ∧ Mem.Wd xs ∧ Below w.heap.size w wr) (fun i _ => ops.length - (intOf i).toNat)
  case atStart => exact ⟨0, Nat.zero_le _, rfl, [], [], _, _, S0, fun _ => False, hp1, X1, V1, fun e => by have := hS2 _ e; omega, id, fun _ e => e.elim, fun _ e => e.elim, hS, fun _ e => e.elim, Nat.zero_le _, fun _ e => by simp at e, B1⟩
  case round =>
    obtain ⟨j, hj, rfl, hs, xs, hv, wv, S, R, hO, hXr, hV, nS, nR, dis, hiR, loS, loR, hlen, hwd, hbel⟩ := hrel
    by_cases hlt : j < ops.length
    · obtain ⟨b, off, rfl, hb, hrec, hcell⟩ := h.cells hbel hlt
      obtain ⟨y, hy⟩ : ∃ y, ops.getD j [] = y := ⟨_, rfl⟩
      rw [hy] at hrec hcell
      obtain ⟨y0, y1, y2, y3, rfl, ⟨q, rfl⟩, ⟨n, rfl, -⟩, ⟨o, rfl, -⟩, ⟨x, rfl, hx⟩⟩ := hrec.four
      have c0 := hcell 0 _ (by decide) rfl
      have c1 := hcell 1 _ (by decide) rfl
      have c2 := hcell 2 _ (by decide) rfl
      have c3 := hcell 3 _ (by decide) rfl
      simp [kinds05] at c0 c1 c2 c3
      have hx := wf_u32 hx
      cases q
      · have hO1 := hO.alloc (.cells #[.bool false, .int .i64 n, .int .i64 o, .int .u32 x] 46)
        have V1 := hV.keep ((Upd.refl (fun _ => False) wr).alloc (.cells #[.bool false, .int .i64 n, .int .i64 o, .int .u32 x] 46)) (fun _ _ => id)
        have X1 := hXr.alloc (.cells #[.bool false, .int .i64 n, .int .i64 o, .int .u32 x] 46)
        have hbel1 := hbel.alloc hbel.size (.cells #[.bool false, .int .i64 n, .int .i64 o, .int .u32 x] 46)
        have hbox1 : Row (wr.alloc (.cells #[.bool false, .int .i64 n, .int .i64 o, .int .u32 x] 46)) wr.heap.size [.bool false, .int .i64 n, .int .i64 o, .int .u32 x] := Row.new' rfl
        have x0 := X1.cell (i := 0) rfl
        have x1 := X1.cell (i := 1) rfl
        have wrl := hXr.lt
        have KD := (Ref05.rowRef _ _ _ _ _ _ V1 (by omega) n o x)
        have KP := (fun W hh => Plan.rowPl W p S t hs xs hh (by omega) n o x)
        have HXS := Lib.hid hlen
        have hcn : cnt n ≤ 4097 := by unfold cnt; omega
        obtain ⟨c, hc⟩ : ∃ c, cnt n = c := ⟨_, rfl⟩
        obtain ⟨hs2, ehs⟩ : ∃ y, hs ++ List.replicate c o = y := ⟨_, rfl⟩
        obtain ⟨xs2, exs⟩ : ∃ y, xs ++ List.replicate c x = y := ⟨_, rfl⟩
        have hlen2 : xs2.length ≤ 4097 * (j + 1) := by rw [← exs]; simp; omega
        have hwd2 : Mem.Wd xs2 := by rw [← exs]; exact Wd.app hwd (Wd.rep c x hx.1 hx.2)
        rw [hc] at hcn
        simp only [hc, ehs, exs] at KD KP
        have HD := Lib.hid KD
        have HP := Lib.hid KP
        have HL2 := Lib.hid hlen2
        clear KD KP hc ehs exs hlen2
        go_wp2_with fail
        refine HD.out.mono ?_
        rintro e w2 ⟨hv2, wv2, rfl, R2, V2, u2, hR2⟩
        obtain ⟨ha, hcap, rfl⟩ := owned_len1 V2.homes
        obtain ⟨va, vcap, rfl⟩ := owned_len1 V2.words
        have zz : wr.heap.size + 1 ≤ w2.heap.size := by have := u2.size; simpa using this
        have hO2 := hO1.keep u2 (fun b hb e => dis b e hb)
        have hbox2 := hbox1.upd u2 (fun e => by have := hiR _ e; omega)
        have X2 := X1.upd u2 nR
        have hbel2 := u2.below hbel1 hbel1.size loR
        obtain ⟨W2, hW2⟩ : ∃ W, (w2.setCell ⟨X, 0, none⟩ (.slice ha hs2.length hcap)).setCell ⟨X, 1, none⟩ (.slice va xs2.length vcap) = W := ⟨_, rfl⟩
        have uX : Upd (fun b => b = X) w2 W2 := by rw [← hW2]; exact ((Upd.refl (fun b => b = X) w2).setCell (p := ⟨X, 0, none⟩) (.inl rfl) _).setCell (p := ⟨X, 1, none⟩) (.inl rfl) _
        have X3 : Row W2 X [.slice ha hs2.length hcap, .slice va xs2.length vcap] := by rw [← hW2]; exact (X2.set 0 _).set 1 _
        have hO3 := hO2.keep uX (fun b hb e => nS (e ▸ hb))
        have hbox3 := hbox2.upd uX (by omega)
        have hRX : ∀ b, R2 b → b ≠ X := fun b hb => by
          rcases hR2 b hb with e | e
          · exact fun e2 => nR (e2 ▸ e)
          · simp at e; omega
        have V3 := V2.keep uX (fun b hb e => hRX b hb e)
        have q1 := hbox3.cell (i := 1) rfl
        have q2 := hbox3.cell (i := 2) rfl
        have q3 := hbox3.cell (i := 3) rfl
        have HP3 := Lib.hid (HP.out W2 hO3)
        have f0 := X2.frozen 0
        have f1 := X2.frozen 1
        have g0 := X2.cell (i := 0) rfl
        have g1 := X2.cell (i := 1) rfl
        have g2 := (X2.set 0 (.slice ha hs2.length hcap)).cell (i := 1) rfl
        have g3 := (X2.set 0 (.slice ha hs2.length hcap)).frozen 1
        have zW := uX.size
        go_wp2_with fail
        refine HP3.out.mono ?_
        rintro e w3 ⟨rfl, S2, hO4, u4, hS2'⟩
        have nXS : ¬ S2 X := fun e => by
          rcases hS2' _ e with e | e
          · exact nS e
          · have := X3.lt; omega
        have X4 := X3.upd u4 nS
        have x2 := X4.cell (i := 1) rfl
        have hW3 : ∀ b, (Value.slice ha hs2.length hcap).ownBlock = some b ∨ (Value.slice va xs2.length vcap).ownBlock = some b → R2 b ∧ b < w2.heap.size := fun b hb => by
          rcases hb with e | e
          · exact ⟨V2.hl b e, (own_lt V2.homes e).1⟩
          · exact ⟨V2.wl b e, (own_lt V2.words e).1⟩
        have dS : ∀ b, (Value.slice ha hs2.length hcap).ownBlock = some b ∨ (Value.slice va xs2.length vcap).ownBlock = some b → ¬ S b := fun b hb e => by
          rcases hR2 b (hW3 b hb).1 with y | y
          · exact dis b y e
          · have := hO.lt b e; simp at y; omega
        have dS2 : ∀ b, (Value.slice ha hs2.length hcap).ownBlock = some b ∨ (Value.slice va xs2.length vcap).ownBlock = some b → ¬ S2 b := fun b hb e => by
          rcases hS2' b e with e | e
          · exact dS b hb e
          · have := (hW3 b hb).2; omega
        have V3' : Ref05.Val W2 (fun b => (Value.slice ha hs2.length hcap).ownBlock = some b ∨ (Value.slice va xs2.length vcap).ownBlock = some b) hs2 xs2 (.slice ha hs2.length hcap) (.slice va xs2.length vcap) := ⟨V3.homes, V3.words, fun b hb => .inl hb, fun b hb => .inr hb, V3.apart, V3.len⟩
        have V4 := V3'.keep u4 dS
        have hbelX := uX.below hbel2 hbel2.size (fun i e => by rw [e]; exact hXw)
        have hbel4 := u4.below hbelX hbelX.size loS
        have hz4 := u4.size
        have HQ := Lib.hid (fun k => lenPl _ _ _ _ _ _ (hO4.drewN k))
        have hc4 : ∀ b, S2 b → w.heap.size ≤ b := fun b hb => by
          rcases hS2' b hb with e | e
          · exact loS b e
          · exact Nat.le_trans hbelX.size e
        have hcR : ∀ b, (Value.slice ha hs2.length hcap).ownBlock = some b ∨ (Value.slice va xs2.length vcap).ownBlock = some b → w.heap.size ≤ b := fun b hb => by
          rcases hR2 b (hW3 b hb).1 with y | y
          · exact loR b y
          · have := hbel1.size; omega
        go_wp2_with fail
        go_quiet ((go_at_call 13; exact Calls.quiet_of_same ((HQ.out _).mono fun e w' ⟨he, hw⟩ => ⟨he, hw.symm⟩)))
        go_wp2_with fail
        go_roundw
        case rel => exact ⟨j + 1, by omega, by go_num, hs2, xs2, _, _, S2, _, hO4.drewN _, X4.drewN _, V4.keep ((Upd.refl (fun _ => False) w3).drewN _) (fun _ _ => id), nXS, fun e => hRX X (hW3 X e).1 rfl, dS2, fun b hb => by have := (hW3 b hb).2; simp; omega, hc4, hcR, HL2.out, hwd2, below_drewN hbel4 _⟩
        case measure => simp [intOf]; omega
      · have hO1 := hO.alloc (.cells #[.bool true, .int .i64 n, .int .i64 o, .int .u32 x] 46)
        have V1 := hV.keep ((Upd.refl (fun _ => False) wr).alloc (.cells #[.bool true, .int .i64 n, .int .i64 o, .int .u32 x] 46)) (fun _ _ => id)
        have X1 := hXr.alloc (.cells #[.bool true, .int .i64 n, .int .i64 o, .int .u32 x] 46)
        have hbel1 := hbel.alloc hbel.size (.cells #[.bool true, .int .i64 n, .int .i64 o, .int .u32 x] 46)
        have hbox1 : Row (wr.alloc (.cells #[.bool true, .int .i64 n, .int .i64 o, .int .u32 x] 46)) wr.heap.size [.bool true, .int .i64 n, .int .i64 o, .int .u32 x] := Row.new' rfl
        have x0 := X1.cell (i := 0) rfl
        have x1 := X1.cell (i := 1) rfl
        have wrl := hXr.lt
        have KD := (Ref05.rowRef _ _ _ _ _ _ V1 (by omega) 1 o x)
        have KP := (fun W hh => Plan.wordPl W p S t hs xs hh (by omega) o x)
        have HXS := Lib.hid hlen
        rw [show cnt 1 = 1 from rfl] at KD
        simp only [List.replicate_succ, List.replicate_zero] at KD
        obtain ⟨hs2, ehs⟩ : ∃ y, hs ++ [o] = y := ⟨_, rfl⟩
        obtain ⟨xs2, exs⟩ : ∃ y, xs ++ [x] = y := ⟨_, rfl⟩
        have hlen2 : xs2.length ≤ 4097 * (j + 1) := by rw [← exs]; simp; omega
        have hwd2 : Mem.Wd xs2 := by rw [← exs]; exact Wd.app hwd (Wd.rep 1 x hx.1 hx.2)
        simp only [ehs, exs] at KD KP
        have HD := Lib.hid KD
        have HP := Lib.hid KP
        have HL2 := Lib.hid hlen2
        clear KD KP ehs exs hlen2
        go_wp2_with fail
        refine HD.out.mono ?_
        rintro e w2 ⟨hv2, wv2, rfl, R2, V2, u2, hR2⟩
        obtain ⟨ha, hcap, rfl⟩ := owned_len1 V2.homes
        obtain ⟨va, vcap, rfl⟩ := owned_len1 V2.words
        have zz : wr.heap.size + 1 ≤ w2.heap.size := by have := u2.size; simpa using this
        have hO2 := hO1.keep u2 (fun b hb e => dis b e hb)
        have hbox2 := hbox1.upd u2 (fun e => by have := hiR _ e; omega)
        have X2 := X1.upd u2 nR
        have hbel2 := u2.below hbel1 hbel1.size loR
        obtain ⟨W2, hW2⟩ : ∃ W, (w2.setCell ⟨X, 0, none⟩ (.slice ha hs2.length hcap)).setCell ⟨X, 1, none⟩ (.slice va xs2.length vcap) = W := ⟨_, rfl⟩
        have uX : Upd (fun b => b = X) w2 W2 := by rw [← hW2]; exact ((Upd.refl (fun b => b = X) w2).setCell (p := ⟨X, 0, none⟩) (.inl rfl) _).setCell (p := ⟨X, 1, none⟩) (.inl rfl) _
        have X3 : Row W2 X [.slice ha hs2.length hcap, .slice va xs2.length vcap] := by rw [← hW2]; exact (X2.set 0 _).set 1 _
        have hO3 := hO2.keep uX (fun b hb e => nS (e ▸ hb))
        have hbox3 := hbox2.upd uX (by omega)
        have hRX : ∀ b, R2 b → b ≠ X := fun b hb => by
          rcases hR2 b hb with e | e
          · exact fun e2 => nR (e2 ▸ e)
          · simp at e; omega
        have V3 := V2.keep uX (fun b hb e => hRX b hb e)
        have q1 := hbox3.cell (i := 1) rfl
        have q2 := hbox3.cell (i := 2) rfl
        have q3 := hbox3.cell (i := 3) rfl
        have HP3 := Lib.hid (HP.out W2 hO3)
        have f0 := X2.frozen 0
        have f1 := X2.frozen 1
        have g0 := X2.cell (i := 0) rfl
        have g1 := X2.cell (i := 1) rfl
        have g2 := (X2.set 0 (.slice ha hs2.length hcap)).cell (i := 1) rfl
        have g3 := (X2.set 0 (.slice ha hs2.length hcap)).frozen 1
        have zW := uX.size
        go_wp2_with fail
        refine HP3.out.mono ?_
        rintro e w3 ⟨rfl, S2, hO4, u4, hS2'⟩
        have nXS : ¬ S2 X := fun e => by
          rcases hS2' _ e with e | e
          · exact nS e
          · have := X3.lt; omega
        have X4 := X3.upd u4 nS
        have x2 := X4.cell (i := 1) rfl
        have hW3 : ∀ b, (Value.slice ha hs2.length hcap).ownBlock = some b ∨ (Value.slice va xs2.length vcap).ownBlock = some b → R2 b ∧ b < w2.heap.size := fun b hb => by
          rcases hb with e | e
          · exact ⟨V2.hl b e, (own_lt V2.homes e).1⟩
          · exact ⟨V2.wl b e, (own_lt V2.words e).1⟩
        have dS : ∀ b, (Value.slice ha hs2.length hcap).ownBlock = some b ∨ (Value.slice va xs2.length vcap).ownBlock = some b → ¬ S b := fun b hb e => by
          rcases hR2 b (hW3 b hb).1 with y | y
          · exact dis b y e
          · have := hO.lt b e; simp at y; omega
        have dS2 : ∀ b, (Value.slice ha hs2.length hcap).ownBlock = some b ∨ (Value.slice va xs2.length vcap).ownBlock = some b → ¬ S2 b := fun b hb e => by
          rcases hS2' b e with e | e
          · exact dS b hb e
          · have := (hW3 b hb).2; omega
        have V3' : Ref05.Val W2 (fun b => (Value.slice ha hs2.length hcap).ownBlock = some b ∨ (Value.slice va xs2.length vcap).ownBlock = some b) hs2 xs2 (.slice ha hs2.length hcap) (.slice va xs2.length vcap) := ⟨V3.homes, V3.words, fun b hb => .inl hb, fun b hb => .inr hb, V3.apart, V3.len⟩
        have V4 := V3'.keep u4 dS
        have hbelX := uX.below hbel2 hbel2.size (fun i e => by rw [e]; exact hXw)
        have hbel4 := u4.below hbelX hbelX.size loS
        have hz4 := u4.size
        have HQ := Lib.hid (fun k => lenPl _ _ _ _ _ _ (hO4.drewN k))
        have hc4 : ∀ b, S2 b → w.heap.size ≤ b := fun b hb => by
          rcases hS2' b hb with e | e
          · exact loS b e
          · exact Nat.le_trans hbelX.size e
        have hcR : ∀ b, (Value.slice ha hs2.length hcap).ownBlock = some b ∨ (Value.slice va xs2.length vcap).ownBlock = some b → w.heap.size ≤ b := fun b hb => by
          rcases hR2 b (hW3 b hb).1 with y | y
          · exact loR b y
          · have := hbel1.size; omega
        go_wp2_with fail
        go_quiet ((go_at_call 13; exact Calls.quiet_of_same ((HQ.out _).mono fun e w' ⟨he, hw⟩ => ⟨he, hw.symm⟩)))
        go_wp2_with fail
        go_roundw
        case rel => exact ⟨j + 1, by omega, by go_num, hs2, xs2, _, _, S2, _, hO4.drewN _, X4.drewN _, V4.keep ((Upd.refl (fun _ => False) w3).drewN _) (fun _ _ => id), nXS, fun e => hRX X (hW3 X e).1 rfl, dS2, fun b hb => by have := (hW3 b hb).2; simp; omega, hc4, hcR, HL2.out, hwd2, below_drewN hbel4 _⟩
        case measure => simp [intOf]; omega
    · obtain rfl : j = ops.length := by omega
      obtain ⟨ha, hcap, rfl⟩ := owned_len1 hV.homes
      obtain ⟨va, vcap, rfl⟩ := owned_len1 hV.words
      by_cases g1 : t < 1
      · have HK := Lib.hid (fun W hh => portPl_no W p S t hs xs hh 1 (.inl ⟨.inl g1, rfl⟩))
        go_wp2_with fail
        refine (HK.out _ hO).mono ?_
        rintro e w5 ⟨rfl, b5⟩
        have hO5 := hO.below b5
        have hbel5 := hbel.trans (b5.mono hbel.size)
        go_wp2_with fail
        refine (HK.out _ hO5).mono ?_
        rintro e w6 ⟨rfl, b6⟩
        have hbel6 := hbel5.trans (b6.mono hbel5.size)
        have X6 := (hXr.below b5 hXr.lt).below b6 (Nat.lt_of_lt_of_le hXr.lt b5.size)
        have x0 := X6.cell (i := 0) rfl
        have x1 := X6.cell (i := 1) rfl
        have _HH := Lib.hid (Mem.homes_all _ _ _ (Src1.of_owned ((hV.keep (Upd.of_below (S := fun _ => False) b5) (fun _ _ => id)).keep (Upd.of_below (S := fun _ => False) b6) (fun _ _ => id)).homes) (by have := hV.len; omega))
        go_wp2_with fail
        refine (awake _).mono ?_
        rintro e w7 ⟨rfl, b7⟩
        go_wp2
        go_ret
        exact ⟨rfl, hbel6.trans (b7.mono hbel6.size)⟩
      by_cases g2 : 64 < t
      · have HK := Lib.hid (fun W hh => portPl_no W p S t hs xs hh 1 (.inl ⟨.inr g2, rfl⟩))
        go_wp2_with fail
        refine (HK.out _ hO).mono ?_
        rintro e w5 ⟨rfl, b5⟩
        have hO5 := hO.below b5
        have hbel5 := hbel.trans (b5.mono hbel.size)
        go_wp2_with fail
        refine (HK.out _ hO5).mono ?_
        rintro e w6 ⟨rfl, b6⟩
        have hbel6 := hbel5.trans (b6.mono hbel5.size)
        have X6 := (hXr.below b5 hXr.lt).below b6 (Nat.lt_of_lt_of_le hXr.lt b5.size)
        have x0 := X6.cell (i := 0) rfl
        have x1 := X6.cell (i := 1) rfl
        have _HH := Lib.hid (Mem.homes_all _ _ _ (Src1.of_owned ((hV.keep (Upd.of_below (S := fun _ => False) b5) (fun _ _ => id)).keep (Upd.of_below (S := fun _ => False) b6) (fun _ _ => id)).homes) (by have := hV.len; omega))
        go_wp2_with fail
        refine (awake _).mono ?_
        rintro e w7 ⟨rfl, b7⟩
        go_wp2
        go_ret
        exact ⟨rfl, hbel6.trans (b7.mono hbel6.size)⟩
      have g1' : 1 ≤ t := by omega
      have g2' : t ≤ 64 := by omega
      by_cases g3 : 4096 < xs.length
      · have HK := Lib.hid (fun W hh => portPl_no W p S t hs xs hh 5 (.inr (.inl ⟨⟨g1', g2'⟩, g3, rfl⟩)))
        have g3' : (4096 : Int) < xs.length := by omega
        go_wp2_with fail
        refine (HK.out _ hO).mono ?_
        rintro e w5 ⟨rfl, b5⟩
        have hO5 := hO.below b5
        have hbel5 := hbel.trans (b5.mono hbel.size)
        go_wp2_with fail
        refine (HK.out _ hO5).mono ?_
        rintro e w6 ⟨rfl, b6⟩
        have hbel6 := hbel5.trans (b6.mono hbel5.size)
        have X6 := (hXr.below b5 hXr.lt).below b6 (Nat.lt_of_lt_of_le hXr.lt b5.size)
        have x0 := X6.cell (i := 0) rfl
        have x1 := X6.cell (i := 1) rfl
        have _HH := Lib.hid (Mem.homes_all _ _ _ (Src1.of_owned ((hV.keep (Upd.of_below (S := fun _ => False) b5) (fun _ _ => id)).keep (Upd.of_below (S := fun _ => False) b6) (fun _ _ => id)).homes) (by have := hV.len; omega))
        go_wp2_with fail
        refine (awake _).mono ?_
        rintro e w7 ⟨rfl, b7⟩
        go_wp2
        go_ret
        exact ⟨rfl, hbel6.trans (b7.mono hbel6.size)⟩
      have g3' : (xs.length : Int) ≤ 4096 := by omega
      cases ok : Mem.homesOk hs
      · have HK := Lib.hid (fun W hh => portPl_no W p S t hs xs hh 1 (.inr (.inr ⟨⟨g1', g2'⟩, by omega, ok, rfl⟩)))
        go_wp2_with fail
        refine (HK.out _ hO).mono ?_
        rintro e w5 ⟨rfl, b5⟩
        have hO5 := hO.below b5
        have hbel5 := hbel.trans (b5.mono hbel.size)
        go_wp2_with fail
        refine (HK.out _ hO5).mono ?_
        rintro e w6 ⟨rfl, b6⟩
        have hbel6 := hbel5.trans (b6.mono hbel5.size)
        have X6 := (hXr.below b5 hXr.lt).below b6 (Nat.lt_of_lt_of_le hXr.lt b5.size)
        have x0 := X6.cell (i := 0) rfl
        have x1 := X6.cell (i := 1) rfl
        have HH := Lib.hid (Mem.homes_all _ _ _ (Src1.of_owned ((hV.keep (Upd.of_below (S := fun _ => False) b5) (fun _ _ => id)).keep (Upd.of_below (S := fun _ => False) b6) (fun _ _ => id)).homes) (by have := hV.len; omega))
        rw [ok] at HH
        go_wp2_with fail
        refine HH.out.mono ?_
        rintro e w8 ⟨rfl, rfl⟩
        go_wp2_with fail
        refine (awake _).mono ?_
        rintro e w7 ⟨rfl, b7⟩
        go_wp2
        go_ret
        exact ⟨rfl, hbel6.trans (b7.mono hbel6.size)⟩
      · obtain ⟨k, rfl⟩ := Int.eq_ofNat_of_zero_le (show 0 ≤ t by omega)
        have HK := Lib.hid (fun W hh => portPl W p S k hs xs hh (by omega) ok hwd (by omega) (by omega))
        go_wp2_with fail
        refine (HK.out _ hO).mono ?_
        rintro e w5 ⟨x, rfl, hx5, b5⟩
        obtain ⟨T1, l1, h1, hx5⟩ : ∃ T : Nat → Prop, (∀ b, T b → wr.heap.size ≤ b) ∧ (∀ b, T b → b < w5.heap.size) ∧ Port.O w5 x T k xs hs [] := ⟨_, fun b hb => hb.1, fun b hb => hb.2, hx5⟩
        have hO5 := hO.below b5
        have hbel5 := hbel.trans (b5.mono hbel.size)
        go_wp2_with fail
        refine (HK.out _ hO5).mono ?_
        rintro e w6 ⟨y, rfl, hy6, b6⟩
        obtain ⟨T2, l2, hy6⟩ : ∃ T : Nat → Prop, (∀ b, T b → w5.heap.size ≤ b) ∧ Port.O w6 y T k xs hs [] := ⟨_, fun b hb => hb.1, hy6⟩
        have hx6 := hx5.below b6
        have hbel6 := hbel5.trans (b6.mono hbel5.size)
        have X6 := (hXr.below b5 hXr.lt).below b6 (Nat.lt_of_lt_of_le hXr.lt b5.size)
        have V6 := (hV.keep (Upd.of_below (S := fun _ => False) b5) (fun _ _ => id)).keep (Upd.of_below (S := fun _ => False) b6) (fun _ _ => id)
        have x0 := X6.cell (i := 0) rfl
        have x1 := X6.cell (i := 1) rfl
        have K := Mem.homes_all _ _ _ (Src1.of_owned V6.homes) (by have := hV.len; omega)
        rw [ok] at K
        have HH := Lib.hid K
        clear K
        go_wp2_with fail
        refine HH.out.mono ?_
        rintro e w8 ⟨rfl, rfl⟩
        have HT := Lib.hid (Port.threadsP _ _ _ _ _ _ _ hx6)
        go_wp2_with fail
        refine HT.out.mono ?_
        rintro e w9 ⟨rfl, rfl⟩
        have HS := Lib.hid (Port.storeP _ _ _ _ _ _ _ hx6 (by decide) 0 0 99 (by decide) (by decide))
        clear x0 x1
        go_wp2_with fail
        refine HS.out.mono ?_
        rintro e w9 ⟨rfl, -, u9⟩
        have hy9 := hy6.keep u9 (fun b hb e => by have := h1 b e; have := l2 b hb; omega)
        have hbel9 := u9.below hbel6 hbel6.size (fun i e => Nat.le_trans hbel.size (l1 i e))
        have X9 := X6.upd u9 (fun e => by have := l1 _ e; have := hXr.lt; omega)
        have V9 := V6.keep u9 (fun b hb e => by have := l1 b e; have := hiR b hb; omega)
        have yl := hy9.lt _ hy9.mem
        obtain ⟨m2, T3, y0, hm2, -⟩ := hy9.step
        have HW := Lib.hid (Mem.wordsO _ _ _ _ _ hm2 (by omega))
        go_wp2_with fail
        refine HW.out.mono ?_
        rintro e w10 ⟨rfl, row, b10⟩
        have hbel10 := hbel9.trans (b10.mono hbel9.size)
        obtain ⟨H1, hH1⟩ : ∃ H, w9.heap.size = H := ⟨_, rfl⟩
        have X10 := X9.below b10 X9.lt
        have V10 := V9.keep (Upd.of_below (S := fun _ => False) b10) (fun _ _ => id)
        have y10 := (b10.cell (p := ⟨y, 0, none⟩) yl).trans y0
        have yl10 := Nat.lt_of_lt_of_le yl b10.size
        have hm10 := hm2.below b10
        have x0 := X10.cell (i := 0) rfl
        have x1 := X10.cell (i := 1) rfl
        have hn := hV.len
        rw [hH1] at row ⊢
        clear hH1 y0 hm2 hy9 hy6 HH HT HS HW HK
        go_wp2_with fail
        go_loopw [168] (fun i wi => ∃ i' : Nat, i' ≤ xs.length ∧ i = .int .i64 i' ∧ Below w10.heap.size w10 wi) (fun i _ => xs.length - (intOf i).toNat)
        case atStart => exact ⟨0, Nat.zero_le _, rfl, Below.refl _ _⟩
        case round =>
          obtain ⟨i, hi, rfl, b9⟩ := hrel
          by_cases hi2 : i < xs.length
          · have hi' : (i : Int) < xs.length := by omega
            have hi3 : i < hs.length := by omega
            have hi4 : (i : Int) < hs.length := by omega
            have d1 := (row.below b9 row.lt).cell (ints_get (k := .u32) (i := i) (xs := xs) hi2)
            obtain ⟨vb, vo, rfl, vl, vc⟩ := src_cell (Src1.of_owned V10.words) hi2
            obtain ⟨qb, qo, rfl, ql, qc⟩ := src_cell (Src1.of_owned V10.homes) hi3
            have d2 := (b9.cell (p := ⟨vb, vo + i, none⟩) vl).trans vc
            have d3 := (b9.cell (p := ⟨qb, qo + i, none⟩) ql).trans qc
            have e1 := (b9.cell (p := ⟨y, 0, none⟩) yl10).trans y10
            have X11 := X10.below b9 X10.lt
            have x2 := X11.cell (i := 0) rfl
            have x3 := X11.cell (i := 1) rfl
            have K1 := fun n => Mem.homeO _ _ _ _ _ ((hm10.below b9).drewN n) (i : Int)
            simp only [Mem.get_in (ws := hs) (a := (i : Int)) (k := i) rfl (by simp [Mem.inB]; omega)] at K1
            have HQ := Lib.hid K1
            clear K1 vc qc y10 x0 x1
            go_wp2_with fail
            go_quiet ((go_at_call 10; exact Calls.quiet_of_same ((HQ.out _).mono fun e w' ⟨he, hw⟩ => ⟨he, hw.symm⟩)))
            go_wp2_with fail
            go_roundw
            case rel => exact ⟨i + 1, by omega, by go_num, below_drewN b9 _⟩
            case measure => simp [intOf]; omega
          · have C9 := hbel10.trans (b9.mono hbel10.size)
            go_wp2_with fail
            refine (awake _).mono ?_
            rintro e wz ⟨rfl, uz⟩
            go_wp2
            go_ret
            exact ⟨rfl, C9.trans (uz.mono C9.size)⟩
theorem walk (t : Int) (v : Value) (ops : List (List Value)) (w : World) (h : Recs w v kinds05 ops) :
    Calls Try.prog 4 #[.int .i64 t, v] w fun e w' => e = .returned (.bool true) ∧ Below w.heap.size w w' := by
  by_cases hm : 12 < ops.length
  · obtain ⟨a, c, rfl, _⟩ := h.len
    exact many t a _ c w hm
  · exact few t v ops w h (by omega)
section
variable {H : Type} {enc : TypeId × Value → H} {w : World} {base : Nat} {spare : Nat → Bool} {held : Bool} {b0 : Nat}
theorem ops05 {v : Value} {d : DataW H} {p : List MemPlace} (hv : Value.okWide Try.prog w .any b0 41 v) (h : DataW.Trod enc Try.prog w base spare held 41 v d p) : ∃ xs, Recs w v kinds05 xs :=
  recs_of kinds05 Try.underlying41 Try.underlying46 (by kernel_rfl) (by kernel_rfl) (by decide) rfl
    (by intro j f k hj hk
        match j, hj with
        | 0, hj => simp at hj; subst hj; simp [kinds05] at hk; subst hk; exact Try.underlying4
        | 1, hj => simp at hj; subst hj; simp [kinds05] at hk; subst hk; exact Try.underlying3
        | 2, hj => simp at hj; subst hj; simp [kinds05] at hk; subst hk; exact Try.underlying3
        | 3, hj => simp at hj; subst hj; simp [kinds05] at hk; subst hk; exact Try.underlying22) hv h
end
end Go.Proofs.Ytoddbjmkdhaklaa.WalkPlanPlays
