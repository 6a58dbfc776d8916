/- The document's pool (reference of layer 6): Give, walked. -/
import Derived.Test.YtnmldhagdgghoaaRef06d
import Derived.BigRegion
namespace Go.Proofs.Ytnmldhagdgghoaa.Ref06
open Go Go.RowKit Go.Proofs.Ytnmldhagdgghoaa.Heap Go.Proofs.Ytnmldhagdgghoaa.Open Go.Proofs.Ytnmldhagdgghoaa.Sl Go.Proofs.Ytnmldhagdgghoaa.Pool Go.Proofs.Ytnmldhagdgghoaa.Law06

/-- The document's Give. -/
def rgive (L : List Nd) (C : Nat) (id dt n : Int) : Int × List Nd × Nat := if 1 ≤ id ∧ id ≤ L.length ∧ -1 ≤ dt ∧ dt < n then (0, L.set (id - 1).toNat ⟨dt, C, (L.getD (id - 1).toNat n0).ou⟩, C + 1) else (1, L, C)
set_option maxHeartbeats 4000000 in
theorem giveC (w : World) (v : Value) (L : List Nd) (C : Nat) (h : SrcS w v 3 (L.map ncell)) (hL : L.length ≤ 1000) (hC : C ≤ 1000) (id dt n : Int) :
    Calls Try.prog 18 #[.agg #[v, .int .i64 C], .int .i64 id, .int .i64 dt, .int .i64 n] w fun e w' => ∃ v', e = .returned (.tuple #[.agg #[v', .int .i64 ((rgive L C id dt n).2.2 : Nat)], .int .i64 (rgive L C id dt n).1]) ∧ SrcS w' v' 3 ((rgive L C id dt n).2.1.map ncell) ∧ Below w.heap.size w w' ∧ ∀ b, v'.ownBlock = some b → v.ownBlock = some b ∨ w.heap.size ≤ b := by
  have hs := h
  obtain ⟨a, cap, rfl, hcell⟩ := ns_open h
  have R0 : Row ((w.alloc (.cells #[.slice a L.length cap, .int .i64 C] 44)).alloc (.cells #[.slice none 0 0, .int .i64 0] 44)) w.heap.size [.slice a L.length cap, .int .i64 C] := (Row.new' rfl).alloc _
  have R1 : Row ((w.alloc (.cells #[.slice a L.length cap, .int .i64 C] 44)).alloc (.cells #[.slice none 0 0, .int .i64 0] 44)) (w.heap.size + 1) [.slice none 0 0, .int .i64 0] := Row.new' (by simp)
  have B0 : Below w.heap.size w ((w.alloc (.cells #[.slice a L.length cap, .int .i64 C] 44)).alloc (.cells #[.slice none 0 0, .int .i64 0] 44)) := ((Below.refl _ _).alloc (Nat.le_refl _) _).alloc (by simp) _
  have hs0 := hs.below B0
  have hbl := ns_blk h
  clear h hcell
  by_cases hin : 1 ≤ id ∧ id ≤ L.length ∧ -1 ≤ dt ∧ dt < n
  · obtain ⟨i, rfl, hi⟩ : ∃ i : Nat, id = (i : Int) + 1 ∧ i < L.length := ⟨(id - 1).toNat, by omega, by omega⟩
    have ER : rgive L C ((i : Int) + 1) dt n = (0, L.set i ⟨dt, C, (L.getD i n0).ou⟩, C + 1) := by
      unfold rgive
      rw [if_pos hin, show ((i : Int) + 1 - 1).toNat = i by omega]
    obtain ⟨nd, hnd⟩ : ∃ nd, L.getD i n0 = nd := ⟨_, rfl⟩
    rw [hnd] at ER
    have h1 : decide ((i : Int) + 1 < 1) = false := by simp; omega
    have h2 : decide ((L.length : Int) < (i : Int) + 1) = false := by simp; omega
    have h3 : decide (dt < -1) = false := by simp; omega
    have h4 : decide (n ≤ dt) = false := by simp; omega
    have hi' : (i : Int) < (L.length : Int) := by omega
    have hii : (i : Int) + 1 - 1 = (i : Int) := by omega
    have hcw : IntKind.i64.wrap ((C : Int) + 1) = (C : Int) + 1 := IntWalk.i64_in _ (by omega)
    obtain ⟨a9, cap9, hv9, hcell⟩ := ns_open hs0
    simp only [Value.slice.injEq] at hv9
    obtain ⟨rfl, -, rfl⟩ := hv9
    obtain ⟨b, off, rfl, hb, hc⟩ := hcell (by omega)
    obtain ⟨x0, x1, x2⟩ := hc i hi
    rw [hnd] at x0 x1 x2
    obtain ⟨fo, fs, fu⟩ := nd
    dsimp only at x0 x1 x2 ER
    obtain ⟨L5', hL5⟩ : ∃ L5, L.set i ⟨dt, C, fu⟩ = L5 := ⟨_, rfl⟩
    have HER := Lib.hid ER
    have HL5 := Lib.hid hL5
    have hbB := hbl b off rfl (by omega)
    clear hcell hc hnd hin ER hs hbl hL5
    go_enter Try.func18, Try.ntmps18
    go_upto_region 1 with (fail)
    obtain ⟨B, hB⟩ : ∃ B, w.heap.size = B := ⟨_, rfl⟩
    obtain ⟨W0, hW0⟩ : ∃ W, ((w.alloc (.cells #[.slice (some ⟨b, off, none⟩) L.length cap, .int .i64 C] 44)).alloc (.cells #[.slice none 0 0, .int .i64 0] 44)) = W := ⟨_, rfl⟩
    rw [hW0] at R0 R1 B0 hs0 x0 x1 x2 hb ⊢
    rw [hB] at R0 R1 hbB ⊢
    have HB := Lib.hid hB
    clear hW0 hB
    have r0 := R0.cell (i := 0) rfl
    have r1 := R0.cell (i := 1) rfl
    have N0 : Row (W0.alloc (.cells #[.int .i64 fo, .int .i64 fs, .bool fu] 60)) W0.heap.size [.int .i64 fo, .int .i64 fs, .bool fu] := Row.new' rfl
    have RA0 := R0.alloc (.cells #[.int .i64 fo, .int .i64 fs, .bool fu] 60)
    have RA1 := R1.alloc (.cells #[.int .i64 fo, .int .i64 fs, .bool fu] 60)
    have hsA := hs0.below ((Below.refl W0.heap.size W0).alloc (Nat.le_refl _) (.cells #[.int .i64 fo, .int .i64 fs, .bool fu] 60))
    have BBA := B0.alloc B0.size (.cells #[.int .i64 fo, .int .i64 fs, .bool fu] 60)
    have lt0 := R0.lt
    have lt1 := R1.lt
    clear R0 R1 hs0 B0
    go_upto_region 4 with (fail)
    obtain ⟨WA, hWA⟩ : ∃ W, W0.alloc (.cells #[.int .i64 fo, .int .i64 fs, .bool fu] 60) = W := ⟨_, rfl⟩
    obtain ⟨A, hA⟩ : ∃ A, W0.heap.size = A := ⟨_, rfl⟩
    rw [hWA] at N0 RA0 RA1 hsA BBA ⊢
    rw [hA] at N0 lt0 lt1 hb ⊢
    clear hWA hA r0 r1 x0 x1 x2 h1 h2 h3 h4
    go_cut [] from 36 to 40 (fun wx => Row wx A [.int .i64 dt, .int .i64 C, .bool fu] ∧ Row wx B [.slice (some ⟨b, off, none⟩) L.length cap, .int .i64 C] ∧ Row wx (B + 1) [.slice none 0 0, .int .i64 0] ∧ SrcS wx (.slice (some ⟨b, off, none⟩) L.length cap) 3 (L.map ncell) ∧ Below w.heap.size w wx)
    case first =>
      have n0' := N0.cell (i := 0) rfl
      have n1' := N0.cell (i := 1) rfl
      have z0 := N0.frozen 0
      have z1 := N0.frozen 1
      have q1 := RA0.cell (i := 1) rfl
      have uA : Upd (fun k => k = A) WA ((WA.setCell ⟨A, 0, none⟩ (.int .i64 dt)).setCell ⟨A, 1, none⟩ (.int .i64 C)).drew := ((Upd.one _ _ _ _).trans (Upd.one _ _ _ _)).drew
      have N1 := ((N0.set 0 (.int .i64 dt)).set 1 (.int .i64 C)).drew
      have RB0 := RA0.upd uA (by omega)
      have RB1 := RA1.upd uA (by omega)
      have hsB := ns_keep hsA uA (fun b' off' e _ => by simp only [Option.some.injEq, Addr.mk.injEq] at e; omega)
      have BBB := uA.below BBA BBA.size (fun i e => by have := HB.out; omega)
      have ne1 : B ≠ A := by omega
      have ne2 : A ≠ B := by omega
      clear hsA BBA RA0 RA1 N0
      go_wp2_with fail
      go_region
      all_goals
        go_wp2_with fail
        go_meet
        case rel => exact ⟨N1, RB0, RB1, hsB, BBB⟩
    case rest =>
    obtain ⟨N1, RB0, RB1, hsB, BBB⟩ := hcut
    obtain ⟨WB, hWB⟩ : ∃ WB, wc = WB := ⟨_, rfl⟩
    rw [hWB] at N1 RB0 RB1 hsB BBB ⊢
    clear hWB N0 RA0 RA1 hsA BBA
    have KW := withC WB _ L C hsB hL i hi ⟨dt, C, fu⟩
    rw [HL5.out] at KW
    have HKW := Lib.hid KW
    clear KW
    have q0 := RB0.cell (i := 0) rfl
    have q1 := RB0.cell (i := 1) rfl
    have m0 := N1.cell (i := 0) rfl
    have m1 := N1.cell (i := 1) rfl
    have m2 := N1.cell (i := 2) rfl
    go_wp2_with fail
    refine HKW.out.mono ?_
    rintro e w5 ⟨v5, rfl, hs5, hB5, hv5⟩
    obtain ⟨a5, c5, rfl, -⟩ := ns_open hs5
    have HV5 : Hid (∀ b, (Value.slice a5 L5'.length c5).ownBlock = some b → w.heap.size ≤ b) := Lib.hid (fun b e => by have := hv5 b e; have := BBB.size; omega)
    have RC0 := RB0.below hB5 RB0.lt
    have RC1 := RB1.below hB5 RB1.lt
    have BB5 := BBB.trans (hB5.mono BBB.size)
    have e0 := RC0.cell (i := 0) rfl
    have e1 := RC0.cell (i := 1) rfl
    have y0 := RC0.frozen 0
    have y1 := RC0.frozen 1
    have bl0 := RB0.lt
    have bl1 := RB1.lt
    have u6 : Upd (fun k => k = B) w5 (((w5.setCell ⟨B, 0, none⟩ (.slice a5 L5'.length c5)).setCell ⟨B, 1, none⟩ (.int .i64 C)).setCell ⟨B, 1, none⟩ (.int .i64 ((C : Int) + 1))) := ((Upd.one _ _ _ _).trans (Upd.one _ _ _ _)).trans (Upd.one _ _ _ _)
    have RD0 := ((RC0.set 0 (.slice a5 L5'.length c5)).set 1 (.int .i64 C)).set 1 (.int .i64 ((C : Int) + 1))
    have RD1 := RC1.upd u6 (by omega)
    have BB6 := u6.below BB5 BB5.size (fun i e => by have := HB.out; omega)
    have hs6 := hs5.keep (S := fun b => WB.heap.size ≤ b) (fun b e => hv5 b e) u6 (fun b h e => by omega)
    clear hs5 RC1 BB5 hsB BBB q0 q1 m0 m1 m2 HKW u6
    go_upto_region 7 with (fail)
    obtain ⟨WD, hWD⟩ : ∃ W, (((w5.setCell ⟨B, 0, none⟩ (.slice a5 L5'.length c5)).setCell ⟨B, 1, none⟩ (.int .i64 C)).setCell ⟨B, 1, none⟩ (.int .i64 ((C : Int) + 1))) = W := ⟨_, rfl⟩
    rw [hWD] at RD0 RD1 BB6 hs6 ⊢
    clear hWD e0 e1 y0 y1 RC0
    have q0 := RD0.cell (i := 0) rfl
    have q1 := RD0.cell (i := 1) rfl
    have s0 := RD1.cell (i := 0) rfl
    have s1 := RD1.cell (i := 1) rfl
    have f0 := RD1.frozen 0
    have f1 := RD1.frozen 1
    have u7 : Upd (fun k => k = B + 1) WD ((WD.setCell ⟨B + 1, 0, none⟩ (.slice a5 L5'.length c5)).setCell ⟨B + 1, 1, none⟩ (.int .i64 ((C : Int) + 1))) := (Upd.one _ _ _ _).trans (Upd.one _ _ _ _)
    have RE := (RD1.set 0 (.slice a5 L5'.length c5)).set 1 (.int .i64 ((C : Int) + 1))
    have d0 := RE.cell (i := 0) rfl
    have d1 := RE.cell (i := 1) rfl
    have BB7 := u7.below BB6 BB6.size (fun i e => by have := HB.out; omega)
    have hs7 := hs6.keep (S := fun b => WB.heap.size ≤ b) (fun b e => hv5 b e) u7 (fun b h e => by omega)
    clear hs6 BB6 hv5 u7
    go_wp2_with fail
    refine bodyPost_ret (v := .tuple #[.agg #[.slice a5 L5'.length c5, .int .i64 ((C : Int) + 1)], .int .i64 0]) (by simp [results, Try.results18, go_sem, d0, d1]) rfl ?_
    refine ⟨.slice a5 L5'.length c5, ?_, ?_, BB7, ?_⟩
    · rw [HER.out]; push_cast; rfl
    · rw [HER.out, HL5.out]; exact hs7
    · exact fun b hb => .inr (HV5.out b hb)
  · have E : rgive L C id dt n = (1, L, C) := by unfold rgive; rw [if_neg hin]
    have HE := Lib.hid E
    have hh : id < 1 ∨ (¬ id < 1 ∧ (L.length : Int) < id) ∨ (¬ id < 1 ∧ ¬ (L.length : Int) < id ∧ dt < -1) ∨ (¬ id < 1 ∧ ¬ (L.length : Int) < id ∧ ¬ dt < -1 ∧ n ≤ dt) := by omega
    have u6 : ∀ W, Upd (fun k => k = w.heap.size + 1) W ((W.setCell ⟨w.heap.size + 1, 0, none⟩ (.slice a L.length cap)).setCell ⟨w.heap.size + 1, 1, none⟩ (.int .i64 C)) := fun W => (Upd.one _ _ _ _).trans (Upd.one _ _ _ _)
    have RD := (R1.set 0 (.slice a L.length cap)).set 1 (.int .i64 C)
    have BB6 := (u6 _).below B0 B0.size (fun i e => by omega)
    have hs6 := ns_keep hs0 (u6 _) (fun b' off' e hp => by have := hbl b' off' e hp; omega)
    clear E hin u6 hs hbl
    go_enter Try.func18, Try.ntmps18
    go_upto_region 1 with (fail)
    obtain ⟨B, hB⟩ : ∃ B, w.heap.size = B := ⟨_, rfl⟩
    obtain ⟨W0, hW0⟩ : ∃ W, ((w.alloc (.cells #[.slice a L.length cap, .int .i64 C] 44)).alloc (.cells #[.slice none 0 0, .int .i64 0] 44)) = W := ⟨_, rfl⟩
    rw [hW0] at R0 R1 B0 hs0 RD BB6 hs6 ⊢
    rw [hB] at R0 R1 RD hs6 ⊢
    have HB := Lib.hid hB
    have HBB := Lib.hid BB6
    clear hW0
    rw [hB] at HBB
    clear hB BB6
    have q0 := R0.cell (i := 0) rfl
    have q1 := R0.cell (i := 1) rfl
    have s0 := R1.cell (i := 0) rfl
    have s1 := R1.cell (i := 1) rfl
    have f0 := R1.frozen 0
    have f1 := R1.frozen 1
    have d0 := RD.cell (i := 0) rfl
    have d1 := RD.cell (i := 1) rfl
    clear R0 R1 B0 hs0
    rcases hh with hh | ⟨hh1, hh⟩ | ⟨hh1, hh2, hh⟩ | ⟨hh1, hh2, hh3, hh⟩
    · have h1 : decide (id < 1) = true := decide_eq_true hh
      clear hh
      go_wp2_with fail
      refine bodyPost_ret (v := .tuple #[.agg #[.slice a L.length cap, .int .i64 C], .int .i64 1]) (by simp [results, Try.results18, go_sem, d0, d1]) rfl ?_
      refine ⟨.slice a L.length cap, ?_, ?_, by rw [HB.out]; exact HBB.out, fun b hb => .inl hb⟩
      · rw [HE.out]
      · rw [HE.out]; exact hs6
    · have h1 : decide (id < 1) = false := decide_eq_false hh1
      have h2 : decide ((L.length : Int) < id) = true := decide_eq_true hh
      clear hh hh1
      go_wp2_with fail
      refine bodyPost_ret (v := .tuple #[.agg #[.slice a L.length cap, .int .i64 C], .int .i64 1]) (by simp [results, Try.results18, go_sem, d0, d1]) rfl ?_
      refine ⟨.slice a L.length cap, ?_, ?_, by rw [HB.out]; exact HBB.out, fun b hb => .inl hb⟩
      · rw [HE.out]
      · rw [HE.out]; exact hs6
    · have h1 : decide (id < 1) = false := decide_eq_false hh1
      have h2 : decide ((L.length : Int) < id) = false := decide_eq_false hh2
      have h3 : decide (dt < -1) = true := decide_eq_true hh
      clear hh hh1 hh2
      go_wp2_with fail
      refine bodyPost_ret (v := .tuple #[.agg #[.slice a L.length cap, .int .i64 C], .int .i64 1]) (by simp [results, Try.results18, go_sem, d0, d1]) rfl ?_
      refine ⟨.slice a L.length cap, ?_, ?_, by rw [HB.out]; exact HBB.out, fun b hb => .inl hb⟩
      · rw [HE.out]
      · rw [HE.out]; exact hs6
    · have h1 : decide (id < 1) = false := decide_eq_false hh1
      have h2 : decide ((L.length : Int) < id) = false := decide_eq_false hh2
      have h3 : decide (dt < -1) = false := decide_eq_false hh3
      have h4 : decide (n ≤ dt) = true := decide_eq_true hh
      clear hh hh1 hh2 hh3
      go_wp2_with fail
      refine bodyPost_ret (v := .tuple #[.agg #[.slice a L.length cap, .int .i64 C], .int .i64 1]) (by simp [results, Try.results18, go_sem, d0, d1]) rfl ?_
      refine ⟨.slice a L.length cap, ?_, ?_, by rw [HB.out]; exact HBB.out, fun b hb => .inl hb⟩
      · rw [HE.out]
      · rw [HE.out]; exact hs6
end Go.Proofs.Ytnmldhagdgghoaa.Ref06
