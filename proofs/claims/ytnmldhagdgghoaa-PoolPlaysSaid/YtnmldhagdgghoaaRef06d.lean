/- The document's pool (reference of layer 6): Back, walked. -/
import Derived.Test.YtnmldhagdgghoaaRef06c
namespace Go.Proofs.Ytnmldhagdgghoaa.Ref06
open Go Go.RowKit Go.Proofs.Ytnmldhagdgghoaa.Heap Go.Proofs.Ytnmldhagdgghoaa.Open Go.Proofs.Ytnmldhagdgghoaa.Sl Go.Proofs.Ytnmldhagdgghoaa.Pool Go.Proofs.Ytnmldhagdgghoaa.Law06

set_option maxHeartbeats 4000000 in
theorem backC (w : World) (v : Value) (L : List Nd) (C : Nat) (h : SrcS w v 3 (L.map ncell)) (hL : L.length ≤ 1000) (id : Int) :
    Calls Try.prog 17 #[.agg #[v, .int .i64 C], .int .i64 id] w fun e w' => ∃ v', e = .returned (.tuple #[.agg #[v', .int .i64 C], .int .i64 (rback L id).1]) ∧ SrcS w' v' 3 ((rback L id).2.map ncell) ∧ Below w.heap.size w w' ∧ ∀ b, v'.ownBlock = some b → v.ownBlock = some b ∨ w.heap.size ≤ b := by
  have hs := h
  obtain ⟨a, cap, rfl, hcell⟩ := ns_open h
  have R0 : Row ((w.alloc (.cells #[.slice a L.length cap, .int .i64 C] 44)).alloc (.cells #[.slice none 0 0, .int .i64 0] 44)) w.heap.size [.slice a L.length cap, .int .i64 C] := (Row.new' rfl).alloc _
  have R1 : Row ((w.alloc (.cells #[.slice a L.length cap, .int .i64 C] 44)).alloc (.cells #[.slice none 0 0, .int .i64 0] 44)) (w.heap.size + 1) [.slice none 0 0, .int .i64 0] := Row.new' (by simp)
  have B0 : Below w.heap.size w ((w.alloc (.cells #[.slice a L.length cap, .int .i64 C] 44)).alloc (.cells #[.slice none 0 0, .int .i64 0] 44)) := ((Below.refl _ _).alloc (Nat.le_refl _) _).alloc (by simp) _
  have hs0 := hs.below B0
  have hbl := ns_blk h
  clear h hcell
  by_cases hin : 1 ≤ id ∧ id ≤ L.length
  · obtain ⟨i, rfl, hi⟩ : ∃ i : Nat, id = (i : Int) + 1 ∧ i < L.length := ⟨(id - 1).toNat, by omega, by omega⟩
    have ER : rback L ((i : Int) + 1) = if (L.getD i n0).ou = true then (0, L.set i { L.getD i n0 with ou := false }) else (6, L) := by
      unfold rback
      rw [if_pos hin, show ((i : Int) + 1 - 1).toNat = i by omega]
    obtain ⟨nd, hnd⟩ : ∃ nd, L.getD i n0 = nd := ⟨_, rfl⟩
    rw [hnd] at ER
    have HND := Lib.hid hnd
    have h1 : decide ((i : Int) + 1 < 1) = false := by simp; omega
    have h2 : decide ((L.length : Int) < (i : Int) + 1) = false := by simp; omega
    have hi' : (i : Int) < (L.length : Int) := by omega
    have hii : (i : Int) + 1 - 1 = (i : Int) := by omega
    obtain ⟨a9, cap9, hv9, hcell⟩ := ns_open hs0
    simp only [Value.slice.injEq] at hv9
    obtain ⟨rfl, -, rfl⟩ := hv9
    obtain ⟨b, off, rfl, hb, hc⟩ := hcell (by omega)
    obtain ⟨x0, x1, x2⟩ := hc i hi
    rw [hnd] at x0 x1 x2
    obtain ⟨fo, fs, fu⟩ := nd
    dsimp only at x0 x1 x2 ER
    have HER := Lib.hid ER
    have hbB := hbl b off rfl (by omega)
    clear hcell hc hnd hin ER hs hbl
    go_enter Try.func17, Try.ntmps17
    go_upto_region 1 with (fail)
    obtain ⟨B, hB⟩ : ∃ B, w.heap.size = B := ⟨_, rfl⟩
    obtain ⟨W0, hW0⟩ : ∃ W, ((w.alloc (.cells #[.slice (some ⟨b, off, none⟩) L.length cap, .int .i64 C] 44)).alloc (.cells #[.slice none 0 0, .int .i64 0] 44)) = W := ⟨_, rfl⟩
    rw [hW0] at R0 R1 B0 hs0 x0 x1 x2 hb ⊢
    rw [hB] at R0 R1 hbB ⊢
    have HB := Lib.hid hB
    clear hW0 hB
    have r0 := R0.cell (i := 0) rfl
    have r1 := R0.cell (i := 1) rfl
    have N0 : Row (W0.alloc (.cells #[.int .i64 fo, .int .i64 fs, .bool fu] 60)) W0.heap.size [.int .i64 fo, .int .i64 fs, .bool fu] := Row.new' rfl
    have RA0 := R0.alloc (.cells #[.int .i64 fo, .int .i64 fs, .bool fu] 60)
    have RA1 := R1.alloc (.cells #[.int .i64 fo, .int .i64 fs, .bool fu] 60)
    have hsA := hs0.below ((Below.refl W0.heap.size W0).alloc (Nat.le_refl _) (.cells #[.int .i64 fo, .int .i64 fs, .bool fu] 60))
    have BBA := B0.alloc B0.size (.cells #[.int .i64 fo, .int .i64 fs, .bool fu] 60)
    have lt0 := R0.lt
    have lt1 := R1.lt
    clear R0 R1 hs0 B0
    go_upto_region 4 with (fail)
    obtain ⟨WA, hWA⟩ : ∃ W, W0.alloc (.cells #[.int .i64 fo, .int .i64 fs, .bool fu] 60) = W := ⟨_, rfl⟩
    obtain ⟨A, hA⟩ : ∃ A, W0.heap.size = A := ⟨_, rfl⟩
    rw [hWA] at N0 RA0 RA1 hsA BBA ⊢
    rw [hA] at N0 lt0 lt1 hb ⊢
    clear hWA hA r0 r1 x0 x1 x2
    have n0' := N0.cell (i := 0) rfl
    have n1' := N0.cell (i := 1) rfl
    have n2' := N0.cell (i := 2) rfl
    cases fu with
    | false =>
      have E := HER.out
      rw [if_neg Bool.false_ne_true] at E
      have HE := Lib.hid E
      have q0 := RA0.cell (i := 0) rfl
      have q1 := RA0.cell (i := 1) rfl
      have s0 := RA1.cell (i := 0) rfl
      have s1 := RA1.cell (i := 1) rfl
      have f0 := RA1.frozen 0
      have f1 := RA1.frozen 1
      have u6 : Upd (fun k => k = B + 1) WA ((WA.setCell ⟨B + 1, 0, none⟩ (.slice (some ⟨b, off, none⟩) L.length cap)).setCell ⟨B + 1, 1, none⟩ (.int .i64 C)) := (Upd.one _ _ _ _).trans (Upd.one _ _ _ _)
      have RD := (RA1.set 0 (.slice (some ⟨b, off, none⟩) L.length cap)).set 1 (.int .i64 C)
      have d0 := RD.cell (i := 0) rfl
      have d1 := RD.cell (i := 1) rfl
      have BB6 := u6.below BBA BBA.size (fun i e => by have := HB.out; omega)
      have hs6 := ns_keep hsA u6 (fun b' off' e _ => by simp only [Option.some.injEq, Addr.mk.injEq] at e; omega)
      clear E HER u6 hsA BBA RA0 RA1
      go_wp2_with fail
      refine bodyPost_ret (v := .tuple #[.agg #[.slice (some ⟨b, off, none⟩) L.length cap, .int .i64 C], .int .i64 6]) (by simp [results, Try.results17, go_sem, d0, d1]) rfl ?_
      refine ⟨.slice (some ⟨b, off, none⟩) L.length cap, ?_, ?_, BB6, ?_⟩
      · rw [HE.out]
      · rw [HE.out]; exact hs6
      · exact fun b hb => .inl hb
    | true =>
      have E := HER.out
      rw [if_pos rfl] at E
      have HE := Lib.hid E
      have z2 := N0.frozen 2
      have uA := Upd.one WA A 2 (.bool false)
      have N1 := N0.set 2 (.bool false)
      have RB0 := RA0.upd uA (by omega)
      have RB1 := RA1.upd uA (by omega)
      have hsB := ns_keep hsA uA (fun b' off' e _ => by simp only [Option.some.injEq, Addr.mk.injEq] at e; omega)
      have BBB := uA.below BBA BBA.size (fun i e => by have := HB.out; omega)
      have KW := withC (WA.setCell ⟨A, 2, none⟩ (.bool false)) _ L C hsB hL i hi ⟨fo, fs, false⟩
      have HKW := Lib.hid KW
      clear E KW hsA RA0 RA1 HER
      go_upto_region 7 with (fail)
      obtain ⟨WB, hWB⟩ : ∃ W, WA.setCell ⟨A, 2, none⟩ (.bool false) = W := ⟨_, rfl⟩
      rw [hWB] at N1 RB0 RB1 hsB BBB HKW ⊢
      clear hWB n0' n1' n2' z2 N0 uA
      have q0 := RB0.cell (i := 0) rfl
      have q1 := RB0.cell (i := 1) rfl
      have m0 := N1.cell (i := 0) rfl
      have m1 := N1.cell (i := 1) rfl
      have m2 := N1.cell (i := 2) rfl
      go_wp2_with fail
      refine HKW.out.mono ?_
      rintro e w5 ⟨v5, rfl, hs5, hB5, hv5⟩
      obtain ⟨a5, c5, rfl, -⟩ := ns_open hs5
      obtain ⟨L5, hL5⟩ : ∃ L5, L.set i ⟨fo, fs, false⟩ = L5 := ⟨_, rfl⟩
      rw [hL5] at hs5 HE hv5 ⊢
      clear hL5
      have HV5 : Hid (∀ b, (Value.slice a5 L5.length c5).ownBlock = some b → w.heap.size ≤ b) := Lib.hid (fun b e => by have := hv5 b e; have := BBB.size; omega)
      have RC1 := RB1.below hB5 RB1.lt
      have BB5 := BBB.trans (hB5.mono BBB.size)
      have s0 := RC1.cell (i := 0) rfl
      have s1 := RC1.cell (i := 1) rfl
      have f0 := RC1.frozen 0
      have f1 := RC1.frozen 1
      have u6 : Upd (fun k => k = B + 1) w5 ((w5.setCell ⟨B + 1, 0, none⟩ (.slice a5 L5.length c5)).setCell ⟨B + 1, 1, none⟩ (.int .i64 C)) := (Upd.one _ _ _ _).trans (Upd.one _ _ _ _)
      have RD := (RC1.set 0 (.slice a5 L5.length c5)).set 1 (.int .i64 C)
      have d0 := RD.cell (i := 0) rfl
      have d1 := RD.cell (i := 1) rfl
      have BB6 := u6.below BB5 BB5.size (fun i e => by have := HB.out; omega)
      have hs6 := hs5.keep (S := fun b => b ≠ B + 1) (fun b e => by have := hv5 b e; have := RB1.lt; omega) u6 (fun _ h e => h e)
      clear hs5 RC1 BB5 u6 hv5 RB0 hsB BBB
      go_wp2_with fail
      refine bodyPost_ret (v := .tuple #[.agg #[.slice a5 L5.length c5, .int .i64 C], .int .i64 0]) (by simp [results, Try.results17, go_sem, d0, d1]) rfl ?_
      refine ⟨.slice a5 L5.length c5, ?_, ?_, BB6, ?_⟩
      · rw [HE.out]
      · rw [HE.out]; exact hs6
      · exact fun b hb => .inr (HV5.out b hb)
  · have E : rback L id = (1, L) := by unfold rback; rw [if_neg hin]
    have HE := Lib.hid E
    have hh : id < 1 ∨ (¬ id < 1 ∧ (L.length : Int) < id) := by omega
    have u6 : ∀ W, Upd (fun k => k = w.heap.size + 1) W ((W.setCell ⟨w.heap.size + 1, 0, none⟩ (.slice a L.length cap)).setCell ⟨w.heap.size + 1, 1, none⟩ (.int .i64 C)) := fun W => (Upd.one _ _ _ _).trans (Upd.one _ _ _ _)
    have RD := (R1.set 0 (.slice a L.length cap)).set 1 (.int .i64 C)
    have BB6 := (u6 _).below B0 B0.size (fun i e => by omega)
    have hs6 := ns_keep hs0 (u6 _) (fun b' off' e hp => by have := hbl b' off' e hp; omega)
    clear E hin u6 hs hbl
    go_enter Try.func17, Try.ntmps17
    go_upto_region 1 with (fail)
    obtain ⟨B, hB⟩ : ∃ B, w.heap.size = B := ⟨_, rfl⟩
    obtain ⟨W0, hW0⟩ : ∃ W, ((w.alloc (.cells #[.slice a L.length cap, .int .i64 C] 44)).alloc (.cells #[.slice none 0 0, .int .i64 0] 44)) = W := ⟨_, rfl⟩
    rw [hW0] at R0 R1 B0 hs0 RD BB6 hs6 ⊢
    rw [hB] at R0 R1 RD hs6 ⊢
    have HB := Lib.hid hB
    have HBB := Lib.hid BB6
    clear hW0
    rw [hB] at HBB
    clear hB BB6
    have q0 := R0.cell (i := 0) rfl
    have q1 := R0.cell (i := 1) rfl
    have s0 := R1.cell (i := 0) rfl
    have s1 := R1.cell (i := 1) rfl
    have f0 := R1.frozen 0
    have f1 := R1.frozen 1
    have d0 := RD.cell (i := 0) rfl
    have d1 := RD.cell (i := 1) rfl
    clear R0 R1 B0 hs0
    rcases hh with hh | ⟨hh1, hh⟩
    · have h1 : decide (id < 1) = true := decide_eq_true hh
      clear hh
      go_wp2_with fail
      refine bodyPost_ret (v := .tuple #[.agg #[.slice a L.length cap, .int .i64 C], .int .i64 1]) (by simp [results, Try.results17, go_sem, d0, d1]) rfl ?_
      refine ⟨.slice a L.length cap, ?_, ?_, by rw [HB.out]; exact HBB.out, fun b hb => .inl hb⟩
      · rw [HE.out]
      · rw [HE.out]; exact hs6
    · have h1 : decide (id < 1) = false := decide_eq_false hh1
      have h2 : decide ((L.length : Int) < id) = true := decide_eq_true hh
      clear hh hh1
      go_wp2_with fail
      refine bodyPost_ret (v := .tuple #[.agg #[.slice a L.length cap, .int .i64 C], .int .i64 1]) (by simp [results, Try.results17, go_sem, d0, d1]) rfl ?_
      refine ⟨.slice a L.length cap, ?_, ?_, by rw [HB.out]; exact HBB.out, fun b hb => .inl hb⟩
      · rw [HE.out]
      · rw [HE.out]; exact hs6
end Go.Proofs.Ytnmldhagdgghoaa.Ref06
