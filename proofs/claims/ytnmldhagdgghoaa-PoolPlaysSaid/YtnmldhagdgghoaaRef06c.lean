/- The document's pool (reference of layer 6): Take, Back, Give, walked. -/
import Derived.Test.YtnmldhagdgghoaaRef06b
namespace Go.Proofs.Ytnmldhagdgghoaa.Ref06
open Go Go.RowKit Go.Proofs.Ytnmldhagdgghoaa.Heap Go.Proofs.Ytnmldhagdgghoaa.Open Go.Proofs.Ytnmldhagdgghoaa.Sl Go.Proofs.Ytnmldhagdgghoaa.Pool Go.Proofs.Ytnmldhagdgghoaa.Law06

/-- The document's Take, along a row. -/
def rtake (L : List Nd) : List Int → Int × List Nd
  | [] => (0, L)
  | x :: xs => if (L.getD (x - 1).toNat n0).ou = true then rtake L xs else (x, L.set (x - 1).toNat { L.getD (x - 1).toNat n0 with ou := true })
theorem rtake_drop (L : List Nd) (xs : List Int) (j : Nat) (hj : j < xs.length) (h : (L.getD (xs.getD j 0 - 1).toNat n0).ou = true) : rtake L (xs.drop j) = rtake L (xs.drop (j + 1)) := by
  rw [List.drop_eq_getElem_cons hj]
  rw [getD_lt _ _ _ hj] at h
  show (if _ then _ else _) = _
  rw [if_pos h]
theorem rtake_free (L : List Nd) (xs : List Int) (j : Nat) (hj : j < xs.length) (h : (L.getD (xs.getD j 0 - 1).toNat n0).ou = false) : rtake L (xs.drop j) = (xs.getD j 0, L.set (xs.getD j 0 - 1).toNat { L.getD (xs.getD j 0 - 1).toNat n0 with ou := true }) := by
  rw [List.drop_eq_getElem_cons hj]
  rw [getD_lt _ _ _ hj] at h ⊢
  show (if _ then _ else _) = _
  rw [if_neg (by rw [h]; exact Bool.false_ne_true)]
set_option maxHeartbeats 4000000 in
theorem takeC (w : World) (v : Value) (L : List Nd) (C : Nat) (h : SrcS w v 3 (L.map ncell)) (hL : L.length ≤ 1000) (hC : C ≤ 1000) (t : Int) :
    Calls Try.prog 16 #[.agg #[v, .int .i64 C], .int .i64 t] w fun e w' => ∃ v', e = .returned (.tuple #[.agg #[v', .int .i64 C], .int .i64 (rtake L (refRow L t C)).1]) ∧ SrcS w' v' 3 ((rtake L (refRow L t C)).2.map ncell) ∧ Below w.heap.size w w' ∧ ∀ b, v'.ownBlock = some b → v.ownBlock = some b ∨ w.heap.size ≤ b := by
  have hs := h
  obtain ⟨a, cap, rfl, hcell⟩ := ns_open h
  have R0 : Row ((w.alloc (.cells #[.slice a L.length cap, .int .i64 C] 44)).alloc (.cells #[.slice none 0 0, .int .i64 0] 44)) w.heap.size [.slice a L.length cap, .int .i64 C] := (Row.new' rfl).alloc _
  have R1 : Row ((w.alloc (.cells #[.slice a L.length cap, .int .i64 C] 44)).alloc (.cells #[.slice none 0 0, .int .i64 0] 44)) (w.heap.size + 1) [.slice none 0 0, .int .i64 0] := Row.new' (by simp)
  have B0 : Below w.heap.size w ((w.alloc (.cells #[.slice a L.length cap, .int .i64 C] 44)).alloc (.cells #[.slice none 0 0, .int .i64 0] 44)) := ((Below.refl _ _).alloc (Nat.le_refl _) _).alloc (by simp) _
  have hs0 := hs.below B0
  have hbl : ∀ b off, a = some ⟨b, off, none⟩ → 0 < L.length → b < w.heap.size := fun b off e hp => by
    obtain ⟨b', off', e', hb, _⟩ := hcell hp
    rw [e] at e'
    simp only [Option.some.injEq, Addr.mk.injEq] at e'
    obtain ⟨rfl, -, -⟩ := e'
    exact hb
  have hmem : ∀ x ∈ refRow L t C, ∃ i : Nat, i < L.length ∧ x = (i : Int) + 1 := fun x hx => by
    obtain ⟨i, i1, i2, _⟩ := (mem_ref L t C x).1 hx
    exact ⟨i, i1, i2⟩
  have KR := fun (W : World) (hs : SrcS W (.slice a L.length cap) 3 (L.map ncell)) => rowC W _ L C hs hL hC t
  have hrl : (refRow L t C).length ≤ 1000000 := Nat.le_trans (refRow_len L t C) (Nat.mul_le_mul hC hL)
  obtain ⟨X, hX⟩ : ∃ X, refRow L t C = X := ⟨_, rfl⟩
  rw [hX] at hmem KR hrl ⊢
  have HKR := Lib.hid KR
  have HMEM := Lib.hid hmem
  clear KR hX hmem
  clear h hcell hs
  go_enter Try.func16, Try.ntmps16
  go_upto_region 1 with (fail)
  obtain ⟨B, hB⟩ : ∃ B, w.heap.size = B := ⟨_, rfl⟩
  obtain ⟨W0, hW0⟩ : ∃ W, ((w.alloc (.cells #[.slice a L.length cap, .int .i64 C] 44)).alloc (.cells #[.slice none 0 0, .int .i64 0] 44)) = W := ⟨_, rfl⟩
  rw [hW0] at R0 R1 B0 hs0 ⊢
  rw [hB] at R0 R1 hbl ⊢
  have HB := Lib.hid hB
  clear hW0 hB
  have r0 := R0.cell (i := 0) rfl
  have r1 := R0.cell (i := 1) rfl
  go_wp2_with fail
  refine (HKR.out _ hs0).mono ?_
  rintro e w1 ⟨rv, rfl, hown, hB1⟩
  obtain ⟨ra, rc, rfl⟩ := owned_len1 hown
  have R01 := R0.below hB1 R0.lt
  have R11 := R1.below hB1 R1.lt
  have hs1 := hs0.below hB1
  have BB1 := B0.trans (hB1.mono B0.size)
  have hlen1 : w1.heap.size ≥ W0.heap.size := hB1.size
  have hr1l := R1.lt
  clear r0 r1 R0 R1 hs0 B0 HKR
  go_wp2_with fail
  go_loopw [13] (fun i wr => ∃ j : Nat, j ≤ X.length ∧ i = .int .i64 j ∧ rtake L X = rtake L (X.drop j) ∧ Below w1.heap.size w1 wr) (fun i _ => X.length - (intOf i).toNat)
  case atStart => exact ⟨0, Nat.zero_le _, rfl, rfl, Below.refl _ _⟩
  case round =>
    obtain ⟨j, hj, rfl, htk, hBl⟩ := hrel
    have R0 := R01.below hBl R01.lt
    have R1 := R11.below hBl R11.lt
    have hs := hs1.below hBl
    have BB := BB1.trans (hBl.mono BB1.size)
    have r0 := R0.cell (i := 0) rfl
    by_cases hlt : j < X.length
    · have hlt' : (j : Int) < (X.length : Int) := by omega
      obtain ⟨g, gc, hv, hg, hrow⟩ := owned hown (by omega)
      simp only [Value.slice.injEq] at hv
      obtain ⟨rfl, -, -⟩ := hv
      obtain ⟨i, hi, hxi⟩ := HMEM.out (X.getD j 0) (by rw [getD_lt _ _ _ hlt]; exact List.getElem_mem hlt)
      have cx := (hrow.upd (Upd.of_below (S := fun _ => False) hBl) _root_.id).cell (ints_get (k := .i64) (i := j) (xs := X) hlt)
      rw [hxi] at cx
      obtain ⟨a9, cap9, hv9, hcell⟩ := ns_open hs
      simp only [Value.slice.injEq] at hv9
      obtain ⟨rfl, -, rfl⟩ := hv9
      obtain ⟨b, off, rfl, hb, hc⟩ := hcell (by omega)
      obtain ⟨x0, x1, x2⟩ := hc i hi
      have hi' : (i : Int) < (L.length : Int) := by omega
      have hii : (i : Int) + 1 - 1 = (i : Int) := by omega
      have hin : ((i : Int) + 1 - 1).toNat = i := by omega
      obtain ⟨nd, hnd⟩ : ∃ nd, L.getD i n0 = nd := ⟨_, rfl⟩
      rw [hnd] at x0 x1 x2
      have HND := Lib.hid hnd
      have HIN := Lib.hid hin
      have HXI := Lib.hid hxi
      obtain ⟨fo, fs, fu⟩ := nd
      dsimp only at x0 x1 x2
      have N0 : Row (wr.alloc (.cells #[.int .i64 fo, .int .i64 fs, .bool fu] 60)) wr.heap.size [.int .i64 fo, .int .i64 fs, .bool fu] := Row.new' rfl
      have BA := hBl.alloc hBl.size (.cells #[.int .i64 fo, .int .i64 fs, .bool fu] 60)
      have RA0 := R0.alloc (.cells #[.int .i64 fo, .int .i64 fs, .bool fu] 60)
      have RA1 := R1.alloc (.cells #[.int .i64 fo, .int .i64 fs, .bool fu] 60)
      have hsA := hs.below ((Below.refl wr.heap.size wr).alloc (Nat.le_refl _) (.cells #[.int .i64 fo, .int .i64 fs, .bool fu] 60))
      have BBA := BB.alloc BB.size (.cells #[.int .i64 fo, .int .i64 fs, .bool fu] 60)
      have lt0 := R0.lt
      have lt1 := R1.lt
      have hbB := hbl b off rfl (by omega)
      clear hcell hc hnd hin hxi hrow R0 R1 hs BB hbl
      go_upto_region 5 with (fail)
      obtain ⟨WA, hWA⟩ : ∃ W, wr.alloc (.cells #[.int .i64 fo, .int .i64 fs, .bool fu] 60) = W := ⟨_, rfl⟩
      obtain ⟨A, hA⟩ : ∃ A, wr.heap.size = A := ⟨_, rfl⟩
      rw [hWA] at N0 BA RA0 RA1 hsA BBA ⊢
      rw [hA] at N0 lt0 lt1 hb ⊢
      clear hWA
      have HA := Lib.hid hA
      clear hA r0 cx x0 x1 x2
      have n0' := N0.cell (i := 0) rfl
      have n1' := N0.cell (i := 1) rfl
      have n2' := N0.cell (i := 2) rfl
      cases fu with
      | true =>
        have E := rtake_drop L X j hlt (by rw [HXI.out, HIN.out, HND.out])
        have HE := Lib.hid (htk.trans E)
        clear E
        go_wp2_with fail
        go_roundw
        case rel => exact ⟨j + 1, by omega, by go_num, HE.out, BA⟩
        case measure => simp [intOf]; omega
      | false =>
        have E := htk.trans (rtake_free L X j hlt (by rw [HXI.out, HIN.out, HND.out]))
        rw [HXI.out, HIN.out, HND.out] at E
        have HE := Lib.hid E
        have z2 := N0.frozen 2
        have uA := Upd.one WA A 2 (.bool true)
        have N1 := N0.set 2 (.bool true)
        have RB0 := RA0.upd uA (by omega)
        have RB1 := RA1.upd uA (by omega)
        have hsB := hsA.keep (S := fun b => b ≠ A) (fun b' e => by simp [Value.ownBlock] at e; omega) uA (fun _ h e => h e)
        have BBB := uA.below BBA BBA.size (fun i e => by have := HB.out; omega)
        have KW := withC (WA.setCell ⟨A, 2, none⟩ (.bool true)) _ L C hsB hL i hi ⟨fo, fs, true⟩
        have HKW := Lib.hid KW
        clear E KW hsA RA0 RA1
        go_upto_region 7 with (fail)
        obtain ⟨WB, hWB⟩ : ∃ W, WA.setCell ⟨A, 2, none⟩ (.bool true) = W := ⟨_, rfl⟩
        rw [hWB] at N1 RB0 RB1 hsB BBB HKW ⊢
        clear hWB n0' n1' n2' z2 N0 uA
        have q0 := RB0.cell (i := 0) rfl
        have q1 := RB0.cell (i := 1) rfl
        have m0 := N1.cell (i := 0) rfl
        have m1 := N1.cell (i := 1) rfl
        have m2 := N1.cell (i := 2) rfl
        go_wp2_with fail
        refine HKW.out.mono ?_
        rintro e w5 ⟨v5, rfl, hs5, hB5, hv5⟩
        obtain ⟨a5, c5, rfl, -⟩ := ns_open hs5
        obtain ⟨L5, hL5⟩ : ∃ L5, L.set i ⟨fo, fs, true⟩ = L5 := ⟨_, rfl⟩
        rw [hL5] at hs5 HE hv5 ⊢
        clear hL5
        have HV5 : Hid (∀ b, (Value.slice a5 L5.length c5).ownBlock = some b → w.heap.size ≤ b) := Lib.hid (fun b e => by have := hv5 b e; have := BBB.size; omega)
        have RC1 := RB1.below hB5 RB1.lt
        have BB5 := BBB.trans (hB5.mono BBB.size)
        have s0 := RC1.cell (i := 0) rfl
        have s1 := RC1.cell (i := 1) rfl
        have f0 := RC1.frozen 0
        have f1 := RC1.frozen 1
        have u6 : Upd (fun k => k = B + 1) w5 ((w5.setCell ⟨B + 1, 0, none⟩ (.slice a5 L5.length c5)).setCell ⟨B + 1, 1, none⟩ (.int .i64 C)) := (Upd.one _ _ _ _).trans (Upd.one _ _ _ _)
        have RD := (RC1.set 0 (.slice a5 L5.length c5)).set 1 (.int .i64 C)
        have d0 := RD.cell (i := 0) rfl
        have d1 := RD.cell (i := 1) rfl
        have BB6 := u6.below BB5 BB5.size (fun i e => by have := HB.out; omega)
        have hs6 := hs5.keep (S := fun b => b ≠ B + 1) (fun b e => by have := hv5 b e; have := RB1.lt; omega) u6 (fun _ h e => h e)
        clear hs5 RC1 BB5 u6 hv5 RB0 hsB BBB
        go_wp2_with fail
        refine bodyPost_ret (v := .tuple #[.agg #[.slice a5 L5.length c5, .int .i64 C], .int .i64 ((i : Int) + 1)]) (by simp [results, Try.results16, go_sem, d0, d1]) rfl ?_
        refine ⟨.slice a5 L5.length c5, ?_, ?_, BB6, ?_⟩
        · rw [HE.out]
        · rw [HE.out]; exact hs6
        · exact fun b hb => .inr (HV5.out b hb)
    · obtain rfl : j = X.length := by omega
      rw [List.drop_of_length_le (Nat.le_refl _)] at htk
      have HE := Lib.hid htk
      have r1 := R0.cell (i := 1) rfl
      have s0 := R1.cell (i := 0) rfl
      have s1 := R1.cell (i := 1) rfl
      have f0 := R1.frozen 0
      have f1 := R1.frozen 1
      have u6 : Upd (fun k => k = B + 1) wr ((wr.setCell ⟨B + 1, 0, none⟩ (.slice a L.length cap)).setCell ⟨B + 1, 1, none⟩ (.int .i64 C)) := (Upd.one _ _ _ _).trans (Upd.one _ _ _ _)
      have RD := (R1.set 0 (.slice a L.length cap)).set 1 (.int .i64 C)
      have d0 := RD.cell (i := 0) rfl
      have d1 := RD.cell (i := 1) rfl
      have BB6 := u6.below BB BB.size (fun i e => by have := HB.out; omega)
      have hs6 : SrcS ((wr.setCell ⟨B + 1, 0, none⟩ (.slice a L.length cap)).setCell ⟨B + 1, 1, none⟩ (.int .i64 C)) (.slice a L.length cap) 3 (L.map ncell) := by
        by_cases hp : 0 < L.length
        · obtain ⟨a9, cap9, hv9, hcell⟩ := ns_open hs
          simp only [Value.slice.injEq] at hv9
          obtain ⟨rfl, -, -⟩ := hv9
          obtain ⟨b, off, rfl, -, -⟩ := hcell hp
          have := hbl b off rfl hp
          exact hs.keep (S := fun b => b ≠ B + 1) (fun b' e => by simp [Value.ownBlock] at e; omega) u6 (fun _ h e => h e)
        · exact ⟨a, cap, by rw [List.length_map], fun h => absurd h (by rw [List.length_map]; exact hp)⟩
      clear htk R0 R1 hs BB u6 hs1 R01 R11 BB1
      go_wp2_with fail
      refine bodyPost_ret (v := .tuple #[.agg #[.slice a L.length cap, .int .i64 C], .int .i64 0]) (by simp [results, Try.results16, go_sem, d0, d1]) rfl ?_
      refine ⟨.slice a L.length cap, ?_, ?_, BB6, ?_⟩
      · rw [HE.out]; rfl
      · rw [HE.out]; exact hs6
      · exact fun b hb => .inl hb
/-- A node comes back. -/
def rback (L : List Nd) (id : Int) : Int × List Nd := if 1 ≤ id ∧ id ≤ L.length then (if (L.getD (id - 1).toNat n0).ou = true then (0, L.set (id - 1).toNat { L.getD (id - 1).toNat n0 with ou := false }) else (6, L)) else (1, L)
/-- Kept where only new blocks and one of the call's own changed. -/
theorem ns_keep {w w' : World} {a : Option Addr} {L : List Nd} {cap X : Nat} (h : SrcS w (.slice a L.length cap) 3 (L.map ncell)) (hu : Upd (fun k => k = X) w w') (hx : ∀ b off, a = some ⟨b, off, none⟩ → 0 < L.length → b ≠ X) : SrcS w' (.slice a L.length cap) 3 (L.map ncell) := by
  by_cases hp : 0 < L.length
  · obtain ⟨a9, cap9, hv9, hcell⟩ := ns_open h
    simp only [Value.slice.injEq] at hv9
    obtain ⟨rfl, -, -⟩ := hv9
    obtain ⟨b, off, rfl, -, -⟩ := hcell hp
    have := hx b off rfl hp
    exact h.keep (S := fun b => b ≠ X) (fun b' e => by simp [Value.ownBlock] at e; omega) hu (fun _ h e => h e)
  · exact ⟨a, cap, by rw [List.length_map], fun h => absurd h (by rw [List.length_map]; exact hp)⟩
theorem ns_blk {w : World} {a : Option Addr} {L : List Nd} {cap : Nat} (h : SrcS w (.slice a L.length cap) 3 (L.map ncell)) : ∀ b off, a = some ⟨b, off, none⟩ → 0 < L.length → b < w.heap.size := fun b off e hp => by
  obtain ⟨a9, cap9, hv9, hcell⟩ := ns_open h
  simp only [Value.slice.injEq] at hv9
  obtain ⟨rfl, -, -⟩ := hv9
  obtain ⟨b', off', e', hb, _⟩ := hcell hp
  rw [e] at e'
  simp only [Option.some.injEq, Addr.mk.injEq] at e'
  obtain ⟨rfl, -, -⟩ := e'
  exact hb
end Go.Proofs.Ytnmldhagdgghoaa.Ref06
