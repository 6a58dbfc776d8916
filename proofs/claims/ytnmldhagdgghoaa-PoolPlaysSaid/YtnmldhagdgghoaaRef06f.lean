/- The laws' same (layer 6), walked: the program's pool is the document's. -/
import Derived.Test.YtnmldhagdgghoaaRef06e
import Derived.Deep.RegionHeld3
namespace Go.Proofs.Ytnmldhagdgghoaa.Ref06
open Go Go.RowKit Go.Proofs.Ytnmldhagdgghoaa.Heap Go.Proofs.Ytnmldhagdgghoaa.Open Go.Proofs.Ytnmldhagdgghoaa.Sl Go.Proofs.Ytnmldhagdgghoaa.Pool Go.Proofs.Ytnmldhagdgghoaa.Law06

theorem o_drew {w : World} {p : Nat} {S : Nat → Prop} {rows : List (List Int)} {out : List Bool} (h : O w p S rows out) : O w.drew p S rows out := h.drewN 1
set_option maxHeartbeats 16000000 in
set_option maxRecDepth 20000 in
theorem sameC (w : World) (p : Nat) (S : Nat → Prop) (rows : List (List Int)) (out : List Bool) (hO : O w p S rows out) (v : Value) (L : List Nd) (C K n : Nat) (h : SrcS w v 3 (L.map ncell)) (hL : L.length ≤ 1000) (hC : C ≤ 1000) (hn : n ≤ 6) (R : Rel n rows out L C K) :
    Calls Try.prog 19 #[.pointer (some ⟨p, 0, none⟩), .agg #[v, .int .i64 C], .int .i64 n] w fun e w' => e = .returned (.bool true) ∧ Below w.heap.size w w' := by
  have hs := h
  obtain ⟨a, cap, rfl, hcell⟩ := ns_open h
  have R0 : Row (w.alloc (.cells #[.slice a L.length cap, .int .i64 C] 44)) w.heap.size [.slice a L.length cap, .int .i64 C] := Row.new' rfl
  have B0 : Below w.heap.size w (w.alloc (.cells #[.slice a L.length cap, .int .i64 C] 44)) := (Below.refl _ _).alloc (Nat.le_refl _) _
  have hs0 := hs.below B0
  have hO0 := hO.below B0
  have hbl := ns_blk h
  have hlen : (out.length : Int) - 1 = (L.length : Int) := by rw [R.len]; omega
  have HL := Lib.hid (fun (W : World) (hO : O W p S rows out) => (len_all W p S rows out hO).mono (fun e w' h => (⟨by rw [h.1, hlen], h.2⟩ : e = .returned (.int .i64 (L.length : Int)) ∧ W = w')))
  have HO0 := Lib.hid (fun (W : World) (hO : O W p S rows out) => (of_all W p S rows out hO 0).mono (fun e w' h => (⟨by rw [h.1, R.whose, if_neg (by omega)], h.2⟩ : e = .returned (.int .i64 (-1)) ∧ Below W.heap.size W w')))
  have HO1 := Lib.hid (fun (W : World) (hO : O W p S rows out) => (of_all W p S rows out hO ((L.length : Int) + 1)).mono (fun e w' h => (⟨by rw [h.1, R.whose, if_neg (by omega)], h.2⟩ : e = .returned (.int .i64 (-1)) ∧ Below W.heap.size W w')))
  have HU0 := Lib.hid (fun (W : World) (hO : O W p S rows out) => (out_all W p S rows out hO 0).mono (fun e w' h => (⟨by rw [h.1]; rfl, h.2⟩ : e = .returned (.bool false) ∧ W = w')))
  have HOI := Lib.hid (fun (W : World) (hO : O W p S rows out) (i : Nat) (hi : i < L.length) => (of_all W p S rows out hO ((i : Int) + 1)).mono (fun e w' h => (⟨by rw [h.1, R.whose, if_pos (by omega), show ((i : Int) + 1 - 1).toNat = i by omega], h.2⟩ : e = .returned (.int .i64 (L.getD i n0).of) ∧ Below W.heap.size W w')))
  have HUI := Lib.hid (fun (W : World) (hO : O W p S rows out) (i : Nat) (hi : i < L.length) => (out_all W p S rows out hO ((i : Int) + 1)).mono (fun e w' h => (⟨by rw [h.1, R.isOut i hi], h.2⟩ : e = .returned (.bool (L.getD i n0).ou) ∧ W = w')))
  have HRO := Lib.hid (fun (W : World) (hO : O W p S rows out) (t : Int) => (row_all W p S rows out hO t).mono (fun e w' h => (by obtain ⟨v, h1, h2, h3⟩ := h; rw [R.rowOf] at h2; exact ⟨v, h1, h2, h3⟩ : ∃ v, e = .returned v ∧ w'.ownsRow W.heap.size 3 1 v (refRow L t C).length (ints .i64 (refRow L t C)) ∧ Below W.heap.size W w')))
  have hlw : IntKind.i64.wrap ((L.length : Int) + 1) = (L.length : Int) + 1 := IntWalk.i64_in _ (by omega)
  have hL' : (L.length : Int) ≤ 1000 := by omega
  have hn' : (n : Int) ≤ 6 := by omega
  have hrl : ∀ t, (refRow L t C).length ≤ 1000000 := fun t => Nat.le_trans (refRow_len L t C) (Nat.mul_le_mul hC hL)
  have HRL := Lib.hid hrl
  have HOW := Lib.hid hO
  have HSW := Lib.hid hs
  clear h hs hlen hO R hrl
  go_enter Try.func19, Try.ntmps19
  go_upto_region 1 with (fail)
  obtain ⟨B, hB⟩ : ∃ B, w.heap.size = B := ⟨_, rfl⟩
  obtain ⟨W0, hW0⟩ : ∃ W, w.alloc (.cells #[.slice a L.length cap, .int .i64 C] 44) = W := ⟨_, rfl⟩
  rw [hW0] at R0 B0 hs0 hO0 ⊢
  rw [hB] at R0 hbl ⊢
  have B0d : Below w.heap.size w W0.drew := below_drewN B0 1
  have HB := Lib.hid hB
  clear hW0 hB
  have c0 := R0.cell (i := 0) rfl
  have hOd := o_drew hO0
  have Rd := R0.drew
  have cd := Rd.cell (i := 0) rfl
  go_region_held3 (fun w' => w'.cell? ⟨B, 0, none⟩ = some (.slice a L.length cap)) ((first | exact c0 | exact cd | exact q1 | exact q2))
    ((first
      | (go_at_call 11; refine (HL.out _ (by first | exact hOd | exact hO0)).mono ?_; rintro e w' ⟨rfl, rfl⟩)
      | (go_at_call_of 8 (Value.int IntKind.i64 0); refine (HO0.out _ (by first | exact hOd | exact hO0)).mono ?_; rintro e w1 ⟨rfl, hb1⟩; have hO1 := O.below hOd hb1; have r1 := Rd.below hb1 Rd.lt; have q1 := r1.cell (i := 0) rfl)
      | (go_at_call 8; refine (HO1.out _ hO1).mono ?_; rintro e w2 ⟨rfl, hb2⟩; have hO2 := O.below hO1 hb2; have r2 := r1.below hb2 r1.lt; have q2 := r2.cell (i := 0) rfl)
      | (go_at_call 9; refine (HU0.out _ hO2).mono ?_; rintro e w' ⟨rfl, rfl⟩)))
  have hB2 : Below w.heap.size w w2 := (B0d.trans (hb1.mono B0d.size)).trans (hb2.mono (Nat.le_trans B0d.size hb1.size))
  clear c0 cd q1 hO0 hO1 hO2 hOd Rd r1 hb1 hb2 B0 B0d R0 hs0 HL HO0 HO1 HU0
  go_wp2_with fail
  go_loopw [40] (fun i wr => ∃ j : Nat, j ≤ L.length ∧ i = .int .i64 j ∧ Row wr B [.slice a L.length cap, .int .i64 C] ∧ Below w.heap.size w wr) (fun i _ => L.length - (intOf i).toNat)
  case atStart => exact ⟨0, Nat.zero_le _, rfl, r2, hB2⟩
  case round =>
    clear r2 hB2 q2
    obtain ⟨j, hj, rfl, hR, hBl⟩ := hrel
    by_cases hlt : j < L.length
    · have hlt' : (j : Int) < (L.length : Int) := by omega
      obtain ⟨b, off, rfl, hb, hc⟩ := hcell (by omega)
      obtain ⟨x0, x1, x2⟩ := hc j hlt
      have y0 := (hBl.cell (p := ⟨b, off + j * 3, none⟩) hb).trans x0
      have y1 := (hBl.cell (p := ⟨b, off + j * 3 + 1, none⟩) hb).trans x1
      have y2 := (hBl.cell (p := ⟨b, off + j * 3 + 2, none⟩) hb).trans x2
      have KOI := fun W hO => HOI.out W hO j hlt
      have KUI := fun W hO => HUI.out W hO j hlt
      obtain ⟨nd, hnd⟩ : ∃ nd, L.getD j n0 = nd := ⟨_, rfl⟩
      rw [hnd] at y0 y1 y2 KOI KUI
      obtain ⟨fo, fs, fu⟩ := nd
      dsimp only at y0 y1 y2 KOI KUI
      have HKO := Lib.hid KOI
      have HKU := Lib.hid KUI
      have N0 : Row (wr.alloc (.cells #[.int .i64 fo, .int .i64 fs, .bool fu] 60)) wr.heap.size [.int .i64 fo, .int .i64 fs, .bool fu] := Row.new' rfl
      have hR1 := hR.alloc (.cells #[.int .i64 fo, .int .i64 fs, .bool fu] 60)
      have hB1 := hBl.alloc hBl.size (.cells #[.int .i64 fo, .int .i64 fs, .bool fu] 60)
      have hjw : IntKind.i64.wrap ((j : Int) + 1) = (j : Int) + 1 := IntWalk.i64_in _ (by omega)
      clear hc x0 x1 x2 hnd KOI KUI hR hBl
      go_upto_region 6 with (fail)
      obtain ⟨WA, hWA⟩ : ∃ W, wr.alloc (.cells #[.int .i64 fo, .int .i64 fs, .bool fu] 60) = W := ⟨_, rfl⟩
      obtain ⟨A, hA⟩ : ∃ A, wr.heap.size = A := ⟨_, rfl⟩
      rw [hWA] at N0 hR1 hB1 ⊢
      rw [hA] at N0 ⊢
      clear hWA hA y0 y1 y2
      have c0 := N0.cell (i := 0) rfl
      have c2 := N0.cell (i := 2) rfl
      have Nd := N0.drew
      have Rd := hR1.drew
      have Bd : Below w.heap.size w WA.drew := below_drewN hB1 1
      have hOd := Pool.O.below HOW.out Bd
      have d0 := Nd.cell (i := 0) rfl
      have d2 := Nd.cell (i := 2) rfl
      go_region_held3 (fun w' => w'.cell? ⟨A, 0, none⟩ = some (.int .i64 fo) ∧ w'.cell? ⟨A, 2, none⟩ = some (.bool fu)) ((first | exact ⟨c0, c2⟩ | exact ⟨d0, d2⟩ | exact ⟨e0, e2⟩))
        ((first
          | (go_at_call 8; refine (HKO.out _ hOd).mono ?_; rintro e w1 ⟨rfl, hb1⟩; have B1 := Bd.trans (hb1.mono Bd.size); have hO1 := Pool.O.below HOW.out B1; have r1 := Rd.below hb1 Rd.lt; have n1 := Nd.below hb1 Nd.lt; have e0 := n1.cell (i := 0) rfl; have e2 := n1.cell (i := 2) rfl)
          | (go_at_call 9; refine (HKU.out _ hO1).mono ?_; rintro e w' ⟨rfl, rfl⟩)))
      clear c0 c2 d0 d2 e0 e2 Nd Rd Bd hOd hO1 n1 N0 hR1 hB1
      go_wp2_with fail
      go_roundw
      case rel => exact ⟨j + 1, by omega, by go_num, r1, B1⟩
      case measure => simp [intOf]; omega
    · obtain rfl : j = L.length := by omega
      go_wp2_with fail
      go_loopw [9] (fun i wr => ∃ t : Int, -1 ≤ t ∧ t ≤ (n : Int) + 1 ∧ i = .int .i64 t ∧ Row wr B [.slice a L.length cap, .int .i64 C] ∧ Below w.heap.size w wr) (fun i _ => ((n : Int) + 1 - intOf i).toNat)
      case atStart => exact ⟨-1, by omega, by omega, rfl, hR, hBl⟩
      case round =>
        clear hR hBl
        obtain ⟨t, ht1, ht2, rfl, hR, hBl⟩ := hrel
        by_cases htn : t ≤ (n : Int)
        · have KR := fun W hO => HRO.out W hO t
          have KC := fun (W : World) (hs : SrcS W (.slice a L.length cap) 3 (L.map ncell)) => rowC W _ L C hs hL hC t
          have hxl := HRL.out t
          obtain ⟨X, hX⟩ : ∃ X, refRow L t C = X := ⟨_, rfl⟩
          rw [hX] at KR KC hxl
          have HKR := Lib.hid KR
          have HKC := Lib.hid KC
          have c0 := hR.cell (i := 0) rfl
          have c1 := hR.cell (i := 1) rfl
          have Rd := hR.drew
          have Bd : Below w.heap.size w wr.drew := below_drewN hBl 1
          have hOd := Pool.O.below HOW.out Bd
          have d0 := Rd.cell (i := 0) rfl
          have d1 := Rd.cell (i := 1) rfl
          have htw : IntKind.i64.wrap (t + 1) = t + 1 := IntWalk.i64_in _ (by omega)
          clear KR KC hX
          go_wp2_with fail
          go_region_held3 (fun w' => w'.cell? ⟨B, 0, none⟩ = some (.slice a L.length cap) ∧ w'.cell? ⟨B, 1, none⟩ = some (.int .i64 C)) ((first | exact ⟨c0, c1⟩ | exact ⟨d0, d1⟩ | exact ⟨e0, e1⟩ | exact ⟨f0, f1⟩))
            ((first
              | (go_at_call 14; refine (HKR.out _ hOd).mono ?_; rintro e w1 ⟨v1, rfl, own1, hb1⟩; obtain ⟨a1, k1, rfl⟩ := owned_len1 own1; have B1 := Bd.trans (hb1.mono Bd.size); have hs1 := SrcS.below HSW.out B1; have r1 := Rd.below hb1 Rd.lt; have e0 := r1.cell (i := 0) rfl; have e1 := r1.cell (i := 1) rfl)
              | (go_at_call 27; refine (HKC.out _ hs1).mono ?_; rintro e w2 ⟨v2, rfl, own2, hb2⟩; obtain ⟨a2, k2, rfl⟩ := owned_len1 own2; have B2 := B1.trans (hb2.mono B1.size); have r2 := r1.below hb2 r1.lt; have f0 := r2.cell (i := 0) rfl; have f1 := r2.cell (i := 1) rfl)))
          have own12 := own_upd own1 (Upd.of_below (S := fun _ => False) hb2) (fun _ _ => _root_.id)
          clear c0 c1 d0 d1 e0 e1 f0 f1 Rd Bd hOd hs1 r1 own1 hb1 hb2 hR hBl B1 HKR HKC
          go_wp2_with fail
          go_loopw [80] (fun i wr => ∃ j : Nat, j ≤ X.length ∧ i = .int .i64 j ∧ Upd (fun _ => False) w2 wr) (fun i _ => X.length - (intOf i).toNat)
          case atStart => exact ⟨0, Nat.zero_le _, rfl, Upd.refl _ _⟩
          case round =>
            obtain ⟨j, hj, rfl, hu⟩ := hrel
            by_cases hjl : j < X.length
            · have hjl' : (j : Int) < (X.length : Int) := by omega
              have o1 := own_upd own12 hu (fun _ _ => _root_.id)
              have o2 := own_upd own2 hu (fun _ _ => _root_.id)
              obtain ⟨g1, cap1, hv1, -, hr1⟩ := owned o1 (by omega)
              simp only [Value.slice.injEq] at hv1
              obtain ⟨rfl, -, -⟩ := hv1
              obtain ⟨g2, cap2, hv2, -, hr2⟩ := owned o2 (by omega)
              simp only [Value.slice.injEq] at hv2
              obtain ⟨rfl, -, -⟩ := hv2
              have z1 := hr1.cell (ints_get (k := .i64) (i := j) (xs := X) hjl)
              have z2 := hr2.cell (ints_get (k := .i64) (i := j) (xs := X) hjl)
              obtain ⟨x, hx⟩ : ∃ x, X.getD j 0 = x := ⟨_, rfl⟩
              rw [hx] at z1 z2
              have hxx : (x != x) = false := by simp
              clear o1 o2 hr1 hr2 hx
              go_wp2_with fail
              go_quiet (fail)
              go_wp2_with fail
              go_roundw
              case rel => exact ⟨j + 1, by omega, by go_num, hu.drewN _⟩
              case measure => simp [intOf]; omega
            · obtain rfl : j = X.length := by omega
              have r3 := r2.upd hu _root_.id
              have B3 := hu.below B2 B2.size (fun _ e => e.elim)
              go_wp2_with fail
              go_roundw
              case rel => exact ⟨t + 1, by omega, by omega, by go_num, r3, B3⟩
              case measure => simp [intOf]; omega
        · go_wp2_with fail
          go_ret
          exact ⟨rfl, hBl⟩
end Go.Proofs.Ytnmldhagdgghoaa.Ref06
