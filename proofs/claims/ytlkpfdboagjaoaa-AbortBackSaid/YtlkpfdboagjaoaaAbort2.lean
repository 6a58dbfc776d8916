/- Package abort: Step. -/
import Derived.Test.YtlkpfdboagjaoaaAbortL
import Derived.Test.YtlkpfdboagjaoaaSeatP
import Derived.Deep.CutRange
import Derived.Deep.CutBlock
namespace Go.Proofs.Ytlkpfdboagjaoaa.Abort
open Go Go.RowKit Go.Proofs.Ytlkpfdboagjaoaa.Heap Go.Proofs.Ytlkpfdboagjaoaa.Open Go.Proofs.Ytlkpfdboagjaoaa.Seat Go.Proofs.Ytlkpfdboagjaoaa.Mach Go.Proofs.Ytlkpfdboagjaoaa.Has Go.Proofs.Ytlkpfdboagjaoaa.StepU Go.Proofs.Ytlkpfdboagjaoaa.Cells
variable {l s lb pb cap q p c : Nat} {SP SQ : Nat → Prop} {k : Nat} {hs : List Int} {tl : Int}
/-- Who looks for a node has one left. -/
def RR (c : Nat) (pl : List P) : Prop := ∀ t, t < pl.length → (pl.getD t p0).s = 0 → (pl.getD t p0).r < c
theorem fin_in {sl : List (Int × Int)} {t ev : Int} (h : (fin sl t ev).1 = true) : inB t sl.length = true := by
  unfold fin at h
  by_cases hn : next (state sl t) ev < 0
  · rw [if_pos hn] at h; cases h
  · refine state_in (l := sl) fun e => hn ?_
    rw [e]; unfold next; rw [if_neg (by decide), if_neg (by decide), if_neg (by decide)]; decide
theorem RR.set {pl : List P} (h : RR c pl) (t : Nat) (x : P) (hx : x.s = 0 → x.r < c) : RR c (pl.set t x) := by
  intro u hu hs
  rw [List.length_set] at hu
  by_cases ht : t < pl.length
  · rw [pl_set _ _ ht] at hs ⊢
    split at hs
    · rename_i e; rw [if_pos e]; exact hx hs
    · rename_i e; rw [if_neg e]; exact h u hu hs
  · rw [List.set_eq_of_length_le (by omega)] at hs ⊢; exact h u hu hs
theorem rest_len (pl : List P) (t : Nat) : (rest pl t).length = pl.length := by simp [rest]
theorem step_seats_len (st : St) (t a now : Int) : (step k tl c st t a now).2.seats.length = st.seats.length := by
  show (fin (midS k tl c st t a now).2.seats t (midS k tl c st t a now).1.1).2.length = _
  rw [fin_len]
  unfold midS
  split
  · rw [(lockS_len st t.toNat a _).1]
  · split
    · rw [(unlS_len st t.toNat a).1]
    · rfl
theorem mid_seats (st : St) (t a now : Int) : (midS k tl c st t a now).2.seats = st.seats := by
  unfold midS
  split
  · exact (lockS_len st t.toNat a _).1
  · split
    · exact (unlS_len st t.toNat a).1
    · rfl
theorem lockS_rr {st : St} (u : Nat) (a : Int) (late : Bool) (hr : (st.pls.getD u p0).s = 0 → (st.pls.getD u p0).r < c) :
    (lockS k tl c st u a late).2.pls = st.pls ∨ ∃ y, (lockS k tl c st u a late).2.pls = st.pls.set u y ∧ ((y.s = 0 → y.r < c) ∨ (lockS k tl c st u a late).1.1 = 6) := by
  obtain ⟨⟨d, st'⟩, e⟩ : ∃ r, lockS k tl c st u a late = r := ⟨_, rfl⟩
  rw [e]
  have z : ∀ {y : P} {v : Int}, y.s = v → v ≠ 0 → y.s = 0 → y.r < c := fun h1 h2 h3 => absurd (h1.symm.trans h3) h2
  unfold lockS at e
  dsimp only at e
  split at e
  · rename_i hs0
    have hr := hr hs0
    split at e
    · cases e; exact .inr ⟨_, rfl, .inl (z (v := 1) rfl (by decide))⟩
    · split at e
      · cases e; exact .inr ⟨_, rfl, .inr rfl⟩
      · rename_i h9; cases e; exact .inr ⟨_, rfl, .inl (fun _ => by show (st.pls.getD u p0).r + 1 < (c : Int); omega)⟩
  · rename_i hs0
    split at e
    · cases e; exact .inr ⟨_, rfl, .inl (z (v := 2) rfl (by decide))⟩
    · split at e
      · cases e; exact .inr ⟨_, rfl, .inl (z (v := 3) rfl (by decide))⟩
      · split at e
        · cases e; exact .inr ⟨_, rfl, .inl (z (v := 4) rfl (by decide))⟩
        · split at e
          · rename_i h4
            split at e
            · cases e; exact .inr ⟨_, rfl, .inl (z (v := 4) h4 (by decide))⟩
            · cases e; exact .inr ⟨_, rfl, .inl (z (v := 5) rfl (by decide))⟩
          · split at e
            · cases e; exact .inr ⟨_, rfl, .inl (z (v := 6) rfl (by decide))⟩
            · split at e
              · split at e
                · cases e; exact .inl rfl
                · split at e
                  · cases e; exact .inl rfl
                  · cases e; exact .inr ⟨_, rfl, .inl (z (v := 7) rfl (by decide))⟩
              · split at e
                · cases e; exact .inl rfl
                · cases e; exact .inl rfl
theorem unlS_rr {st : St} (u : Nat) (a : Int) (c1 : 1 ≤ c) : (unlS k tl st u a).2.pls = st.pls ∨ ∃ y, (unlS k tl st u a).2.pls = st.pls.set u y ∧ (y.s = 0 → y.r < c) := by
  obtain ⟨⟨d, st'⟩, e⟩ : ∃ r, unlS k tl st u a = r := ⟨_, rfl⟩
  rw [e]
  have z : ∀ {y : P} {v : Int}, y.s = v → v ≠ 0 → y.s = 0 → y.r < c := fun h1 h2 h3 => absurd (h1.symm.trans h3) h2
  unfold unlS at e
  dsimp only at e
  split at e
  · split at e
    · cases e; exact .inr ⟨_, rfl, z (v := 3) rfl (by decide)⟩
    · cases e
      refine .inr ⟨_, rfl, fun h => ?_⟩
      exfalso
      dsimp only at h
      split at h <;> omega
  · split at e
    · split at e
      · cases e; exact .inr ⟨_, rfl, z (v := 5) rfl (by decide)⟩
      · cases e; exact .inr ⟨_, rfl, z (v := 2) rfl (by decide)⟩
    · split at e
      · split at e
        · cases e; exact .inr ⟨_, rfl, z (v := 5) rfl (by decide)⟩
        · cases e; exact .inr ⟨_, rfl, z (v := 4) rfl (by decide)⟩
      · split at e
        · cases e; exact .inr ⟨_, rfl, fun _ => by show (0 : Int) < (c : Int); omega⟩
        · split at e
          · cases e; exact .inl rfl
          · cases e; exact .inl rfl
theorem step_rr {st : St} (h : RR c st.pls) (c1 : 1 ≤ c) (hl : st.pls.length = st.seats.length) (t a now : Int) : RR c (step k tl c st t a now).2.pls := by
  have key : RR c (midS k tl c st t a now).2.pls ∨ (fin (midS k tl c st t a now).2.seats t (midS k tl c st t a now).1.1).1 = true ∧ ∃ y, (midS k tl c st t a now).2.pls = st.pls.set t.toNat y := by
    rw [mid_seats]
    obtain ⟨⟨d, st'⟩, e⟩ : ∃ r, midS k tl c st t a now = r := ⟨_, rfl⟩
    rw [e]
    unfold midS at e
    split at e
    · rename_i h1
      have hin := state_in (l := st.seats) (t := t) (by omega)
      obtain ⟨u, rfl, hu⟩ := inB_nat hin
      rw [Int.toNat_natCast] at e ⊢
      have hL := lockS_rr (k := k) (tl := tl) u a (lateB st.seats u now) (h u (by rw [hl]; exact hu))
      rw [e] at hL
      rcases hL with h2 | ⟨y, h2, h3 | h3⟩
      · exact .inl (by dsimp only at h2 ⊢; rw [h2]; exact h)
      · exact .inl (by dsimp only at h2 ⊢; rw [h2]; exact h.set _ _ h3)
      · refine .inr ⟨?_, y, h2⟩
        dsimp only at h3 ⊢
        rw [h3]
        unfold fin next
        rw [h1]; rfl
    · split at e
      · rename_i h3
        have hin := state_in (l := st.seats) (t := t) (by omega)
        obtain ⟨u, rfl, hu⟩ := inB_nat hin
        rw [Int.toNat_natCast] at e
        have hL := unlS_rr (k := k) (tl := tl) (st := st) u a c1
        have e2 : (unlS k tl st u a).2 = st' := congrArg Prod.snd e
        rw [e2] at hL
        rcases hL with h2 | ⟨y, h2, h3⟩
        · exact .inl (by dsimp only; rw [h2]; exact h)
        · exact .inl (by dsimp only; rw [h2]; exact h.set _ _ h3)
      · cases e; exact .inl h
  show RR c (if (fin (midS k tl c st t a now).2.seats t (midS k tl c st t a now).1.1).1 = true then rest (midS k tl c st t a now).2.pls t.toNat else (midS k tl c st t a now).2.pls)
  rcases key with k1 | ⟨k1, y, k2⟩
  · split
    · exact k1.set _ _ (fun _ => by show (0 : Int) < (c : Int); omega)
    · exact k1
  · rw [if_pos k1, k2]
    unfold rest
    rw [List.set_set]
    exact h.set _ _ (fun _ => by show (0 : Int) < (c : Int); omega)
set_option maxHeartbeats 16000000 in
set_option maxRecDepth 20000 in
theorem stepC {w : World} {b : Nat} {st : St} (h : O l s lb pb cap q SQ c p SP k hs tl w b st) (hrr : RR c st.pls) (hb : b < 1000000) (t a now : Int) :
    Calls Try.prog 20 #[.pointer (some ⟨l, 0, none⟩), .int .i64 t, .int .i64 a, .int .i64 now] w fun e w' =>
      e = .returned (didv (step k tl c st t a now).1) ∧ O l s lb pb cap q SQ c p SP k hs tl w' (b + 1) (step k tl c st t a now).2 ∧ Upd (ft l s lb pb SP SQ) w w' := by
  have hsep := h.sep
  have HFEW := Lib.hid h.few
  have hup0 : Upd (ft l s lb pb SP SQ) w ((w.alloc (.cells #[.int .i64 0, .bool false, .bool false, .bool false] 51)).alloc (.cells #[.int .i64 0, .bool false, .bool false, .bool false] 51)) := ((Upd.refl _ _).alloc _).alloc _
  have h1 := h.keep (((Upd.refl (fun _ => False) w).alloc (.cells #[.int .i64 0, .bool false, .bool false, .bool false] 51)).alloc (.cells #[.int .i64 0, .bool false, .bool false, .bool false] 51)) (fun _ _ => id)
  have R0 : Row ((w.alloc (.cells #[.int .i64 0, .bool false, .bool false, .bool false] 51)).alloc (.cells #[.int .i64 0, .bool false, .bool false, .bool false] 51)) w.heap.size [.int .i64 0, .bool false, .bool false, .bool false] := (Row.new' rfl).alloc _
  have R1 : Row ((w.alloc (.cells #[.int .i64 0, .bool false, .bool false, .bool false] 51)).alloc (.cells #[.int .i64 0, .bool false, .bool false, .bool false] 51)) (w.heap.size + 1) [.int .i64 0, .bool false, .bool false, .bool false] := Row.new' (by simp)
  obtain ⟨D, hD⟩ : ∃ D, w.heap.size = D := ⟨_, rfl⟩
  have hlD : ∀ i, ft l s lb pb SP SQ i → i < D := by rw [← hD]; exact h.lt
  have HD := Lib.hid hD
  obtain ⟨W, hW⟩ : ∃ W, (w.alloc (.cells #[.int .i64 0, .bool false, .bool false, .bool false] 51)).alloc (.cells #[.int .i64 0, .bool false, .bool false, .bool false] 51) = W := ⟨_, rfl⟩
  rw [hD] at R0 R1
  rw [hW] at hup0 h1 R0 R1
  have HW := Lib.hid hW
  have HWD := Lib.hid (show W.heap.size = D + 2 by rw [← hW, ← hD]; simp)
  clear hD hW h
  have hDn : ∀ i, ft l s lb pb SP SQ i → i ≠ D := fun i hi e => by have := hlD i hi; omega
  have hDn1 : ∀ i, ft l s lb pb SP SQ i → i ≠ D + 1 := fun i hi e => by have := hlD i hi; omega
  obtain ⟨z, hz⟩ : ∃ z, state st.seats t = z := ⟨_, rfl⟩
  have KS := state_all _ _ _ _ _ _ h1.at_.seat t
  rw [hz] at KS
  have HKS := Lib.hid KS
  have KD := deadline_all _ _ _ _ _ _ h1.at_.seat t
  have HE := Lib.hid (show midS k tl c st t a now = if z = 1 then lockS k tl c st t.toNat a (lateB st.seats t now) else if z = 3 then (((unlS k tl st t.toNat a).1, false, false, false), (unlS k tl st t.toNat a).2)
    else ((0, false, false, false), st) by unfold midS; rw [hz])
  have HIN := Lib.hid (show z ≠ 0 → inB t st.seats.length = true from fun e => state_in (by rw [hz]; exact e))
  have HST := Lib.hid (show step k tl c st t a now = ((midS k tl c st t a now).1, { (midS k tl c st t a now).2 with seats := (fin (midS k tl c st t a now).2.seats t (midS k tl c st t a now).1.1).2, pls := if (fin (midS k tl c st t a now).2.seats t (midS k tl c st t a now).1.1).1 = true then rest (midS k tl c st t a now).2.pls t.toNat else (midS k tl c st t a now).2.pls }) from rfl)
  obtain ⟨⟨d, st'⟩, hm⟩ : ∃ r, midS k tl c st t a now = r := ⟨_, rfl⟩
  have hsm := mid_seats (k := k) (tl := tl) (c := c) st t a now
  rw [hm] at HE HST hsm
  have HSM : Hid (st'.seats = st.seats) := Lib.hid hsm
  obtain ⟨dl, hdl⟩ : ∃ y, deadline st.seats t = y := ⟨_, rfl⟩
  have HDL := Lib.hid hdl
  rw [hdl] at KD
  have HKD := Lib.hid KD
  have c0 := h1.at_.top.cell (i := 0) rfl
  clear hz KS hm hsm hdl KD
  go_enter Try.func20, Try.ntmps20
  go_upto_region 2 with (fail)
  rw [HW.out, HD.out]
  go_wp2_with fail
  refine HKS.out.mono ?_
  rintro e w1 ⟨rfl, rfl⟩
  clear HKS
  go_upto_block 0 with (fail)
  go_cut [10] from 17 to 63 (fun _ wx => O l s lb pb cap q SQ c p SP k hs tl wx (b + 1) st' ∧ Row wx (D + 1) (dcells d) ∧ Row wx D [.int .i64 0, .bool false, .bool false, .bool false] ∧ Upd (ft l s lb pb SP SQ) w wx)
  case first =>
    have c2 := h1.at_.top.cell (i := 2) rfl
    have c4 := h1.at_.top.cell (i := 4) rfl
    have r0 := R1.cell (i := 0) rfl
    have r1 := R1.cell (i := 1) rfl
    have r2 := R1.cell (i := 2) rfl
    have r3 := R1.cell (i := 3) rfl
    have f0 := R1.frozen 0
    have f1 := R1.frozen 1
    have f2 := R1.frozen 2
    have f3 := R1.frozen 3
    by_cases z1 : z = 1
    · have hin := HIN.out (by omega)
      obtain ⟨u, rfl, hu⟩ := inB_nat hin
      have he := HE.out
      rw [if_pos z1, Int.toNat_natCast] at he
      have hh1 := h1
      have KR := Pool.row_all W.drew _ _ _ _ (h1.at_.pool.drewN 1) (u : Int)
      rw [row_of _ _ _ hu, rowL_len] at KR
      have HKR := Lib.hid KR
      have hup : u < st.pls.length := by rw [h1.at_.l1]; exact hu
      have HKL : Hid (∀ (w4 : World) (rv : Value), Below W.drew.heap.size W.drew w4 → Src1 w4 rv .i64 (rowL c u) → Calls Try.prog 41 #[.pointer (some ⟨l, 0, none⟩), .pointer (some ⟨pb, u * 4, none⟩), rv, .int .i64 a, .bool (lateB st.seats u now)] w4 fun e w' =>
          e = .returned (didv d) ∧ O l s lb pb cap q SQ c p SP k hs tl w' (b + 1) st' ∧ Upd (ft l s lb pb SP SQ) W w') := Lib.hid fun w4 rv hB hsr => by
        have h4 := h1.keep (((Upd.refl (fun _ => False) W).drewN 1).trans (Upd.of_below (S := fun _ => False) hB)) (fun _ _ => id)
        refine (lockC h4 hb u hu a (lateB st.seats u now) rv hsr (hrr u hup)).mono fun e w' ⟨e1, e2, e3⟩ => ?_
        rw [← he] at e1 e2
        exact ⟨e1, e2, (((Upd.refl (ft l s lb pb SP SQ) W).drewN 1).trans (Upd.of_below hB)).trans e3⟩
      subst z1
      have hq1 : (0 : Int) ≤ (u : Int) := by omega
      have hq2 : (u : Int) < (st.seats.length : Int) := by omega
      obtain ⟨ev, b1, b2, b3⟩ := d
      obtain ⟨lt, hlt⟩ : ∃ y, lateB st.seats u now = y := ⟨_, rfl⟩
      rw [hlt] at HKL
      have hlt' := hlt
      unfold lateB at hlt'
      rw [HDL.out] at hlt'
      clear KR he hin HE HIN
      by_cases d0 : 0 ≤ dl
      · have d0' : decide ((0 : Int) ≤ dl) = true := by simpa using d0
        rw [d0', Bool.true_and] at hlt'
        obtain ⟨lt', hlt2⟩ : ∃ y, decide (dl ≤ now) = y := ⟨_, rfl⟩
        have hll : lt' = lt := hlt2.symm.trans hlt'
        subst hll
        cases lt' with
        | true =>
          have d1 : dl ≤ now := by simpa using hlt2
          clear hlt hlt' hlt2
          go_upto_region 5 with ((go_at_call 40; refine HKD.out.mono ?_; rintro e w' ⟨rfl, rfl⟩))
          go_region_held3 (fun w' => w'.cell? ⟨l, 2, none⟩ = some (.pointer (some ⟨q, 0, none⟩)) ∧ w'.cell? ⟨l, 4, none⟩ = some (.slice (some ⟨pb, 0, none⟩) st.seats.length cap)) ((first | exact ⟨c2, c4⟩ | exact ⟨k2, k4⟩ | exact ⟨m2, m4⟩ | exact ⟨n2, n4⟩))
            ((first
              | (go_at_call 42; refine HKR.out.mono ?_; rintro e w4 ⟨rv, rfl, hown, hB4⟩; have hsr := Src1.of_owned (xs := rowL c u) (by rw [rowL_len]; exact hown); obtain ⟨ra, rc, rfl⟩ := owned_len1 hown; have k2 := (hB4.cell (World.block_lt_of_cell? _ _ c2)).trans c2; have k4 := (hB4.cell (World.block_lt_of_cell? _ _ c4)).trans c4)
              | (go_at_call 41; refine (HKL.out _ _ hB4 hsr).mono ?_; rintro e w3 ⟨rfl, h3, u3⟩; have m2 := h3.at_.top.cell (i := 2) rfl; have m4 := h3.at_.top.cell (i := 4) rfl; rw [HSM.out] at m4; have R3 := R1.upd u3 (fun e => hDn1 _ e rfl); have r0 := R3.cell (i := 0) rfl; have r1 := R3.cell (i := 1) rfl; have r2 := R3.cell (i := 2) rfl; have r3 := R3.cell (i := 3) rfl; have f0 := R3.frozen 0; have f1 := R3.frozen 1; have f2 := R3.frozen 2; have f3 := R3.frozen 3; have UE := upd4 w3 (D + 1) (.int .i64 ev) (.bool b1) (.bool b2) (.bool b3); have n2 := cell_upd UE m2 (fun e => hDn1 l (by simp [ft, fa]) e); have n4 := cell_upd UE m4 (fun e => hDn1 l (by simp [ft, fa]) e); unfold didv)))
          have Q3 := R0.upd u3 (fun e => hDn _ e rfl)
          have up3 := hup0.trans u3
          have RE := did4 R3 (.int .i64 ev) (.bool b1) (.bool b2) (.bool b3)
          clear k2 k4 m2 m4 n2 n4 hown hsr hB4
          go_wp2_with fail
          go_meet
          case rel => exact ⟨h3.keep UE (fun i hi e => hDn1 i hi e), RE, Q3.upd UE (by omega), up3.then UE (fun i hi e => by have := HD.out; omega)⟩
        | false =>
          have d1 : ¬ dl ≤ now := by simpa using hlt2
          have d1' : decide (dl ≤ now) = false := hlt2
          clear hlt hlt' hlt2
          go_upto_region 5 with ((go_at_call 40; refine HKD.out.mono ?_; rintro e w' ⟨rfl, rfl⟩))
          go_region_held3 (fun w' => w'.cell? ⟨l, 2, none⟩ = some (.pointer (some ⟨q, 0, none⟩)) ∧ w'.cell? ⟨l, 4, none⟩ = some (.slice (some ⟨pb, 0, none⟩) st.seats.length cap)) ((first | exact ⟨c2, c4⟩ | exact ⟨k2, k4⟩ | exact ⟨m2, m4⟩ | exact ⟨n2, n4⟩))
            ((first
              | (go_at_call 42; refine HKR.out.mono ?_; rintro e w4 ⟨rv, rfl, hown, hB4⟩; have hsr := Src1.of_owned (xs := rowL c u) (by rw [rowL_len]; exact hown); obtain ⟨ra, rc, rfl⟩ := owned_len1 hown; have k2 := (hB4.cell (World.block_lt_of_cell? _ _ c2)).trans c2; have k4 := (hB4.cell (World.block_lt_of_cell? _ _ c4)).trans c4)
              | (go_at_call 41; refine (HKL.out _ _ hB4 hsr).mono ?_; rintro e w3 ⟨rfl, h3, u3⟩; have m2 := h3.at_.top.cell (i := 2) rfl; have m4 := h3.at_.top.cell (i := 4) rfl; rw [HSM.out] at m4; have R3 := R1.upd u3 (fun e => hDn1 _ e rfl); have r0 := R3.cell (i := 0) rfl; have r1 := R3.cell (i := 1) rfl; have r2 := R3.cell (i := 2) rfl; have r3 := R3.cell (i := 3) rfl; have f0 := R3.frozen 0; have f1 := R3.frozen 1; have f2 := R3.frozen 2; have f3 := R3.frozen 3; have UE := upd4 w3 (D + 1) (.int .i64 ev) (.bool b1) (.bool b2) (.bool b3); have n2 := cell_upd UE m2 (fun e => hDn1 l (by simp [ft, fa]) e); have n4 := cell_upd UE m4 (fun e => hDn1 l (by simp [ft, fa]) e); unfold didv)))
          have Q3 := R0.upd u3 (fun e => hDn _ e rfl)
          have up3 := hup0.trans u3
          have RE := did4 R3 (.int .i64 ev) (.bool b1) (.bool b2) (.bool b3)
          clear k2 k4 m2 m4 n2 n4 hown hsr hB4
          go_wp2_with fail
          go_meet
          case rel => exact ⟨h3.keep UE (fun i hi e => hDn1 i hi e), RE, Q3.upd UE (by omega), up3.then UE (fun i hi e => by have := HD.out; omega)⟩
      · have d0' : decide ((0 : Int) ≤ dl) = false := by simpa using d0
        rw [d0', Bool.false_and] at hlt'
        subst hlt'
        clear hlt
        go_upto_region 5 with ((go_at_call 40; refine HKD.out.mono ?_; rintro e w' ⟨rfl, rfl⟩))
        go_region_held3 (fun w' => w'.cell? ⟨l, 2, none⟩ = some (.pointer (some ⟨q, 0, none⟩)) ∧ w'.cell? ⟨l, 4, none⟩ = some (.slice (some ⟨pb, 0, none⟩) st.seats.length cap)) ((first | exact ⟨c2, c4⟩ | exact ⟨k2, k4⟩ | exact ⟨m2, m4⟩ | exact ⟨n2, n4⟩))
          ((first
            | (go_at_call 42; refine HKR.out.mono ?_; rintro e w4 ⟨rv, rfl, hown, hB4⟩; have hsr := Src1.of_owned (xs := rowL c u) (by rw [rowL_len]; exact hown); obtain ⟨ra, rc, rfl⟩ := owned_len1 hown; have k2 := (hB4.cell (World.block_lt_of_cell? _ _ c2)).trans c2; have k4 := (hB4.cell (World.block_lt_of_cell? _ _ c4)).trans c4)
            | (go_at_call 41; refine (HKL.out _ _ hB4 hsr).mono ?_; rintro e w3 ⟨rfl, h3, u3⟩; have m2 := h3.at_.top.cell (i := 2) rfl; have m4 := h3.at_.top.cell (i := 4) rfl; rw [HSM.out] at m4; have R3 := R1.upd u3 (fun e => hDn1 _ e rfl); have r0 := R3.cell (i := 0) rfl; have r1 := R3.cell (i := 1) rfl; have r2 := R3.cell (i := 2) rfl; have r3 := R3.cell (i := 3) rfl; have f0 := R3.frozen 0; have f1 := R3.frozen 1; have f2 := R3.frozen 2; have f3 := R3.frozen 3; have UE := upd4 w3 (D + 1) (.int .i64 ev) (.bool b1) (.bool b2) (.bool b3); have n2 := cell_upd UE m2 (fun e => hDn1 l (by simp [ft, fa]) e); have n4 := cell_upd UE m4 (fun e => hDn1 l (by simp [ft, fa]) e); unfold didv)))
        have Q3 := R0.upd u3 (fun e => hDn _ e rfl)
        have up3 := hup0.trans u3
        have RE := did4 R3 (.int .i64 ev) (.bool b1) (.bool b2) (.bool b3)
        clear k2 k4 m2 m4 n2 n4 hown hsr hB4
        go_wp2_with fail
        go_meet
        case rel => exact ⟨h3.keep UE (fun i hi e => hDn1 i hi e), RE, Q3.upd UE (by omega), up3.then UE (fun i hi e => by have := HD.out; omega)⟩
    by_cases z3 : z = 3
    · have hin := HIN.out (by omega)
      obtain ⟨u, rfl, hu⟩ := inB_nat hin
      have he := HE.out
      rw [if_neg z1, if_pos z3, Int.toNat_natCast] at he
      have KL := unlC h1 hb u hu a
      obtain ⟨⟨ev, sx⟩, hr⟩ : ∃ r, unlS k tl st u a = r := ⟨_, rfl⟩
      rw [hr] at KL
      rw [hr] at he
      have hd' : d = (ev, false, false, false) := congrArg Prod.fst he
      have hs' : st' = sx := congrArg Prod.snd he
      have HKL := Lib.hid KL
      have hq1 : (0 : Int) ≤ (u : Int) := by omega
      have hq2 : (u : Int) < (st.seats.length : Int) := by omega
      subst z3 hd' hs'
      clear KL he hin HE HIN hr
      go_wp2_with fail
      refine HKL.out.mono ?_
      rintro e w3 ⟨rfl, h3, u3⟩
      have R3 := R1.upd u3 (fun e => hDn1 _ e rfl)
      have Q3 := R0.upd u3 (fun e => hDn _ e rfl)
      have r0 := R3.cell (i := 0) rfl
      have f0 := R3.frozen 0
      have up3 := hup0.trans u3
      clear h1 R1 R0 hup0 u3 HKL
      go_wp2_with fail
      have RE := R3.set 0 (.int .i64 ev)
      have UE := Upd.one w3 (D + 1) 0 (.int .i64 ev)
      go_meet
      case rel => exact ⟨h3.keep UE (fun i hi e => hDn1 i hi e), by simpa [dcells] using RE, Q3.upd UE (by omega), up3.then UE (fun i hi e => by have := HD.out; omega)⟩
    · have he := HE.out
      rw [if_neg z1, if_neg z3] at he
      have e1 : (z == 1) = false := by simpa using z1
      have e2 : (z == 3) = false := by simpa using z3
      have hd' : d = (0, false, false, false) := congrArg Prod.fst he
      have hs' : st' = st := congrArg Prod.snd he
      subst hd' hs'
      clear he z1 z3 HE HIN
      go_wp2_with fail
      go_meet
      case rel => exact ⟨h1.mono (by omega), R1, R0, hup0⟩
  case rest =>
    obtain ⟨h5, r5, q5, u5⟩ := hcut
    obtain ⟨w5, hw5⟩ : ∃ w5, wc = w5 := ⟨_, rfl⟩
    rw [hw5] at h5 r5 q5 u5 ⊢
    obtain ⟨ev, b1, b2, b3⟩ := d
    unfold dcells at r5
    have g0 := h5.at_.top.cell (i := 0) rfl
    have g1 := r5.cell (i := 0) rfl
    have KE := end_all _ _ _ _ _ _ (h5.at_.seat.drewN 1) t ev
    have HKE := Lib.hid KE
    have hfl := fin_len st'.seats t ev
    have hfin := fin_in (sl := st'.seats) (t := t) (ev := ev)
    obtain ⟨fv, hfv⟩ : ∃ fv, fin st'.seats t ev = fv := ⟨_, rfl⟩
    rw [hfv] at HKE hfl hfin
    rw [hfv] at HST
    obtain ⟨fb, fl⟩ := fv
    have HST' := Lib.hid (show step k tl c st t a now = ((ev, b1, b2, b3), { st' with seats := fl, pls := if fb = true then rest st'.pls t.toNat else st'.pls }) from HST.out)
    have h6 := h5.keep ((Upd.refl (fun _ => False) w5).drewN 1) (fun _ _ => id)
    clear KE hfv hw5 HST HE HIN c0 h1 R0 R1 hup0
    go_wp2_with fail
    go_region_held3 (fun w' => w'.cell? ⟨l, 0, none⟩ = some (.pointer (some ⟨s, 0, none⟩)) ∧ w'.cell? ⟨D + 1, 0, none⟩ = some (.int .i64 ev)) ((first | exact ⟨g0, g1⟩ | exact ⟨q0, q1⟩))
      ((first | (go_at_call 44; refine HKE.out.mono ?_; rintro e w7 ⟨rfl, hs7, u7⟩; have h7 := h6.seats fl hfl hs7 u7; have q0 := h7.at_.top.cell (i := 0) rfl; have r7 := (r5.drewN 1).upd u7 (fun e => hDn1 lb (by simp [ft, fa]) e.symm); have q1 := r7.cell (i := 0) rfl)))
    have s7 := (q5.drewN 1).upd u7 (fun e => hDn lb (by simp [ft, fa]) e.symm)
    have up7 : Upd (ft l s lb pb SP SQ) w w7 := (u5.drewN 1).trans (u7.mono fun i _ e => by rw [e]; simp [ft, fa])
    clear q0 q1 g0 g1 h5 h6 r5 q5 u5 u7 hs7 HKE
    cases fb with
    | false =>
      obtain ⟨w9, hw9⟩ : ∃ w9, w7 = w9 := ⟨_, rfl⟩
      have h9 : O l s lb pb cap q SQ c p SP k hs tl w7 (b + 1) { st' with seats := fl } := h7
      have r9 := r7
      have s9 := s7
      have up9 := up7
      rw [hw9] at h9 r9 s9 up9 ⊢
      clear hw9 h7 r7 s7 up7
      have x0 := r9.cell (i := 0) rfl
      have x1 := r9.cell (i := 1) rfl
      have x2 := r9.cell (i := 2) rfl
      have x3 := r9.cell (i := 3) rfl
      have y0 := s9.cell (i := 0) rfl
      have y1 := s9.cell (i := 1) rfl
      have y2 := s9.cell (i := 2) rfl
      have y3 := s9.cell (i := 3) rfl
      have f0 := s9.frozen 0
      have f1 := s9.frozen 1
      have f2 := s9.frozen 2
      have f3 := s9.frozen 3
      go_wp2_with fail
      have RE := did4 s9 (.int .i64 ev) (.bool b1) (.bool b2) (.bool b3)
      have UE := upd4 w9 D (.int .i64 ev) (.bool b1) (.bool b2) (.bool b3)
      obtain ⟨w8, hw8⟩ : ∃ w8, (((w9.setCell ⟨D, 0, none⟩ (.int .i64 ev)).setCell ⟨D, 1, none⟩ (.bool b1)).setCell ⟨D, 2, none⟩ (.bool b2)).setCell ⟨D, 3, none⟩ (.bool b3) = w8 := ⟨_, rfl⟩
      rw [hw8] at RE UE ⊢
      have g0 := RE.cell (i := 0) rfl
      have g1 := RE.cell (i := 1) rfl
      have g2 := RE.cell (i := 2) rfl
      have g3 := RE.cell (i := 3) rfl
      refine bodyPost_ret (v := didv (ev, b1, b2, b3)) (by simp [results, Try.results20, go_sem, didv, g0, g1, g2, g3]) rfl ?_
      rw [HST'.out]
      exact ⟨rfl, (by first | exact h9.keep UE (fun i hi e => hDn i hi e) | (rw [if_neg (by decide)]; exact h9.keep UE (fun i hi e => hDn i hi e))), up9.then UE (fun i hi e => by have := HD.out; omega)⟩
    | true =>
      obtain ⟨u, rfl, hu⟩ := inB_nat (hfin rfl)
      have hq1 : (0 : Int) ≤ (u : Int) := by omega
      have hul : u < fl.length := by rw [hfl]; exact hu
      have hq2 : (u : Int) < (fl.length : Int) := by omega
      have hup : u < st'.pls.length := by have := h7.at_.l1; dsimp only at this; omega
      have hA : At w7 l s lb pb cap q SQ c (.pointer (some ⟨p, 0, none⟩)) tl fl st'.pls := h7.at_
      have c4 := hA.top.cell (i := 4) rfl
      have v0 := hA.cell hul 0 (by decide) _ rfl
      have v1 := hA.cell hul 1 (by decide) _ rfl
      have v2 := hA.cell hul 2 (by decide) _ rfl
      have v3 := hA.cell hul 3 (by decide) _ rfl
      have fv0 := hA.plc.frozen (u * 4)
      have fv1 := hA.plc.frozen (u * 4 + 1)
      have fv2 := hA.plc.frozen (u * 4 + 2)
      have fv3 := hA.plc.frozen (u * 4 + 3)
      obtain ⟨⟨xs, xr, xn, xo⟩, hx⟩ : ∃ y, st'.pls.getD u p0 = y := ⟨_, rfl⟩
      have hok := hA.ok u hup
      rw [hx] at v0 v1 v2 v3 hok
      rw [Nat.add_zero] at v0
      dsimp only at v0 v1 v2 v3
      obtain ⟨o1, o2, o3, o4⟩ := hok
      dsimp only at o1 o2 o3 o4
      have o10 : (0 : Int) ≤ 0 ∧ (0 : Int) ≤ 7 := by decide
      have o20 : (0 : Int) ≤ 0 ∧ (0 : Int) ≤ 8 := by decide
      have o40 : (0 : Int) ≤ 0 ∧ (0 : Int) < 4294967296 := by decide
      have A6 := hA.setP hul 0 (by decide) (.int .i64 0) ⟨0, xr, xn, xo⟩ (by rw [hx]; rfl) ⟨o10, o2, o3, o4⟩
      rw [Nat.add_zero] at A6
      have A7 := A6.setP hul 1 (by decide) (.int .i64 0) ⟨0, 0, xn, xo⟩ (by rw [pl_set _ _ hup, if_pos rfl]; rfl) ⟨o10, o20, o3, o4⟩
      rw [List.set_set] at A7
      have A8 := A7.setP hul 2 (by decide) (.int .i64 xn) ⟨0, 0, xn, xo⟩ (by rw [pl_set _ _ hup, if_pos rfl]; rfl) ⟨o10, o20, o3, o4⟩
      rw [List.set_set] at A8
      have A9 := A8.setP hul 3 (by decide) (.int .i64 0) ⟨0, 0, xn, 0⟩ (by rw [pl_set _ _ hup, if_pos rfl]; rfl) ⟨o10, o20, o3, o40⟩
      rw [List.set_set] at A9
      have U9 := (((Upd.one w7 pb (u * 4) (.int .i64 0)).trans (Upd.one _ pb (u * 4 + 1) (.int .i64 0))).trans (Upd.one _ pb (u * 4 + 2) (.int .i64 xn))).trans (Upd.one _ pb (u * 4 + 3) (.int .i64 0))
      have hO9 : O l s lb pb cap q SQ c p SP k hs tl _ (b + 1) { st' with seats := fl, pls := rest st'.pls u } := ⟨by show At _ _ _ _ _ _ _ _ _ _ _ fl (rest st'.pls u); unfold rest; rw [hx]; exact A9, h7.port.keep U9 (fun i hi e => hsep pb (by simp [fa]) (e ▸ hi)), h7.few, hsep⟩
      have h9 := hO9.keep ((Upd.refl (fun _ => False) _).drewN 1) (fun _ _ => id)
      have r9 := (r7.upd U9 (fun e => hDn1 pb (by simp [ft, fa]) e.symm)).drewN 1
      have s9 := (s7.upd U9 (fun e => hDn pb (by simp [ft, fa]) e.symm)).drewN 1
      have up9 : Upd (ft l s lb pb SP SQ) w _ := (up7.trans (U9.mono fun i _ e => (by rw [e]; simp [ft, fa] : ft l s lb pb SP SQ i))).drewN 1
      clear A6 A7 A8 A9 U9 hO9 hA hx o1 o2 o3 o4 o10 o20 o40 h7 r7 s7 up7 hfin
      go_upto_region 9 with (fail)
      go_region
      obtain ⟨w9, hw9⟩ : ∃ w', ((((w7.setCell ⟨pb, u * 4, none⟩ (.int .i64 0)).setCell ⟨pb, u * 4 + 1, none⟩ (.int .i64 0)).setCell ⟨pb, u * 4 + 2, none⟩ (.int .i64 xn)).setCell ⟨pb, u * 4 + 3, none⟩ (.int .i64 0)).drew = w' := ⟨_, rfl⟩
      have hw9' : ((((w7.setCell ⟨pb, u * 4, none⟩ (.int .i64 0)).setCell ⟨pb, u * 4 + 1, none⟩ (.int .i64 0)).setCell ⟨pb, u * 4 + 2, none⟩ (.int .i64 xn)).setCell ⟨pb, u * 4 + 3, none⟩ (.int .i64 0)).drewN 1 = w9 := hw9
      rw [hw9'] at h9 r9 s9 up9
      rw [hw9]
      clear hw9 hw9' c4 v0 v1 v2 v3 fv0 fv1 fv2 fv3
      have x0 := r9.cell (i := 0) rfl
      have x1 := r9.cell (i := 1) rfl
      have x2 := r9.cell (i := 2) rfl
      have x3 := r9.cell (i := 3) rfl
      have y0 := s9.cell (i := 0) rfl
      have y1 := s9.cell (i := 1) rfl
      have y2 := s9.cell (i := 2) rfl
      have y3 := s9.cell (i := 3) rfl
      have f0 := s9.frozen 0
      have f1 := s9.frozen 1
      have f2 := s9.frozen 2
      have f3 := s9.frozen 3
      go_wp2_with fail
      have RE := did4 s9 (.int .i64 ev) (.bool b1) (.bool b2) (.bool b3)
      have UE := upd4 w9 D (.int .i64 ev) (.bool b1) (.bool b2) (.bool b3)
      obtain ⟨w8, hw8⟩ : ∃ w8, (((w9.setCell ⟨D, 0, none⟩ (.int .i64 ev)).setCell ⟨D, 1, none⟩ (.bool b1)).setCell ⟨D, 2, none⟩ (.bool b2)).setCell ⟨D, 3, none⟩ (.bool b3) = w8 := ⟨_, rfl⟩
      rw [hw8] at RE UE ⊢
      have g0 := RE.cell (i := 0) rfl
      have g1 := RE.cell (i := 1) rfl
      have g2 := RE.cell (i := 2) rfl
      have g3 := RE.cell (i := 3) rfl
      refine bodyPost_ret (v := didv (ev, b1, b2, b3)) (by simp [results, Try.results20, go_sem, didv, g0, g1, g2, g3]) rfl ?_
      rw [HST'.out]
      exact ⟨rfl, (by first | exact h9.keep UE (fun i hi e => hDn i hi e) | (rw [if_pos rfl, Int.toNat_natCast]; exact h9.keep UE (fun i hi e => hDn i hi e))), up9.then UE (fun i hi e => by have := HD.out; omega)⟩
end Go.Proofs.Ytlkpfdboagjaoaa.Abort
