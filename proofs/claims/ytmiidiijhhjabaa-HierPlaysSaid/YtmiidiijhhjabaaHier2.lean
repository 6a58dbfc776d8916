/- Package hier: Step. -/
import Derived.Test.YtmiidiijhhjabaaHierL
import Derived.Deep.CutRange
import Derived.Deep.CutBlock
namespace Go.Proofs.Ytmiidiijhhjabaa.Hier
open Go Go.RowKit Go.Proofs.Ytmiidiijhhjabaa.Heap Go.Proofs.Ytmiidiijhhjabaa.Open Go.Proofs.Ytmiidiijhhjabaa.Seat Go.Proofs.Ytmiidiijhhjabaa.Mach Go.Proofs.Ytmiidiijhhjabaa.Has Go.Proofs.Ytmiidiijhhjabaa.StepU
variable {l s lb pb cap p : Nat} {SP : Nat → Prop} {k : Nat} {hs : List Int} {tl : Int}
theorem At.seats {w w' : World} {pv : Value} {sl sl' : List (Int × Int)} {pl : List P} (h : At w l s lb pb cap pv tl sl pl) (hu : Upd (fun k => k = lb) w w') (hs : Seat.At w' s lb sl' false false) (hl : sl'.length = sl.length) : At w' l s lb pb cap pv tl sl' pl :=
  ⟨by rw [hl]; exact h.top.upd hu h.e1.2.1, hs, h.plc.upd hu h.e2.2, by rw [hl]; exact h.l1, h.e1, h.e2, h.ok, h.tl0⟩
theorem O.lt {w : World} {b : Nat} {st : St} (h : O l s lb pb cap p SP k hs tl w b st) : ∀ i, ft l s lb pb SP i → i < w.heap.size := by
  intro i hi
  rcases hi with hi | rfl | rfl | rfl | rfl
  · obtain ⟨_, hl⟩ := h.port; exact hl i hi
  · exact h.at_.top.lt
  · exact h.at_.seat.top.lt
  · exact h.at_.seat.row.lt
  · exact h.at_.plc.lt
theorem O.keep {w w' : World} {b : Nat} {st : St} {T : Nat → Prop} (h : O l s lb pb cap p SP k hs tl w b st) (hu : Upd T w w') (hd : ∀ i, ft l s lb pb SP i → ¬ T i) : O l s lb pb cap p SP k hs tl w' b st :=
  ⟨h.at_.keep hu (hd l (by simp [ft])) (hd s (by simp [ft])) (hd lb (by simp [ft])) (hd pb (by simp [ft])), h.port.keep hu (fun i hi => hd i (.inl hi)), h.few, h.sep⟩
theorem O.mono {w : World} {b b' : Nat} {st : St} (h : O l s lb pb cap p SP k hs tl w b st) (hb : b ≤ b') : O l s lb pb cap p SP k hs tl w b' st := ⟨h.at_, h.port, Nat.le_trans h.few hb, h.sep⟩
/-- The seats turn. -/
theorem O.seats {w w' : World} {b : Nat} {st : St} (h : O l s lb pb cap p SP k hs tl w b st) (x : List (Int × Int)) (hx : x.length = st.seats.length) (ha : Seat.At w' s lb x false false) (hu : Upd (fun i => i = lb) w w') :
    O l s lb pb cap p SP k hs tl w' b { st with seats := x } := ⟨h.at_.seats hu ha hx, h.port.keep hu (fun _ hi e => h.sep.2.2.1 (e ▸ hi)), h.few, h.sep⟩
theorem lockS_len (st : St) (t : Nat) (a : Int) : (lockS k tl st t a).2.seats = st.seats ∧ (lockS k tl st t a).2.pls.length = st.pls.length := by
  unfold lockS; dsimp only; (repeat' split) <;> simp
theorem unlS_len (st : St) (t : Nat) (a : Int) : (unlS k tl st t a).2.seats = st.seats ∧ (unlS k tl st t a).2.pls.length = st.pls.length := by
  unfold unlS; dsimp only; (repeat' split) <;> simp

set_option maxHeartbeats 8000000 in
theorem stepC {w : World} {b : Nat} {st : St} (h : O l s lb pb cap p SP k hs tl w b st) (hb : b < 1000000) (t a now : Int) :
    Calls Try.prog 20 #[.pointer (some ⟨l, 0, none⟩), .int .i64 t, .int .i64 a, .int .i64 now] w fun e w' =>
      e = .returned (didv (step k tl st t a now).1) ∧ O l s lb pb cap p SP k hs tl w' (b + 1) (step k tl st t a now).2 ∧ Upd (ft l s lb pb SP) w w' := by
  have hsep := h.sep
  have HFEW := Lib.hid h.few
  have hup0 : Upd (ft l s lb pb SP) w ((w.alloc (.cells #[.int .i64 0, .bool false, .bool false, .bool false] 50)).alloc (.cells #[.int .i64 0, .bool false, .bool false, .bool false] 50)) := ((Upd.refl _ _).alloc _).alloc _
  have h1 := h.keep (((Upd.refl (fun _ => False) w).alloc (.cells #[.int .i64 0, .bool false, .bool false, .bool false] 50)).alloc (.cells #[.int .i64 0, .bool false, .bool false, .bool false] 50)) (fun _ _ => id)
  have R0 : Row ((w.alloc (.cells #[.int .i64 0, .bool false, .bool false, .bool false] 50)).alloc (.cells #[.int .i64 0, .bool false, .bool false, .bool false] 50)) w.heap.size [.int .i64 0, .bool false, .bool false, .bool false] := (Row.new' rfl).alloc _
  have R1 : Row ((w.alloc (.cells #[.int .i64 0, .bool false, .bool false, .bool false] 50)).alloc (.cells #[.int .i64 0, .bool false, .bool false, .bool false] 50)) (w.heap.size + 1) [.int .i64 0, .bool false, .bool false, .bool false] := Row.new' (by simp)
  obtain ⟨D, hD⟩ : ∃ D, w.heap.size = D := ⟨_, rfl⟩
  have hlD : ∀ i, ft l s lb pb SP i → i < D := by rw [← hD]; exact h.lt
  have HD := Lib.hid hD
  obtain ⟨W, hW⟩ : ∃ W, (w.alloc (.cells #[.int .i64 0, .bool false, .bool false, .bool false] 50)).alloc (.cells #[.int .i64 0, .bool false, .bool false, .bool false] 50) = W := ⟨_, rfl⟩
  rw [hD] at R0 R1
  rw [hW] at hup0 h1 R0 R1
  have HW := Lib.hid hW
  clear hD hW h
  have hDn : ∀ i, ft l s lb pb SP i → i ≠ D := fun i hi e => by have := hlD i hi; omega
  have hDn1 : ∀ i, ft l s lb pb SP i → i ≠ D + 1 := fun i hi e => by have := hlD i hi; omega
  obtain ⟨z, hz⟩ : ∃ z, state st.seats t = z := ⟨_, rfl⟩
  have KS := state_all _ _ _ _ _ _ h1.at_.seat t
  rw [hz] at KS
  have HKS := Lib.hid KS
  have HE := Lib.hid (show midS k tl st t a = if z = 1 then lockS k tl st t.toNat a else if z = 3 then (((unlS k tl st t.toNat a).1, false, false, false), (unlS k tl st t.toNat a).2)
    else ((0, false, false, false), st) by unfold midS; rw [hz])
  have HIN := Lib.hid (show z ≠ 0 → inB t st.seats.length = true from fun e => state_in (by rw [hz]; exact e))
  have HST := Lib.hid (show step k tl st t a now = ((midS k tl st t a).1, { (midS k tl st t a).2 with seats := (fin (midS k tl st t a).2.seats t (midS k tl st t a).1.1).2 }) from rfl)
  obtain ⟨⟨d, st'⟩, hm⟩ : ∃ r, midS k tl st t a = r := ⟨_, rfl⟩
  rw [hm] at HE HST
  have c0 := h1.at_.top.cell (i := 0) rfl
  clear hz KS hm
  go_enter Try.func20, Try.ntmps20
  go_upto_region 2 with (fail)
  rw [HW.out, HD.out]
  go_wp2_with fail
  refine HKS.out.mono ?_
  rintro e w1 ⟨rfl, rfl⟩
  clear HKS
  go_upto_block 0 with (fail)
  go_cut [10] from 16 to 38 (fun _ wx => O l s lb pb cap p SP k hs tl wx (b + 1) st' ∧ Row wx (D + 1) (dcells d) ∧ Row wx D [.int .i64 0, .bool false, .bool false, .bool false] ∧ Upd (ft l s lb pb SP) w wx ∧ st'.seats.length = st.seats.length)
  case first =>
    have c1 := h1.at_.top.cell (i := 1) rfl
    have c2 := h1.at_.top.cell (i := 2) rfl
    have c3 := h1.at_.top.cell (i := 3) rfl
    have tl0 := h1.at_.tl0
    have r0 := R1.cell (i := 0) rfl
    have r1 := R1.cell (i := 1) rfl
    have r2 := R1.cell (i := 2) rfl
    have r3 := R1.cell (i := 3) rfl
    have f0 := R1.frozen 0
    have f1 := R1.frozen 1
    have f2 := R1.frozen 2
    have f3 := R1.frozen 3
    by_cases z1 : z = 1
    · have hin := HIN.out (by omega)
      obtain ⟨q, rfl, hq⟩ := inB_nat hin
      have he := HE.out
      rw [if_pos z1, Int.toNat_natCast] at he
      have KL := lockC h1 hb q hq a
      rw [← he] at KL
      have HKL := Lib.hid KL
      have hsl : st'.seats.length = st.seats.length := by
        have : st' = (lockS k tl st q a).2 := congrArg Prod.snd he
        rw [this, (lockS_len st q a).1]
      have HSL := Lib.hid hsl
      subst z1
      have hq1 : (0 : Int) ≤ (q : Int) := by omega
      have hq2 : (q : Int) < (st.seats.length : Int) := by omega
      obtain ⟨ev, b1, b2, b3⟩ := d
      clear KL he hin hsl HE HIN
      go_wp2_with fail
      refine HKL.out.mono ?_
      rintro e w3 ⟨rfl, h3, u3⟩
      have R3 := R1.upd u3 (fun e => hDn1 _ e rfl)
      have Q3 := R0.upd u3 (fun e => hDn _ e rfl)
      have r0 := R3.cell (i := 0) rfl
      have r1 := R3.cell (i := 1) rfl
      have r2 := R3.cell (i := 2) rfl
      have r3 := R3.cell (i := 3) rfl
      have f0 := R3.frozen 0
      have f1 := R3.frozen 1
      have f2 := R3.frozen 2
      have f3 := R3.frozen 3
      have up3 := hup0.trans u3
      unfold didv
      clear h1 R1 R0 hup0 u3 HKL
      go_wp2_with fail
      have RE := did4 R3 (.int .i64 ev) (.bool b1) (.bool b2) (.bool b3)
      have UE := upd4 w3 (D + 1) (.int .i64 ev) (.bool b1) (.bool b2) (.bool b3)
      go_meet
      case rel => exact ⟨h3.keep UE (fun i hi e => hDn1 i hi e), RE, Q3.upd UE (by omega), up3.then UE (fun i hi e => by have := HD.out; omega), HSL.out⟩
    by_cases z3 : z = 3
    · have hin := HIN.out (by omega)
      obtain ⟨q, rfl, hq⟩ := inB_nat hin
      have he := HE.out
      rw [if_neg z1, if_pos z3, Int.toNat_natCast] at he
      have KL := unlC h1 hb q hq a
      obtain ⟨⟨ev, sx⟩, hr⟩ : ∃ r, unlS k tl st q a = r := ⟨_, rfl⟩
      rw [hr] at KL
      have hsx : sx.seats.length = st.seats.length := by
        have := (unlS_len (k := k) (tl := tl) st q a).1
        rw [hr] at this
        exact congrArg List.length this
      have HSL := Lib.hid hsx
      rw [hr] at he
      have hd' : d = (ev, false, false, false) := congrArg Prod.fst he
      have hs' : st' = sx := congrArg Prod.snd he
      have HKL := Lib.hid KL
      have hq1 : (0 : Int) ≤ (q : Int) := by omega
      have hq2 : (q : Int) < (st.seats.length : Int) := by omega
      subst z3 hd' hs'
      clear KL he hin hsx HE HIN hr
      go_wp2_with fail
      refine HKL.out.mono ?_
      rintro e w3 ⟨rfl, h3, u3⟩
      have R3 := R1.upd u3 (fun e => hDn1 _ e rfl)
      have Q3 := R0.upd u3 (fun e => hDn _ e rfl)
      have r0 := R3.cell (i := 0) rfl
      have f0 := R3.frozen 0
      have up3 := hup0.trans u3
      clear h1 R1 R0 hup0 u3 HKL
      go_wp2_with fail
      have RE := R3.set 0 (.int .i64 ev)
      have UE := Upd.one w3 (D + 1) 0 (.int .i64 ev)
      go_meet
      case rel => exact ⟨h3.keep UE (fun i hi e => hDn1 i hi e), by simpa [dcells] using RE, Q3.upd UE (by omega), up3.then UE (fun i hi e => by have := HD.out; omega), HSL.out⟩
    · have he := HE.out
      rw [if_neg z1, if_neg z3] at he
      have e1 : (z == 1) = false := by simpa using z1
      have e2 : (z == 3) = false := by simpa using z3
      have hd' : d = (0, false, false, false) := congrArg Prod.fst he
      have hs' : st' = st := congrArg Prod.snd he
      subst hd' hs'
      clear he z1 z3 HE HIN
      go_wp2_with fail
      go_meet
      case rel => exact ⟨h1.mono (by omega), R1, R0, hup0, (by first | rfl | trivial)⟩
  case rest =>
    obtain ⟨h5, r5, q5, u5, l5⟩ := hcut
    obtain ⟨w5, hw5⟩ : ∃ w5, wc = w5 := ⟨_, rfl⟩
    rw [hw5] at h5 r5 q5 u5 ⊢
    obtain ⟨ev, b1, b2, b3⟩ := d
    unfold dcells at r5
    have g0 := h5.at_.top.cell (i := 0) rfl
    have g1 := r5.cell (i := 0) rfl
    have KE := end_all _ _ _ _ _ _ (h5.at_.seat.drewN 1) t ev
    have HKE := Lib.hid KE
    have hfl := fin_len st'.seats t ev
    obtain ⟨fv, hfv⟩ : ∃ fv, fin st'.seats t ev = fv := ⟨_, rfl⟩
    rw [hfv] at HKE hfl
    rw [hfv] at HST
    obtain ⟨fb, fl⟩ := fv
    have HST' := Lib.hid (show step k tl st t a now = ((ev, b1, b2, b3), { st' with seats := fl }) from HST.out)
    have h6 := h5.keep ((Upd.refl (fun _ => False) w5).drewN 1) (fun _ _ => id)
    clear KE hfv hw5 HST HE HIN c0 h1 R0 R1 hup0
    go_wp2_with fail
    go_region_held3 (fun w' => w'.cell? ⟨l, 0, none⟩ = some (.pointer (some ⟨s, 0, none⟩)) ∧ w'.cell? ⟨D + 1, 0, none⟩ = some (.int .i64 ev)) ((first | exact ⟨g0, g1⟩ | exact ⟨q0, q1⟩))
      ((first | (go_at_call 40; refine HKE.out.mono ?_; rintro e w7 ⟨rfl, hs7, u7⟩; have h7 := h6.seats fl hfl hs7 u7; have q0 := h7.at_.top.cell (i := 0) rfl; have r7 := (r5.drewN 1).upd u7 (fun e => hDn1 lb (by simp [ft]) e.symm); have q1 := r7.cell (i := 0) rfl)))
    have s7 := (q5.drewN 1).upd u7 (fun e => hDn lb (by simp [ft]) e.symm)
    have x1 := r7.cell (i := 1) rfl
    have x2 := r7.cell (i := 2) rfl
    have x3 := r7.cell (i := 3) rfl
    have y0 := s7.cell (i := 0) rfl
    have y1 := s7.cell (i := 1) rfl
    have y2 := s7.cell (i := 2) rfl
    have y3 := s7.cell (i := 3) rfl
    have f0 := s7.frozen 0
    have f1 := s7.frozen 1
    have f2 := s7.frozen 2
    have f3 := s7.frozen 3
    have up7 : Upd (ft l s lb pb SP) w w7 := (u5.drewN 1).trans (u7.mono fun i _ e => by rw [e]; simp [ft])
    go_wp2_with fail
    have RE := did4 s7 (.int .i64 ev) (.bool b1) (.bool b2) (.bool b3)
    have UE := upd4 w7 D (.int .i64 ev) (.bool b1) (.bool b2) (.bool b3)
    obtain ⟨w8, hw8⟩ : ∃ w8, (((w7.setCell ⟨D, 0, none⟩ (.int .i64 ev)).setCell ⟨D, 1, none⟩ (.bool b1)).setCell ⟨D, 2, none⟩ (.bool b2)).setCell ⟨D, 3, none⟩ (.bool b3) = w8 := ⟨_, rfl⟩
    rw [hw8] at RE UE ⊢
    have g0 := RE.cell (i := 0) rfl
    have g1 := RE.cell (i := 1) rfl
    have g2 := RE.cell (i := 2) rfl
    have g3 := RE.cell (i := 3) rfl
    refine bodyPost_ret (v := didv (ev, b1, b2, b3)) (by simp [results, Try.results20, go_sem, didv, g0, g1, g2, g3]) rfl ?_
    rw [HST'.out]
    exact ⟨rfl, h7.keep UE (fun i hi e => hDn i hi e), up7.then UE (fun i hi e => by have := HD.out; omega)⟩
end Go.Proofs.Ytmiidiijhhjabaa.Hier
