/- The laws' Plays, walked for whatever lock and whatever document's lock do the same. -/
import Derived.Test.YtlkpfdboagjaoaaModl
import Derived.Deep.QuietTactic
import Derived.Deep.RegionHeld3
import Derived.Deep.RegionWith
import Derived.Deep.CutRange
import Derived.Deep.CutBlock
namespace Go.Proofs.Ytlkpfdboagjaoaa.Plays
open Go Go.RowKit Go.Proofs.Ytlkpfdboagjaoaa.Heap Go.Proofs.Ytlkpfdboagjaoaa.Open Go.Proofs.Ytlkpfdboagjaoaa.Seat Go.Proofs.Ytlkpfdboagjaoaa.Mach Go.Proofs.Ytlkpfdboagjaoaa.Has Go.Proofs.Ytlkpfdboagjaoaa.Ref09 Go.Proofs.Ytlkpfdboagjaoaa.Modl Go.Proofs.Ytlkpfdboagjaoaa.StepU

set_option maxHeartbeats 8000000 in
theorem doC {σ : Type} {l s x sx sb db y : Nat} {td pd : Bool} {ft fm R : Nat → Prop} {n : Nat} {seats : σ → List (Int × Int)} {setS : σ → List (Int × Int) → σ} {step : σ → Int → Int → Int → Did × σ} {ws : σ → List Int} {ts : σ → List T} {O : World → Nat → σ → Prop} {OM : World → σ → Prop}
    (M : Mach l s td pd ft n seats setS step O) (D : Modl x sx sb db td pd fm n seats setS step ws ts OM) (w : World) {b : Nat} {st : σ} (hO : O w b st) (hb : b < 1000) (hM : OM w st) (hR : Ref04.RO w y R n (ws st) (ts st)) (hf : (ts st).length < 1000000)
    (d1 : ∀ i, ft i → ¬ fm i) (d2 : ∀ i, R i → ¬ ft i ∧ ¬ fm i) (k t N lt now : Int) :
    Calls Try.prog 49 #[val l, mval x, .pointer (some ⟨y, 0, none⟩), .agg #[.int .i64 k, .int .i64 t, .int .i64 N, .int .i64 lt], .int .i64 now] w fun e w' => e = .returned (.bool true) ∧ ∃ b' st' R', b' ≤ b + 1 ∧ O w' b' st' ∧ OM w' st' ∧ Ref04.RO w' y R' n (ws st') (ts st') ∧ Upd (fun i => ft i ∨ fm i ∨ R i) w w' ∧ (∀ i, R' i → R i ∨ w.heap.size ≤ i) ∧
      ((k = 4 ∧ st' = (step st t t now).2) ∨ (k ≠ 4 ∧ ts st' = ts st)) := by
  have lO := M.lt hO
  have lM := D.lt hM
  have hO1 := M.keep hO ((Upd.refl (fun _ => False) w).alloc (.cells #[.int .i64 k, .int .i64 t, .int .i64 N, .int .i64 lt] 47)) (fun _ _ => id)
  have hM1 := D.keep hM ((Upd.refl (fun _ => False) w).alloc (.cells #[.int .i64 k, .int .i64 t, .int .i64 N, .int .i64 lt] 47)) (fun _ _ => id)
  have hR1 := hR.alloc (.cells #[.int .i64 k, .int .i64 t, .int .i64 N, .int .i64 lt] 47)
  have lR := hR.lt
  have R1 : Row (w.alloc (.cells #[.int .i64 k, .int .i64 t, .int .i64 N, .int .i64 lt] 47)) w.heap.size [.int .i64 k, .int .i64 t, .int .i64 N, .int .i64 lt] := Row.new' rfl
  have up1 : Upd (fun i => ft i ∨ fm i ∨ R i) w (w.alloc (.cells #[.int .i64 k, .int .i64 t, .int .i64 N, .int .i64 lt] 47)) := (Upd.refl _ w).alloc _
  have hz : (w.alloc (.cells #[.int .i64 k, .int .i64 t, .int .i64 N, .int .i64 lt] 47)).heap.size = w.heap.size + 1 := by simp
  unfold val mval
  go_enter Try.func49, Try.ntmps49
  go_upto_region 1 with (fail)
  obtain ⟨W, hW⟩ : ∃ W, w.alloc (.cells #[.int .i64 k, .int .i64 t, .int .i64 N, .int .i64 lt] 47) = W := ⟨_, rfl⟩
  obtain ⟨A, hA⟩ : ∃ A, w.heap.size = A := ⟨_, rfl⟩
  rw [hW] at hO1 hM1 hR1 R1 up1 hz ⊢
  rw [hA] at R1 lO lM lR hz ⊢
  have HA := Lib.hid hA
  have HD1 := Lib.hid d1
  have HD2 := Lib.hid d2
  have p0 := R1.cell (i := 0) rfl
  have p1 := R1.cell (i := 1) rfl
  have p2 := R1.cell (i := 2) rfl
  have q1 := m_seats x W
  have HM := Lib.hid (D.seatsC hM1)
  clear hW hA hO hM hR d1 d2
  go_wp2_with fail
  refine HM.out.mono ?_
  rintro e w1 ⟨rfl, rfl⟩
  have mp := M.ptr (M.keep hO1 ((Upd.refl (fun _ => False) W).drew) (fun _ _ => id))
  have fin' : ∀ (w5 w6 : World) (l' : List (Int × Int)), Shift (seats st) l' → O w5 b (setS st l') → Upd ft W.drew w5 → RAt w6 sx sb db l' td pd → Upd (fun i => i = sb ∨ i = db) w5 w6 → k ≠ 4 →
      ∃ b' st' R', b' ≤ b + 1 ∧ O w6 b' st' ∧ OM w6 st' ∧ Ref04.RO w6 y R' n (ws st') (ts st') ∧ Upd (fun i => ft i ∨ fm i ∨ R i) w w6 ∧ (∀ i, R' i → R i ∨ w.heap.size ≤ i) ∧ ((k = 4 ∧ st' = (step st t t now).2) ∨ (k ≠ 4 ∧ ts st' = ts st)) := by
    intro w5 w6 l' hs h5 u5 h6 u6 hk
    obtain ⟨f1, f2, f3⟩ := D.fs
    have u6m : Upd fm w5 w6 := u6.mono fun i _ e => by rcases e with rfl | rfl; exact f2; exact f3
    have uall : Upd (fun i => ft i ∨ fm i) W w6 := (((Upd.refl _ W).drew).trans (u5.mono fun i _ e => .inl e)).trans (u6m.mono fun i _ e => .inr e)
    have hM5 := D.keep (D.keep hM1 ((Upd.refl (fun _ => False) W).drew) (fun _ _ => id)) u5 (fun i hi e => HD1.out i e hi)
    refine ⟨b, setS st l', R, by omega, M.keep h5 u6m (fun i hi e => HD1.out i hi e), ?_, ?_, up1.trans (uall.mono fun i _ e => by rcases e with e | e; exact .inl e; exact .inr (.inl e)), fun i hi => .inl hi, .inr ⟨hk, D.tsS _ _⟩⟩
    · exact D.turn hM5 hs h6 u6
    · rw [D.wsS, D.tsS]
      exact hR1.keep uall (fun i hi e => by rcases e with e | e; exact (HD2.out i hi).1 e; exact (HD2.out i hi).2 e)
  have FIN := Lib.hid fin'
  clear fin' q1 HM
  by_cases e1 : k = 1
  · subst e1
    have ml := m_lock l s W.drew mp
    have KL := M.lockC (M.keep hO1 ((Upd.refl (fun _ => False) W).drew) (fun _ _ => id)) t N
    have HKL := Lib.hid KL
    have HRL := Lib.hid (fun (w5 : World) (h5 : RAt w5 sx sb db (seats st) td pd) => rlock_all w5 sx sb db (seats st) td pd h5 t N)
    have HSE := Lib.hid (fun (w5 : World) (u5 : Upd ft W.drew w5) => D.seat (D.keep (D.keep hM1 ((Upd.refl (fun _ => False) W).drew) (fun _ _ => id)) u5 (fun i hi e => HD1.out i e hi)))
    have hAf : ¬ ft A := fun h => by have := lO _ h; omega
    clear KL mp
    go_wp2_with fail
    go_region_held3 (fun w' => w'.cell? ⟨A, 1, none⟩ = some (.int .i64 t) ∧ w'.cell? ⟨A, 2, none⟩ = some (.int .i64 N)) ((first | exact ⟨p1, p2⟩ | exact ⟨r1, r2⟩ | exact ⟨r3, r4⟩))
      ((first | (go_at_call 18; refine HKL.out.mono ?_; rintro e w5 ⟨rfl, h5, u5⟩; have r1 := cell_upd u5 p1 hAf; have r2 := cell_upd u5 p2 hAf) | (go_at_call 63; refine (HRL.out _ (HSE.out _ u5)).mono ?_; rintro e w6 ⟨rfl, h6, u6⟩; have hAb : ¬ (A = sb ∨ A = db) := (fun h => by have f := D.fs; rcases h with h | h; (have := lM A (h ▸ f.2.1); omega); (have := lM A (h ▸ f.2.2); omega)); have r3 := cell_upd u6 r1 hAb; have r4 := cell_upd u6 r2 hAb)))
    go_wp2_with fail
    go_ret
    exact ⟨by first | rfl | simp, FIN.out _ _ _ (shift_lock _ _ _ _) h5 u5 h6 u6 (by decide)⟩
  have E1 : (k == 1) = false := by simpa using e1
  by_cases e2 : k = 2
  · subst e2
    have ml := m_unlock l s W.drew mp
    have KL := M.unlockC (M.keep hO1 ((Upd.refl (fun _ => False) W).drew) (fun _ _ => id)) t
    have HKL := Lib.hid KL
    have HRL := Lib.hid (fun (w5 : World) (h5 : RAt w5 sx sb db (seats st) td pd) => rturn3 w5 sx sb db (seats st) td pd h5 t)
    have HSE := Lib.hid (fun (w5 : World) (u5 : Upd ft W.drew w5) => D.seat (D.keep (D.keep hM1 ((Upd.refl (fun _ => False) W).drew) (fun _ _ => id)) u5 (fun i hi e => HD1.out i e hi)))
    have hAf : ¬ ft A := fun h => by have := lO _ h; omega
    clear KL mp
    go_wp2_with fail
    go_region_held3 (fun w' => w'.cell? ⟨A, 1, none⟩ = some (.int .i64 t)) ((first | exact p1 | exact r1 | exact r3))
      ((first | (go_at_call 19; refine HKL.out.mono ?_; rintro e w5 ⟨rfl, h5, u5⟩; have r1 := cell_upd u5 p1 hAf) | (go_at_call 64; refine (HRL.out _ (HSE.out _ u5)).mono ?_; rintro e w6 ⟨rfl, h6, u6⟩; have hAb : ¬ (A = sb ∨ A = db) := (fun h => by have f := D.fs; rcases h with h | h; (have := lM A (h ▸ f.2.1); omega); (have := lM A (h ▸ f.2.2); omega)); have r3 := cell_upd u6 r1 hAb)))
    go_wp2_with fail
    go_ret
    exact ⟨by first | rfl | simp, FIN.out _ _ _ (shift_turn _ _) h5 u5 h6 u6 (by decide)⟩
  have E2 : (k == 2) = false := by simpa using e2
  by_cases e3 : k = 3
  · subst e3
    have ml := m_probe l s W.drew mp
    have KL := M.probeC (M.keep hO1 ((Upd.refl (fun _ => False) W).drew) (fun _ _ => id)) t
    have HKL := Lib.hid KL
    have HRL := Lib.hid (fun (w5 : World) (h5 : RAt w5 sx sb db (seats st) td pd) => rturn4 w5 sx sb db (seats st) td pd h5 t)
    have HSE := Lib.hid (fun (w5 : World) (u5 : Upd ft W.drew w5) => D.seat (D.keep (D.keep hM1 ((Upd.refl (fun _ => False) W).drew) (fun _ _ => id)) u5 (fun i hi e => HD1.out i e hi)))
    have hAf : ¬ ft A := fun h => by have := lO _ h; omega
    clear KL mp
    go_wp2_with fail
    go_region_held3 (fun w' => w'.cell? ⟨A, 1, none⟩ = some (.int .i64 t)) ((first | exact p1 | exact r1 | exact r3))
      ((first | (go_at_call 102; refine HKL.out.mono ?_; rintro e w5 ⟨rfl, h5, u5⟩; have r1 := cell_upd u5 p1 hAf) | (go_at_call 64; refine (HRL.out _ (HSE.out _ u5)).mono ?_; rintro e w6 ⟨rfl, h6, u6⟩; have hAb : ¬ (A = sb ∨ A = db) := (fun h => by have f := D.fs; rcases h with h | h; (have := lM A (h ▸ f.2.1); omega); (have := lM A (h ▸ f.2.2); omega)); have r3 := cell_upd u6 r1 hAb)))
    go_wp2_with fail
    go_ret
    exact ⟨by first | rfl | simp, FIN.out _ _ _ (shift_probe _ _ _) h5 u5 h6 u6 (by decide)⟩
  have E3 : (k == 3) = false := by simpa using e3
  by_cases e4 : k = 4
  · subst e4
    have q2 := m_mstep x W
    have KS := D.stepC hM1 hR1 (fun i hi => (HD2.out i hi).2) hf t now
    have KM := fun (w5 : World) (h5 : O w5 b st) => M.stepC h5 (by omega) t t now
    obtain ⟨r, hr⟩ : ∃ r, step st t t now = r := ⟨_, rfl⟩
    rw [hr] at KS KM
    obtain ⟨d, st4⟩ := r
    have HKS := Lib.hid KS
    have HKM := Lib.hid KM
    have HR4 := Lib.hid hr
    clear KS KM hr mp FIN e1 e2 e3
    go_wp2_with fail
    refine HKS.out.mono ?_
    rintro e w5 ⟨rfl, hM5, R5, hR5, u5, hR5s⟩
    have hO5 := M.keep hO1 u5 (fun i hi e => by rcases e with e | e; exact HD1.out i hi e; exact (HD2.out i e).1 hi)
    have hAf : ¬ (fm A ∨ R A) := fun h => by rcases h with h | h; (have := lM _ h; omega); (have := lR _ h; omega)
    have RW5 := R1.upd u5 hAf
    have hz5 := u5.size
    obtain ⟨ev, b1, b2, b3⟩ := d
    unfold didm
    go_upto_region 11 with (fail)
    have UA : Upd (fun _ => False) w5 (w5.alloc (.cells #[.int .i64 ev, .int .i64 (b2i b1), .int .i64 (b2i b2), .int .i64 (b2i b3)] 138)) := (Upd.refl _ w5).alloc _
    have hO6 := M.keep hO5 UA (fun _ _ => id)
    have hM6 := D.keep hM5 UA (fun _ _ => id)
    have hR6 := hR5.keep UA (fun _ _ => id)
    have RA6 := RW5.upd UA id
    have RD6 : Row (w5.alloc (.cells #[.int .i64 ev, .int .i64 (b2i b1), .int .i64 (b2i b2), .int .i64 (b2i b3)] 138)) w5.heap.size [.int .i64 ev, .int .i64 (b2i b1), .int .i64 (b2i b2), .int .i64 (b2i b3)] := Row.new' rfl
    have up6 := up1.trans ((u5.mono fun i _ e => .inr e).trans (UA.mono fun _ _ z => z.elim))
    obtain ⟨W6, hW6⟩ : ∃ W6, w5.alloc (.cells #[.int .i64 ev, .int .i64 (b2i b1), .int .i64 (b2i b2), .int .i64 (b2i b3)] 138) = W6 := ⟨_, rfl⟩
    obtain ⟨E, hE⟩ : ∃ E, w5.heap.size = E := ⟨_, rfl⟩
    rw [hW6] at UA hO6 hM6 hR6 RA6 RD6 up6 ⊢
    rw [hE] at RD6 hz5 ⊢
    have ms := m_step l W6.drew
    have eqd := eq_did ev (b2i b1) (b2i b2) (b2i b3)
    have hAf2 : ¬ ft A := fun h => by have := lO _ h; omega
    have hEf2 : ¬ ft E := fun h => by have := lO _ h; omega
    have a1 := RA6.cell (i := 1) rfl
    have d0 := RD6.cell (i := 0) rfl
    have d1 := RD6.cell (i := 1) rfl
    have d2 := RD6.cell (i := 2) rfl
    have d3 := RD6.cell (i := 3) rfl
    have hO7 := M.keep hO6 ((Upd.refl (fun _ => False) W6).drew) (fun _ _ => id)
    have hlO6 := M.lt hO6
    clear hW6 hE p0 p1 p2 q2 HKS hO5 hM5 hR5 RW5 UA hO1 hM1 hR1 R1 up1 u5
    go_region_held3 (fun w' => w'.cell? ⟨A, 1, none⟩ = some (.int .i64 t) ∧ w'.cell? ⟨E, 0, none⟩ = some (.int .i64 ev) ∧ w'.cell? ⟨E, 1, none⟩ = some (.int .i64 (b2i b1)) ∧ w'.cell? ⟨E, 2, none⟩ = some (.int .i64 (b2i b2)) ∧ w'.cell? ⟨E, 3, none⟩ = some (.int .i64 (b2i b3))) ((first | exact ⟨a1, d0, d1, d2, d3⟩ | exact ⟨r1, c0, c1, c2, c3⟩ | exact ⟨s1, x0, x1, x2, x3⟩))
      ((first | (go_at_call 20; refine (HKM.out _ hO7).mono ?_; rintro e w8 ⟨rfl, h8, u8⟩; have r1 := cell_upd u8 a1 hAf2; have c0 := cell_upd u8 d0 hEf2; have c1 := cell_upd u8 d1 hEf2; have c2 := cell_upd u8 d2 hEf2; have c3 := cell_upd u8 d3 hEf2) | (go_at_call 65; refine (didC _ (ev, b1, b2, b3)).mono ?_; rintro e w9 ⟨rfl, hB9⟩; have U9 := Upd.of_below (S := fun _ => False) hB9; have s1 := cell_upd U9 r1 id; have x0 := cell_upd U9 c0 id; have x1 := cell_upd U9 c1 id; have x2 := cell_upd U9 c2 id; have x3 := cell_upd U9 c3 id; unfold didm)))
    go_wp2_with fail
    go_ret
    have U10 : Upd ft W6 w9 := ((Upd.refl _ W6).drew.trans u8).trans (Upd.of_below hB9)
    have hR9 := hR6.keep U10 (fun i hi e => by rcases hR5s i hi with h | h; exact (HD2.out i h).1 e; (have := lO i e; omega))
    have hM9 := D.keep hM6 U10 (fun i hi e => HD1.out i e hi)
    refine ⟨rfl, b + 1, Nat.le_refl _, st4, M.keep h8 U9 (fun _ _ => id), hM9, R5, hR9, up6.trans (U10.mono fun i _ e => .inl e), fun i hi => ?_, by rw [HR4.out]⟩
    rcases hR5s i hi with h | h
    · exact .inl h
    · exact .inr (by have := HA.out; omega)
  have E4 : (k == 4) = false := by simpa using e4
  clear mp
  go_wp2_with fail
  go_ret
  refine ⟨rfl, b, st, R, by omega, hO1, hM1, hR1, up1, fun i hi => .inl hi, .inr ⟨e4, rfl⟩⟩

/-- The seats beyond the last one. -/
theorem state_over (l : List (Int × Int)) (t : Int) (h : t < 0 ∨ (l.length : Int) ≤ t) : state l t = 0 := by
  unfold state
  have : inB t l.length = false := by simp [inB]; omega
  rw [this]; rfl
set_option maxHeartbeats 16000000 in
set_option maxRecDepth 100000 in
theorem plays {σ : Type} {l s x sx sb db y p : Nat} {td pd : Bool} {ft fm SP : Nat → Prop} {n : Nat} {seats : σ → List (Int × Int)} {setS : σ → List (Int × Int) → σ} {step : σ → Int → Int → Int → Did × σ} {ws : σ → List Int} {ts : σ → List T} {O : World → Nat → σ → Prop} {OM : World → σ → Prop}
    (M : Mach l s td pd ft n seats setS step O) (D : Modl x sx sb db td pd fm n seats setS step ws ts OM) (n8 : n ≤ 8)
    (PM : ∀ {w : World} {b : Nat} {st : σ}, O w b st → (∃ hs, Port.O w p SP n (ws st) hs (ts st)) ∧ (ts st).length ≤ b ∧ (ws st).length ≤ 4096) (PA : ∀ st t now, acc (ts (step st t t now).2) t ≤ acc (ts st) t + 1)
    (d1 : ∀ i, ft i → ¬ fm i) (v : Value) (xs : List (List Int)) (hl : xs.length ≤ 150) (w0 w : World) (hx : I64s w0 v 4 xs) (hw : Below w0.heap.size w0 w) (hft : ∀ i, ft i → w0.heap.size ≤ i) (hfm : ∀ i, fm i → w0.heap.size ≤ i)
    (st0 : σ) (hM : OM w st0) (R0 : Nat → Prop) (hR : Ref04.RO w y R0 n (ws st0) (ts st0)) (hR0 : ∀ i, R0 i → ¬ ft i ∧ ¬ fm i ∧ w0.heap.size ≤ i)
    (hU : Calls Try.prog 37 #[.pointer (some ⟨l, 0, none⟩), .pointer (some ⟨p, 0, none⟩)] w fun e w' => e = .returned (.tuple #[]) ∧ O w' 0 st0 ∧ Upd ft w w') :
    Calls Try.prog 28 #[val l, .pointer (some ⟨p, 0, none⟩), mval x, .pointer (some ⟨y, 0, none⟩), v] w fun e w' => e = .returned (.bool true) ∧ Below w0.heap.size w0 w' ∧ ∃ b st, O w' b st ∧ OM w' st := by
  obtain ⟨⟨ao, cap, rfl, hlc, hlm, hcells⟩, hwf⟩ := hx
  have qu := m_use l w
  have hlx : (xs.length : Int) ≤ 150 := by omega
  unfold val mval
  go_enter Try.func28, Try.ntmps28
  go_wp2_with fail
  refine hU.mono ?_
  rintro e w1 ⟨rfl, hO, hu⟩
  have hB1 := hu.below hw hw.size hft
  have hM1 := D.keep hM hu (fun i hi e => d1 i e hi)
  have hR1 := hR.keep hu (fun i hi e => (hR0 i hi).1 e)
  clear qu hM hR hw
  go_wp2_with fail
  go_loopw [11, 22] (fun s11 i wr => ∃ j : Nat, j ≤ xs.length ∧ i = .int .i64 j ∧ ∃ (now : Int) (b : Nat) (st : σ) (R : Nat → Prop), 0 ≤ now ∧ now ≤ 1000 * j ∧ s11 = .int .i64 now ∧ b ≤ j ∧ O wr b st ∧ OM wr st ∧ Ref04.RO wr y R n (ws st) (ts st) ∧ (∀ i, R i → ¬ ft i ∧ ¬ fm i ∧ w0.heap.size ≤ i) ∧ Below w0.heap.size w0 wr) (fun _ i _ => xs.length - (intOf i).toNat)
  case atStart => exact ⟨0, Nat.zero_le _, rfl, 0, 0, st0, R0, by omega, by omega, rfl, Nat.le_refl _, hO, hM1, hR1, hR0, hB1⟩
  case round =>
    obtain ⟨j, hj, rfl, now, b, st, R, hnow0, hnow1, rfl, hbj, hO, hM, hR, hRd, hB⟩ := hrel
    clear hB1 hu hM1 hR1 hR0
    have lM := D.len hM
    by_cases hlt : j < xs.length
    · obtain ⟨bo, off, rfl, hbw, hcell⟩ := hcells (by omega)
      have hy := hwf (xs.getD j []) (by rw [getD_lt _ _ _ hlt]; exact List.getElem_mem hlt)
      obtain ⟨y0, hyy⟩ : ∃ y, xs.getD j [] = y := ⟨_, rfl⟩
      rw [hyy] at hy
      obtain ⟨hy3, hyw⟩ := hy
      match y0, hy3 with
      | [k, t, N, lt], _ =>
        have c0 := (hB.cell (p := ⟨bo, off + j * 4, none⟩) hbw).trans (hcell j hlt 0 (.int .i64 k) (by decide) (by rw [hyy]; rfl))
        have c1 := (hB.cell (p := ⟨bo, off + j * 4 + 1, none⟩) hbw).trans (hcell j hlt 1 (.int .i64 t) (by decide) (by rw [hyy]; rfl))
        have c2 := (hB.cell (p := ⟨bo, off + j * 4 + 2, none⟩) hbw).trans (hcell j hlt 2 (.int .i64 N) (by decide) (by rw [hyy]; rfl))
        have c3 := (hB.cell (p := ⟨bo, off + j * 4 + 3, none⟩) hbw).trans (hcell j hlt 3 (.int .i64 lt) (by decide) (by rw [hyy]; rfl))
        have U2 : Upd (fun _ => False) wr (wr.alloc (.cells #[.int .i64 k, .int .i64 t, .int .i64 N, .int .i64 lt] 47)) := (Upd.refl _ wr).alloc _
        have hO2 := M.keep hO U2 (fun _ _ => id)
        have hM2 := D.keep hM U2 (fun _ _ => id)
        have hR2 := hR.keep U2 (fun _ _ => id)
        have hB2 := hB.alloc hB.size (.cells #[.int .i64 k, .int .i64 t, .int .i64 N, .int .i64 lt] 47)
        have hA2 : Row (wr.alloc (.cells #[.int .i64 k, .int .i64 t, .int .i64 N, .int .i64 lt] 47)) wr.heap.size [.int .i64 k, .int .i64 t, .int .i64 N, .int .i64 lt] := Row.new' rfl
        have hf2 : ∀ i, ft i → i < wr.heap.size := M.lt hO
        have hm2 : ∀ i, fm i → i < wr.heap.size := D.lt hM
        have hr2 : ∀ i, R i → i < wr.heap.size := hR.lt
        clear hyy hcell hyw hO hM hR
        go_upto_region 7 with (fail)
        obtain ⟨z1, hz1⟩ : ∃ z, (if lt < 0 then 0 else lt) = z := ⟨_, rfl⟩
        rw [hz1]
        have z10 : 0 ≤ z1 := by rw [← hz1]; split <;> omega
        obtain ⟨z2, hz2⟩ : ∃ z, (if 1000 < z1 then 1000 else z1) = z := ⟨_, rfl⟩
        rw [hz2]
        have z20 : 0 ≤ z2 ∧ z2 ≤ 1000 := by rw [← hz2]; split <;> omega
        obtain ⟨now', hnw⟩ : ∃ z, now + z2 = z := ⟨_, rfl⟩
        have hnw0 : 0 ≤ now' ∧ now' ≤ now + 1000 := by omega
        rw [hnw]
        have HNW := Lib.hid (show 0 ≤ now' ∧ now' ≤ 1000 * ((j : Int) + 1) by omega)
        clear hnw hnow1 hnow0 hz1 hz2 z10 z20 hnw0
        obtain ⟨W2, hW2⟩ : ∃ W, wr.alloc (.cells #[.int .i64 k, .int .i64 t, .int .i64 N, .int .i64 lt] 47) = W := ⟨_, rfl⟩
        obtain ⟨A, hA⟩ : ∃ A, wr.heap.size = A := ⟨_, rfl⟩
        rw [hW2] at hO2 hM2 hR2 hB2 hA2 ⊢
        rw [hA] at hA2 hf2 hm2 hr2 ⊢
        have p0 := hA2.cell (i := 0) rfl
        have p1 := hA2.cell (i := 1) rfl
        have p2 := hA2.cell (i := 2) rfl
        have p3 := hA2.cell (i := 3) rfl
        obtain ⟨⟨hs, hpo⟩, hts, hwl⟩ := PM hO2
        have KA := Port.accessesP W2 p SP n (ws st) hs (ts st) hpo t
        obtain ⟨a0, ha0⟩ : ∃ a0 : Int, (if Mem.inB t n = true then ((acc (ts st) t : Nat) : Int) else 0) = a0 := ⟨_, rfl⟩
        rw [ha0] at KA
        have ha0b : 0 ≤ a0 ∧ a0 ≤ 1000 := by
          have := acc_le (ts st) t
          rw [← ha0]; split <;> omega
        have HKA := Lib.hid KA
        have HA0 := Lib.hid ha0
        have KD := doC M D W2 hO2 (by omega) hM2 hR2 (by omega) d1 (fun i hi => ⟨(hRd i hi).1, (hRd i hi).2.1⟩) k t N lt now'
        have HKD := Lib.hid KD
        unfold val mval at HKD
        clear hW2 hA c0 c1 c2 c3 hB U2 KA KD ha0
        go_wp2_with fail
        refine HKA.out.mono ?_
        rintro e w3 ⟨rfl, rfl⟩
        go_wp2_with fail
        refine HKD.out.mono ?_
        rintro e w5 ⟨rfl, b5, st5, R5, hb5, hO5, hM5, hR5, u5, hR5s, hk5⟩
        have hAn : ¬ (ft A ∨ fm A ∨ R A) := fun h => by rcases h with h | h | h; (have := hf2 _ h; omega); (have := hm2 _ h; omega); (have := hr2 _ h; omega)
        have p0 := cell_upd u5 p0 hAn
        have p1 := cell_upd u5 p1 hAn
        have hB5 : Below w0.heap.size w0 w5 := u5.below hB2 hB2.size (fun i h => by rcases h with h | h | h; exact hft i h; exact hfm i h; exact (hRd i h).2.2)
        have hW0 : w0.heap.size ≤ W2.heap.size := hB2.size
        have hWA : A < W2.heap.size := hA2.lt
        have hR5d : ∀ i, R5 i → ¬ ft i ∧ ¬ fm i ∧ w0.heap.size ≤ i := fun i hi => by
          rcases hR5s i hi with h | h
          · exact hRd i h
          · exact ⟨fun e => by have := hf2 i e; omega, fun e => by have := hm2 i e; omega, by omega⟩
        obtain ⟨⟨hs5, hpo5⟩, hts5, hwl5⟩ := PM hO5
        have KA := Port.accessesP w5 p SP n (ws st5) hs5 (ts st5) hpo5 t
        obtain ⟨a1, ha1⟩ : ∃ a1 : Int, (if Mem.inB t n = true then ((acc (ts st5) t : Nat) : Int) else 0) = a1 := ⟨_, rfl⟩
        rw [ha1] at KA
        have h01 : a1 ≤ a0 + 1 ∧ (k ≠ 4 → a1 = a0) := by
          have h0 := HA0.out
          rcases hk5 with ⟨hk, rfl⟩ | ⟨hk, e⟩
          · have := PA st t now'
            refine ⟨?_, fun z => absurd hk z⟩
            rw [← ha1, ← h0]
            split <;> omega
          · rw [e, h0] at ha1
            exact ⟨by omega, fun _ => ha1.symm⟩
        have hn1 : decide (a0 + 1 < a1) = false := by rw [decide_eq_false_iff_not]; omega
        have HKA5 := Lib.hid KA
        have HKS := Lib.hid (Same04.same_all w5 p y SP R5 n (ws st5) hs5 (ts st5) hpo5 hR5 hwl5)
        have h02 := h01.2
        clear KA ha1 hpo hpo5 HKD HKA HA0 hk5 h01 hM2 hO2 hR2 hB2 hA2 p2 p3 hRd u5 hAn hf2 hm2 hr2 hWA hR5s
        have hk4 : k = 4 ∨ k ≠ 4 := Decidable.em _
        rcases hk4 with e4 | e4
        case' inl =>
          subst e4
          clear h02
          go_wp2_with fail
          refine HKA5.out.mono ?_
          rintro e w6 ⟨rfl, rfl⟩
          go_wp2_with fail
          refine HKS.out.mono ?_
          rintro e w7 ⟨rfl, hB7⟩
        case' inr =>
          have h03 := h02 e4
          subst h03
          have E4 : (k == 4) = false := by simpa using e4
          have n2 : (a1 != a1) = false := by simp
          have E5 : (k != 4) = true := by simpa using e4
          clear h02 e4
          go_wp2_with fail
          refine HKA5.out.mono ?_
          rintro e w6 ⟨rfl, rfl⟩
          go_wp2_with fail
          refine HKA5.out.mono ?_
          rintro e w6 ⟨rfl, rfl⟩
          go_wp2_with fail
          refine HKS.out.mono ?_
          rintro e w7 ⟨rfl, hB7⟩
        all_goals
          have U7 := Upd.of_below (S := fun _ => False) hB7
          have hO7 := M.keep hO5 U7 (fun _ _ => id)
          have hM7 := D.keep hM5 U7 (fun _ _ => id)
          have hR7 := hR5.keep U7 (fun _ _ => id)
          have hB8 := hB5.trans (hB7.mono hB5.size)
          have mp := M.ptr hO7
          have ml := m_len l s w7 mp
          have ms := m_state l s w7 mp
          have mq := m_seats x w7
          have HLEN := Lib.hid (M.lenC hO7)
          have HSEA := Lib.hid (D.seatsC hM7)
          have HSTA := Lib.hid (fun t => M.stateC hO7 t)
          have hln := D.len hM7
          have hRA := D.seat hM7
          obtain ⟨cs, cd, htop⟩ := hRA.top
          have g0 := htop.cell (i := 0) rfl
          rw [hln] at g0
          have HROW := Lib.hid hRA.st
          have HLN := Lib.hid hln
          clear mp htop hRA U7 HKA5 HKS hn1 p0 p1 hO5 hM5 hR5 hB5 hB7 hln hts5 hwl5 ha0b
          go_wp2_with fail
          go_loop [15] (fun i => ∃ q : Nat, q ≤ n + 2 ∧ i = .int .i64 ((q : Int) - 1)) (fun i => n + 2 - (intOf i + 1).toNat)
          case atStart => exact ⟨0, by omega, rfl⟩
          case round =>
            obtain ⟨q, hq, rfl⟩ := hrel
            have HST := HSTA.out ((q : Int) - 1)
            by_cases hq2 : q = n + 2
            · subst hq2
              have hd : decide (((n + 2 : Nat) : Int) - 1 ≤ (n : Int)) = false := by rw [decide_eq_false_iff_not]; omega
              go_wp2_with fail
              refine HLEN.out.mono ?_
              rintro e w' ⟨rfl, rfl⟩
              go_wp2_with fail
              go_roundw
              case rel => exact ⟨j + 1, by omega, by go_num, now', b5, st5, R5, HNW.out.1, by have := HNW.out.2; omega, rfl, by omega, hO7, hM7, hR7, hR5d, hB8⟩
              case measure => simp [intOf]; omega
            have hd : (q : Int) - 1 ≤ (n : Int) := by omega
            obtain ⟨t', ht'⟩ : ∃ t' : Int, (q : Int) - 1 = t' := ⟨_, rfl⟩
            have hnx : ((q + 1 : Nat) : Int) - 1 = t' + 1 := by omega
            rw [ht'] at hd HST ⊢
            have HNX := Lib.hid hnx
            by_cases hin : 0 ≤ t' ∧ t' < n
            · obtain ⟨k', rfl⟩ : ∃ k' : Nat, t' = k' := ⟨t'.toNat, by omega⟩
              have hk0 : (0 : Int) ≤ (k' : Int) := by omega
              have hk1 : (k' : Int) < (n : Int) := hin.2
              have hkl : k' < (seats st5).length := by rw [HLN.out]; omega
              have e1 : state (seats st5) (k' : Int) = ((seats st5).getD k' (0, -1)).1 := by
                unfold state; rw [inB_mk hkl, if_pos rfl, Int.toNat_natCast]
              obtain ⟨z, hz⟩ : ∃ z, ((seats st5).getD k' (0, -1)).1 = z := ⟨_, rfl⟩
              rw [e1, hz] at HST
              have g1 := HROW.out.cell (sts_get hkl)
              rw [hz] at g1
              have HS2 := Lib.hid HST
              have zz : (z != z) = false := by simp
              clear hin HST hnx ht' e1 hz
              go_wp2_with fail
              refine HLEN.out.mono ?_
              rintro e w' ⟨rfl, rfl⟩
              go_wp2_with fail
              refine HSEA.out.mono ?_
              rintro e w' ⟨rfl, rfl⟩
              go_wp2_with fail
              refine HSEA.out.mono ?_
              rintro e w' ⟨rfl, rfl⟩
              go_wp2_with fail
              refine HS2.out.mono ?_
              rintro e w' ⟨rfl, rfl⟩
              go_wp2_with fail
              go_round
              case rel => exact ⟨q + 1, by omega, by rw [HNX.out]⟩
              case measure => simp [intOf]; omega
            · have e1 : state (seats st5) t' = 0 := state_over _ _ (by rw [HLN.out]; omega)
              rw [e1] at HST
              have HS2 := Lib.hid HST
              clear HST hnx e1
              by_cases h0 : t' < 0
              · have hk0 : decide (0 ≤ t') = false := by rw [decide_eq_false_iff_not]; omega
                clear hin
                go_wp2_with fail
                refine HLEN.out.mono ?_
                rintro e w' ⟨rfl, rfl⟩
                go_wp2_with fail
                refine HS2.out.mono ?_
                rintro e w' ⟨rfl, rfl⟩
                go_wp2_with fail
                go_round
                case rel => exact ⟨q + 1, by omega, by rw [HNX.out]⟩
                case measure => simp [intOf]; omega
              · have hk0 : 0 ≤ t' := by omega
                have hk1 : decide (t' < (n : Int)) = false := by rw [decide_eq_false_iff_not]; omega
                clear hin h0
                go_wp2_with fail
                refine HLEN.out.mono ?_
                rintro e w' ⟨rfl, rfl⟩
                go_wp2_with fail
                refine HSEA.out.mono ?_
                rintro e w' ⟨rfl, rfl⟩
                go_wp2_with fail
                refine HS2.out.mono ?_
                rintro e w' ⟨rfl, rfl⟩
                go_wp2_with fail
                go_round
                case rel => exact ⟨q + 1, by omega, by rw [HNX.out]⟩
                case measure => simp [intOf]; omega
    · have mp := M.ptr hO
      have ml := m_len l s wr mp
      have mq := m_seats x wr
      have HLEN := Lib.hid (M.lenC hO)
      have HSEA := Lib.hid (D.seatsC hM)
      have hln := D.len hM
      obtain ⟨cs, cd, htop⟩ := (D.seat hM).top
      have g0 := htop.cell (i := 0) rfl
      rw [hln] at g0
      clear mp hln htop
      go_wp2_with fail
      refine HLEN.out.mono ?_
      rintro e w' ⟨rfl, rfl⟩
      go_wp2_with fail
      refine HSEA.out.mono ?_
      rintro e w' ⟨rfl, rfl⟩
      go_wp2_with fail
      go_ret
      exact ⟨by first | rfl | simp, hB, b, st, hO, hM⟩
end Go.Proofs.Ytlkpfdboagjaoaa.Plays
