/- Package clh: the lock of Craig, Landin and Hagersten, as an object over its port: Use, flag, Node, lock. -/
import Derived.Test.YtgoaaijdlhhkkaaStepU
namespace Go.Proofs.Ytgoaaijdlhhkkaa.Clh
open Go Go.RowKit Go.Proofs.Ytgoaaijdlhhkkaa.Heap Go.Proofs.Ytgoaaijdlhhkkaa.Open Go.Proofs.Ytgoaaijdlhhkkaa.Seat Go.Proofs.Ytgoaaijdlhhkkaa.Mach Go.Proofs.Ytgoaaijdlhhkkaa.Has Go.Proofs.Ytgoaaijdlhhkkaa.StepU

/-- Places that may be: nodes are numbers of words, a step is one of three. -/
def Ok (pl : List P3) : Prop := ∀ t : Nat, t < pl.length → (0 ≤ (pl.getD t (0, 0, 0)).1 ∧ (pl.getD t (0, 0, 0)).1 < 4294967296) ∧ (0 ≤ (pl.getD t (0, 0, 0)).2.1 ∧ (pl.getD t (0, 0, 0)).2.1 < 4294967296) ∧ ((pl.getD t (0, 0, 0)).2.2 = 0 ∨ (pl.getD t (0, 0, 0)).2.2 = 1 ∨ (pl.getD t (0, 0, 0)).2.2 = 2)
theorem Ok.set {pl : List P3} (h : Ok pl) (t : Nat) (a b c : Int) (ha : 0 ≤ a ∧ a < 4294967296) (hb : 0 ≤ b ∧ b < 4294967296) (hc : c = 0 ∨ c = 1 ∨ c = 2) : Ok (pl.set t (a, b, c)) := by
  intro u hu
  rw [List.length_set] at hu
  by_cases e : u = t
  · subst e
    have : (pl.set u (a, b, c)).getD u (0, 0, 0) = (a, b, c) := by simp [List.getD, List.getElem?_set_self hu]
    rw [this]; exact ⟨ha, hb, hc⟩
  · have : (pl.set t (a, b, c)).getD u (0, 0, 0) = pl.getD u (0, 0, 0) := by rw [List.getD, List.getElem?_set_ne (fun z => e z.symm)]; rfl
    rw [this]; exact h u hu
/-- A lock: its block, its seats' two, that of the places. -/
structure At (w : World) (l s lb pb cap : Nat) (pv : Value) (tl : Int) (sl : List (Int × Int)) (pl : List P3) : Prop where
  top : Row w l [.pointer (some ⟨s, 0, none⟩), pv, .int .i64 tl, .slice (some ⟨pb, 0, none⟩) sl.length cap]
  seat : Seat.At w s lb sl false true
  plc : RowP w pb (cells3 pl)
  l1 : pl.length = sl.length
  e1 : l ≠ s ∧ l ≠ lb ∧ l ≠ pb
  e2 : pb ≠ s ∧ pb ≠ lb
  ok : Ok pl
  tl0 : 0 ≤ tl ∧ tl ≤ 100000
variable {l s lb pb cap p : Nat} {SP : Nat → Prop} {k : Nat} {hs : List Int} {tl : Int}
theorem At.keep {w w' : World} {pv : Value} {sl : List (Int × Int)} {pl : List P3} {T : Nat → Prop} (h : At w l s lb pb cap pv tl sl pl) (hu : Upd T w w') (h1 : ¬ T l) (h2 : ¬ T s) (h3 : ¬ T lb) (h4 : ¬ T pb) :
    At w' l s lb pb cap pv tl sl pl := ⟨h.top.upd hu h1, h.seat.upd hu h2 h3, h.plc.upd hu h4, h.l1, h.e1, h.e2, h.ok, h.tl0⟩
theorem At.seats {w w' : World} {pv : Value} {sl sl' : List (Int × Int)} {pl : List P3} (h : At w l s lb pb cap pv tl sl pl) (hu : Upd (fun k => k = lb) w w') (hs : Seat.At w' s lb sl' false true) (hl : sl'.length = sl.length) :
    At w' l s lb pb cap pv tl sl' pl :=
  ⟨by rw [hl]; exact h.top.upd hu h.e1.2.1, hs, h.plc.upd hu h.e2.2, by rw [hl]; exact h.l1, h.e1, h.e2, h.ok, h.tl0⟩
/-- The places turn. -/
theorem At.places {w w' : World} {pv : Value} {sl : List (Int × Int)} {pl pl' : List P3} (h : At w l s lb pb cap pv tl sl pl) (hu : Upd (fun i => i = pb) w w') (hr : RowP w' pb (cells3 pl')) (hl : pl'.length = pl.length) (ho : Ok pl') :
    At w' l s lb pb cap pv tl sl pl' :=
  ⟨h.top.upd hu h.e1.2.2, h.seat.upd hu (fun e => h.e2.1 e.symm) (fun e => h.e2.2 e.symm), hr, by rw [hl]; exact h.l1, h.e1, h.e2, ho, h.tl0⟩
theorem At.setAhead {w : World} {pv : Value} {sl : List (Int × Int)} {pl : List P3} (h : At w l s lb pb cap pv tl sl pl) (t : Nat) (ht : t < sl.length) (y : Int) (hy : 0 ≤ y ∧ y < 4294967296) :
    At (w.setCell ⟨pb, t * 3 + 1, none⟩ (.int .i64 y)) l s lb pb cap pv tl sl (pl.set t ((pl.getD t (0, 0, 0)).1, y, (pl.getD t (0, 0, 0)).2.2)) := by
  have ht' : t < pl.length := by rw [h.l1]; exact ht
  obtain ⟨o1, _, o3⟩ := h.ok t ht'
  exact h.places (Upd.one w pb _ _) (by rw [← cells3_set1]; exact h.plc.set _ (by rw [cells3_len]; omega) _) (by simp) (h.ok.set t _ _ _ o1 hy o3)
theorem At.setStep {w : World} {pv : Value} {sl : List (Int × Int)} {pl : List P3} (h : At w l s lb pb cap pv tl sl pl) (t : Nat) (ht : t < sl.length) (y : Int) (hy : y = 0 ∨ y = 1 ∨ y = 2) :
    At (w.setCell ⟨pb, t * 3 + 2, none⟩ (.int .i64 y)) l s lb pb cap pv tl sl (pl.set t ((pl.getD t (0, 0, 0)).1, (pl.getD t (0, 0, 0)).2.1, y)) := by
  have ht' : t < pl.length := by rw [h.l1]; exact ht
  obtain ⟨o1, o2, _⟩ := h.ok t ht'
  exact h.places (Upd.one w pb _ _) (by rw [← cells3_set2]; exact h.plc.set _ (by rw [cells3_len]; omega) _) (by simp) (h.ok.set t _ _ _ o1 o2 hy)
theorem At.setAll {w : World} {pv : Value} {sl : List (Int × Int)} {pl : List P3} (h : At w l s lb pb cap pv tl sl pl) (t : Nat) (ht : t < sl.length) (x y z : Int) (hx : 0 ≤ x ∧ x < 4294967296) (hy : 0 ≤ y ∧ y < 4294967296) (hz : z = 0 ∨ z = 1 ∨ z = 2) :
    At (((w.setCell ⟨pb, t * 3, none⟩ (.int .i64 x)).setCell ⟨pb, t * 3 + 1, none⟩ (.int .i64 y)).setCell ⟨pb, t * 3 + 2, none⟩ (.int .i64 z)) l s lb pb cap pv tl sl (pl.set t (x, y, z)) := by
  have ht' : t < pl.length := by rw [h.l1]; exact ht
  refine h.places (upd3 w pb _ _ _ _ _ _) ?_ (by simp) (h.ok.set t _ _ _ hx hy hz)
  rw [← cells3_set3]
  exact ((h.plc.set _ (by rw [cells3_len]; omega) _).set _ (by simp [cells3_len]; omega) _).set _ (by simp [cells3_len]; omega) _
theorem At.use {w : World} {pv : Value} {sl : List (Int × Int)} {pl : List P3} (h : At w l s lb pb cap pv tl sl pl) (v : Value) :
    At (w.setCell ⟨l, 1, none⟩ v) l s lb pb cap v tl sl pl := by
  have hu := Upd.one w l 1 v
  exact ⟨by simpa using h.top.set 1 v, h.seat.upd hu (fun e => h.e1.1 e.symm) (fun e => h.e1.2.1 e.symm), h.plc.upd hu (fun e => h.e1.2.2 e.symm), h.l1, h.e1, h.e2, h.ok, h.tl0⟩
theorem At.c0 {w : World} {pv : Value} {sl : List (Int × Int)} {pl : List P3} (h : At w l s lb pb cap pv tl sl pl) {t : Nat} (ht : t < sl.length) : w.cell? ⟨pb, t * 3, none⟩ = some (.int .i64 (pl.getD t (0, 0, 0)).1) := h.plc.cell (cells3_0 pl t (by rw [h.l1]; exact ht))
theorem At.c1 {w : World} {pv : Value} {sl : List (Int × Int)} {pl : List P3} (h : At w l s lb pb cap pv tl sl pl) {t : Nat} (ht : t < sl.length) : w.cell? ⟨pb, t * 3 + 1, none⟩ = some (.int .i64 (pl.getD t (0, 0, 0)).2.1) := h.plc.cell (cells3_1 pl t (by rw [h.l1]; exact ht))
theorem At.c2 {w : World} {pv : Value} {sl : List (Int × Int)} {pl : List P3} (h : At w l s lb pb cap pv tl sl pl) {t : Nat} (ht : t < sl.length) : w.cell? ⟨pb, t * 3 + 2, none⟩ = some (.int .i64 (pl.getD t (0, 0, 0)).2.2) := h.plc.cell (cells3_2 pl t (by rw [h.l1]; exact ht))
theorem useC (w : World) (pv : Value) (sl : List (Int × Int)) (pl : List P3) (h : At w l s lb pb cap pv tl sl pl) :
    Calls Try.prog 18 #[.pointer (some ⟨l, 0, none⟩), .pointer (some ⟨p, 0, none⟩)] w fun e w' => e = .returned (.tuple #[]) ∧ At w' l s lb pb cap (.pointer (some ⟨p, 0, none⟩)) tl sl pl ∧ Upd (fun k => k = l) w w' := by
  have h1 := h.top.cell (i := 1) rfl
  have f1 := h.top.frozen 1
  go_enter Try.func18, Try.ntmps18
  go_wp2
  go_end0
  exact ⟨rfl, h.use _, Upd.one _ _ _ _⟩
theorem flagC (w : World) (hc : w.cell? ⟨l, 2, none⟩ = some (.int .i64 tl)) (h0 : 0 ≤ tl ∧ tl ≤ 100000) (x : Int) (hx : 0 ≤ x ∧ x < 4294967296) :
    Calls Try.prog 40 #[.pointer (some ⟨l, 0, none⟩), .int .i64 x] w fun e w' => e = .returned (.int .i64 (tl + 1 + x)) ∧ w = w' := by
  go_enter Try.func40, Try.ntmps40
  go_wp2
  go_ret
  exact ⟨rfl, rfl⟩

/-- What a lock over its port does, by value. -/
structure St where
  seats : List (Int × Int)
  pls : List P3
  ws : List Int
  ts : List T
/-- The step of a call for the lock. -/
def lockS (k : Nat) (tl : Int) (st : St) (t : Nat) (a : Int) : Did × St :=
  let x := st.pls.getD t (0, 0, 0)
  if x.2.2 = 0 then ((0, false, false, false), { st with pls := st.pls.set t (x.1, x.2.1, 1), ws := wrt k st.ws a (tl + 1 + x.1) 1, ts := Cache.after k st.ws.length st.ts a (tl + 1 + x.1) true })
  else if x.2.2 = 1 then ((0, true, false, false), { st with pls := st.pls.set t (x.1, rd k st.ws a tl, 2), ws := wrt k st.ws a tl x.1, ts := Cache.after k st.ws.length st.ts a tl true })
  else ((if rd k st.ws a (tl + 1 + x.2.1) = 0 then 1 else 0, false, false, false), { st with ts := Cache.after k st.ws.length st.ts a (tl + 1 + x.2.1) false })
/-- The step, but for its end. -/
def midS (k : Nat) (tl : Int) (st : St) (t a : Int) : Did × St :=
  if state st.seats t = 1 then lockS k tl st t.toNat a
  else if state st.seats t = 3 then
    ((3, false, false, false), { st with pls := st.pls.set t.toNat ((st.pls.getD t.toNat (0, 0, 0)).2.1, 0, 0), ws := wrt k st.ws a (tl + 1 + (st.pls.getD t.toNat (0, 0, 0)).1) 0, ts := Cache.after k st.ws.length st.ts a (tl + 1 + (st.pls.getD t.toNat (0, 0, 0)).1) true })
  else if state st.seats t = 4 then
    ((if rd k st.ws a tl = (st.pls.getD t.toNat (0, 0, 0)).1 then 4 else 5, false, false, false), { st with ts := Cache.after k st.ws.length st.ts a tl false })
  else ((0, false, false, false), st)
def step (k : Nat) (tl : Int) (st : St) (t a _now : Int) : Did × St :=
  let r := midS k tl st t a
  (r.1, { r.2 with seats := (fin r.2.seats t r.1.1).2 })
/-- A lock over its port, as objects. -/
structure O (l s lb pb cap p : Nat) (SP : Nat → Prop) (k : Nat) (hs : List Int) (tl : Int) (w : World) (b : Nat) (st : St) : Prop where
  at_ : At w l s lb pb cap (.pointer (some ⟨p, 0, none⟩)) tl st.seats st.pls
  port : Port.O w p SP k st.ws hs st.ts
  few : st.ts.length ≤ b
  sep : ¬ SP l ∧ ¬ SP s ∧ ¬ SP lb ∧ ¬ SP pb
def ft (l s lb pb : Nat) (SP : Nat → Prop) : Nat → Prop := fun i => SP i ∨ i = l ∨ i = s ∨ i = lb ∨ i = pb
theorem At.keepD {w w' : World} {pv : Value} {sl : List (Int × Int)} {pl : List P3} {D : Nat} (h : At w l s lb pb cap pv tl sl pl) (hu : Upd (fun i => i = D) w w') (hD : ∀ i, ft l s lb pb SP i → i ≠ D) : At w' l s lb pb cap pv tl sl pl :=
  h.keep hu (fun e => hD l (by simp [ft]) e) (fun e => hD s (by simp [ft]) e) (fun e => hD lb (by simp [ft]) e) (fun e => hD pb (by simp [ft]) e)
set_option maxHeartbeats 4000000 in
theorem lockC {w : World} {b : Nat} {st : St} (h : O l s lb pb cap p SP k hs tl w b st) (hb : b < 1000000) (t : Nat) (ht : t < st.seats.length) (a : Int) :
    Calls Try.prog 38 #[.pointer (some ⟨l, 0, none⟩), .pointer (some ⟨pb, t * 3, none⟩), .int .i64 a] w fun e w' =>
      e = .returned (didv (lockS k tl st t a).1) ∧ O l s lb pb cap p SP k hs tl w' (b + 1) (lockS k tl st t a).2 ∧ Upd (ft l s lb pb SP) w w' := by
  obtain ⟨ha, hp, hf, hsep⟩ := h
  have hup0 : Upd (ft l s lb pb SP) w (w.alloc (.cells #[.int .i64 0, .bool false, .bool false, .bool false] 51)) := (Upd.refl _ _).alloc _
  have ha1 := ha.keep ((Upd.refl (fun _ => False) w).alloc (.cells #[.int .i64 0, .bool false, .bool false, .bool false] 51)) id id id id
  have hp1 := hp.alloc (.cells #[.int .i64 0, .bool false, .bool false, .bool false] 51)
  have R1 : Row (w.alloc (.cells #[.int .i64 0, .bool false, .bool false, .bool false] 51)) w.heap.size [.int .i64 0, .bool false, .bool false, .bool false] := Row.new' rfl
  obtain ⟨D, hD⟩ : ∃ D, w.heap.size = D := ⟨_, rfl⟩
  have hlD : ∀ i, ft l s lb pb SP i → i < D := by
    intro i hi
    rw [← hD]
    rcases hi with hi | rfl | rfl | rfl | rfl
    · obtain ⟨_, hl⟩ := hp; exact hl i hi
    · exact ha.top.lt
    · exact ha.seat.top.lt
    · exact ha.seat.row.lt
    · exact ha.plc.lt
  have HD := Lib.hid hD
  obtain ⟨W, hW⟩ : ∃ W, w.alloc (.cells #[.int .i64 0, .bool false, .bool false, .bool false] 51) = W := ⟨_, rfl⟩
  rw [hD] at R1
  rw [hW] at hup0 ha1 hp1 R1
  have HW := Lib.hid hW
  clear hD hW ha hp
  have c1 := ha1.top.cell (i := 1) rfl
  have c2 := ha1.top.cell (i := 2) rfl
  have n0 := ha1.c0 ht
  have n1 := ha1.c1 ht
  have n2 := ha1.c2 ht
  have tl0 := ha1.tl0
  have hDn : ∀ i, ft l s lb pb SP i → i ≠ D := fun i hi e => by have := hlD i hi; omega
  obtain ⟨o1, o2, o3⟩ := ha1.ok t (by rw [ha1.l1]; exact ht)
  obtain ⟨⟨nd, ah, sp⟩, hpl⟩ : ∃ x, st.pls.getD t (0, 0, 0) = x := ⟨_, rfl⟩
  rw [hpl] at n0 n1 n2 o1 o2 o3
  have hpw := hp1.wd
  have HFEW := Lib.hid hf
  have ha2 := ha1.keep ((Upd.refl (fun _ => False) W).drewN 1) id id id id
  dsimp only at n0 n1 n2 o1 o2 o3
  have HPL := Lib.hid hpl
  rcases o3 with rfl | rfl | rfl
  · have E := Lib.hid (show lockS k tl st t a = ((0, false, false, false), { st with pls := st.pls.set t (nd, ah, 1), ws := wrt k st.ws a (tl + 1 + nd) 1, ts := Cache.after k st.ws.length st.ts a (tl + 1 + nd) true }) by unfold lockS; dsimp only; rw [hpl, if_pos rfl])
    have KA := Port.storeP _ p SP k st.ws hs st.ts (hp1.drewN 1) (by omega) a (tl + 1 + nd) 1 (by omega) (by omega)
    have HKA := Lib.hid KA
    have HKF := Lib.hid (flagC (l := l) (W.drewN 1) c2 tl0 nd o1)
    clear KA hpw hpl hf
    go_enter Try.func38, Try.ntmps38
    go_upto_region 1 with (fail)
    rw [HW.out, HD.out]
    go_wp2_with fail
    go_region_held3 (fun w' => w'.cell? ⟨l, 1, none⟩ = some (.pointer (some ⟨p, 0, none⟩)) ∧ w'.cell? ⟨pb, t * 3, none⟩ = some (.int .i64 nd)) ((first | exact ⟨c1, n0⟩ | exact ⟨q1, q3⟩))
      ((first | (go_at_call 40; refine HKF.out.mono ?_; rintro e w4 ⟨rfl, rfl⟩) | (go_at_call 39; refine HKA.out.mono ?_; rintro e w5 ⟨rfl, hp5, u5⟩; have q1 := cell_upd u5 c1 hsep.1; have q3 := cell_upd u5 n0 hsep.2.2.2)))
    have A5 := ha2.keep u5 hsep.1 hsep.2.1 hsep.2.2.1 hsep.2.2.2
    have RD := (R1.drewN 1).upd u5 (fun e => hDn D (.inl e) rfl)
    have n2 := A5.c2 ht
    have m2 := A5.plc.frozen (t * 3 + 2)
    have A6 := A5.setStep t ht 1 (.inr (.inl rfl))
    have R6 := RD.set_ne (fun e => hDn pb (by simp [ft]) e.symm) (t * 3 + 2) (.int .i64 1)
    have p6 := hp5.keep (Upd.one w5 pb (t * 3 + 2) (.int .i64 1)) (fun i hi e => hsep.2.2.2 (e ▸ hi))
    have up6 : Upd (ft l s lb pb SP) w (w5.setCell ⟨pb, t * 3 + 2, none⟩ (.int .i64 1)) := Upd.setCell (p := ⟨pb, t * 3 + 2, none⟩) ((hup0.drewN 1).trans (u5.mono fun i _ h => .inl h)) (.inl (by simp [ft])) _
    rw [HPL.out] at A6
    dsimp only at A6
    have hDb : D ≠ pb := fun e => hDn pb (by simp [ft]) e.symm
    have y0 := RD.cell (i := 0) rfl
    have y1 := RD.cell (i := 1) rfl
    have y2 := RD.cell (i := 2) rfl
    have y3 := RD.cell (i := 3) rfl
    have f0 := RD.frozen 0
    have f1 := RD.frozen 1
    have f2 := RD.frozen 2
    have f3 := RD.frozen 3
    clear q1 q3 n0 n1 c1 c2 HKA HKF ha1 ha2 hp1 hup0 R1 RD A5 u5
    go_wp2_with fail
    have RE := did4 R6 (.int .i64 0) (.bool false) (.bool false) (.bool false)
    have UE := upd4 (w5.setCell ⟨pb, t * 3 + 2, none⟩ (.int .i64 1)) D (.int .i64 0) (.bool false) (.bool false) (.bool false)
    obtain ⟨w8, hw8⟩ : ∃ w8, ((((w5.setCell ⟨pb, t * 3 + 2, none⟩ (.int .i64 1)).setCell ⟨D, 0, none⟩ (.int .i64 0)).setCell ⟨D, 1, none⟩ (.bool false)).setCell ⟨D, 2, none⟩ (.bool false)).setCell ⟨D, 3, none⟩ (.bool false) = w8 := ⟨_, rfl⟩
    rw [hw8] at RE UE ⊢
    have g0 := RE.cell (i := 0) rfl
    have g1 := RE.cell (i := 1) rfl
    have g2 := RE.cell (i := 2) rfl
    have g3 := RE.cell (i := 3) rfl
    refine bodyPost_ret (v := didv (0, false, false, false)) (by simp [results, Try.results38, go_sem, didv, g0, g1, g2, g3]) rfl ?_
    rw [E.out]
    refine ⟨rfl, ⟨A6.keepD UE hDn, p6.keep UE (fun i hi e => hDn i (.inl hi) e), ?_, hsep⟩, up6.then UE (fun i hi e => by have := HD.out; omega)⟩
    exact Nat.le_trans (Cache.after_len _ _ _ _ _ _) (by have := HFEW.out; omega)
  · obtain ⟨g, hg⟩ : ∃ g, rd k st.ws a tl = g := ⟨_, rfl⟩
    have E := Lib.hid (show lockS k tl st t a = ((0, true, false, false), { st with pls := st.pls.set t (nd, g, 2), ws := wrt k st.ws a tl nd, ts := Cache.after k st.ws.length st.ts a tl true }) by unfold lockS; dsimp only; rw [hpl, if_neg (fun z => by cases z), if_pos rfl, hg])
    have KA := Port.swapP _ p SP k st.ws hs st.ts (hp1.drewN 1) (by omega) a tl nd o1.1 o1.2
    have hgw := rd_wd hpw k a tl
    rw [hg] at hgw
    unfold rd at hg
    rw [hg] at KA
    have HKA := Lib.hid KA
    have hgi : IntKind.i64.wrap g = g := IntWalk.i64_in _ (by omega)
    have HGI := Lib.hid hgi
    have hgw2 : 0 ≤ IntKind.i64.wrap g ∧ IntKind.i64.wrap g < 4294967296 := by rw [hgi]; exact hgw
    clear hgi
    have HS0 := Lib.hid (show ((st.pls.set t ((st.pls.getD t (0, 0, 0)).1, IntKind.i64.wrap g, (st.pls.getD t (0, 0, 0)).2.2)).getD t (0, 0, 0)).1 = nd by
      rw [List.getD, List.getElem?_set_self (by rw [ha1.l1]; exact ht)]
      show (st.pls.getD t (0, 0, 0)).1 = nd
      rw [hpl])
    have hndw : IntKind.u32.wrap nd = nd := by rw [show IntKind.u32.wrap nd = nd % 4294967296 from rfl]; omega
    clear KA hpw hg hpl hf
    go_enter Try.func38, Try.ntmps38
    go_upto_region 1 with (fail)
    rw [HW.out, HD.out]
    go_wp2_with fail
    go_region_held3 (fun w' => w'.cell? ⟨l, 1, none⟩ = some (.pointer (some ⟨p, 0, none⟩)) ∧ w'.cell? ⟨l, 2, none⟩ = some (.int .i64 tl) ∧ w'.cell? ⟨pb, t * 3, none⟩ = some (.int .i64 nd)) ((first | exact ⟨c1, c2, n0⟩ | exact ⟨q1, q2, q3⟩ | exact ⟨r1, r2, r3⟩))
      ((first | (go_at_call 53; refine HKA.out.mono ?_; rintro e w5 ⟨rfl, hp5, u5⟩; have q1 := cell_upd u5 c1 hsep.1; have q2 := cell_upd u5 c2 hsep.1; have A5 := ha2.keep u5 hsep.1 hsep.2.1 hsep.2.2.1 hsep.2.2.2; have q3 := cell_upd u5 n0 hsep.2.2.2; have q4 := A5.c1 ht; have m5 := A5.plc.frozen (t * 3 + 1); have A6 := A5.setAhead t ht (IntKind.i64.wrap g) hgw2; have r1 := A6.top.cell (i := 1) rfl; have r2 := A6.top.cell (i := 2) rfl; have r3 := A6.c0 ht; rw [HS0.out] at r3)))
    have RD := ((R1.drewN 1).upd u5 (fun e => hDn D (.inl e) rfl)).set_ne (fun e => hDn pb (by simp [ft]) e.symm) (t * 3 + 1) (.int .i64 (IntKind.i64.wrap g))
    have p6 := hp5.keep (Upd.one w5 pb (t * 3 + 1) (.int .i64 (IntKind.i64.wrap g))) (fun i hi e => hsep.2.2.2 (e ▸ hi))
    have up6 : Upd (ft l s lb pb SP) w (w5.setCell ⟨pb, t * 3 + 1, none⟩ (.int .i64 (IntKind.i64.wrap g))) := Upd.setCell (p := ⟨pb, t * 3 + 1, none⟩) ((hup0.drewN 1).trans (u5.mono fun i _ h => .inl h)) (.inl (by simp [ft])) _
    obtain ⟨w6, hw6⟩ : ∃ w6, w5.setCell ⟨pb, t * 3 + 1, none⟩ (.int .i64 (IntKind.i64.wrap g)) = w6 := ⟨_, rfl⟩
    rw [hw6] at A6 RD p6 up6 ⊢
    have A7 := A6.setStep t ht 2 (.inr (.inr rfl))
    have n7 := A6.c2 ht
    have m7 := A6.plc.frozen (t * 3 + 2)
    have R7 := RD.set_ne (fun e => hDn pb (by simp [ft]) e.symm) (t * 3 + 2) (.int .i64 2)
    have p7 := p6.keep (Upd.one w6 pb (t * 3 + 2) (.int .i64 2)) (fun i hi e => hsep.2.2.2 (e ▸ hi))
    have up7 : Upd (ft l s lb pb SP) w (w6.setCell ⟨pb, t * 3 + 2, none⟩ (.int .i64 2)) := Upd.setCell (p := ⟨pb, t * 3 + 2, none⟩) up6 (.inl (by simp [ft])) _
    have hpg : (st.pls.set t ((st.pls.getD t (0, 0, 0)).1, IntKind.i64.wrap g, (st.pls.getD t (0, 0, 0)).2.2)).set t (((st.pls.set t ((st.pls.getD t (0, 0, 0)).1, IntKind.i64.wrap g, (st.pls.getD t (0, 0, 0)).2.2)).getD t (0, 0, 0)).1, ((st.pls.set t ((st.pls.getD t (0, 0, 0)).1, IntKind.i64.wrap g, (st.pls.getD t (0, 0, 0)).2.2)).getD t (0, 0, 0)).2.1, 2) = st.pls.set t (nd, g, 2) := by
      have e1 : ∀ x : P3, (st.pls.set t x).getD t (0, 0, 0) = x := fun x => by rw [List.getD, List.getElem?_set_self (by rw [ha1.l1]; exact ht)]; rfl
      rw [e1, List.set_set, HPL.out, HGI.out]
    rw [hpg] at A7
    have hDb : D ≠ pb := fun e => hDn pb (by simp [ft]) e.symm
    have y0 := RD.cell (i := 0) rfl
    have y1 := RD.cell (i := 1) rfl
    have y2 := RD.cell (i := 2) rfl
    have y3 := RD.cell (i := 3) rfl
    have f0 := RD.frozen 0
    have f1 := RD.frozen 1
    have f2 := RD.frozen 2
    have f3 := RD.frozen 3
    clear hpg hw6 q1 q2 q3 q4 m5 r1 r2 r3 n0 n1 n2 c1 c2 HKA ha1 ha2 hp1 hup0 R1 RD A5 A6 u5 p6 up6 hp5 hgw hgw2 HS0
    go_wp2_with fail
    have RE := did4 R7 (.int .i64 0) (.bool true) (.bool false) (.bool false)
    have UE := upd4 (w6.setCell ⟨pb, t * 3 + 2, none⟩ (.int .i64 2)) D (.int .i64 0) (.bool true) (.bool false) (.bool false)
    obtain ⟨w8, hw8⟩ : ∃ w8, ((((w6.setCell ⟨pb, t * 3 + 2, none⟩ (.int .i64 2)).setCell ⟨D, 0, none⟩ (.int .i64 0)).setCell ⟨D, 1, none⟩ (.bool true)).setCell ⟨D, 2, none⟩ (.bool false)).setCell ⟨D, 3, none⟩ (.bool false) = w8 := ⟨_, rfl⟩
    rw [hw8] at RE UE ⊢
    have g0 := RE.cell (i := 0) rfl
    have g1 := RE.cell (i := 1) rfl
    have g2 := RE.cell (i := 2) rfl
    have g3 := RE.cell (i := 3) rfl
    refine bodyPost_ret (v := didv (0, true, false, false)) (by simp [results, Try.results38, go_sem, didv, g0, g1, g2, g3]) rfl ?_
    rw [E.out]
    refine ⟨rfl, ⟨A7.keepD UE hDn, p7.keep UE (fun i hi e => hDn i (.inl hi) e), ?_, hsep⟩, up7.then UE (fun i hi e => by have := HD.out; omega)⟩
    exact Nat.le_trans (Cache.after_len _ _ _ _ _ _) (by have := HFEW.out; omega)
  · obtain ⟨g, hg⟩ : ∃ g, rd k st.ws a (tl + 1 + ah) = g := ⟨_, rfl⟩
    have E := Lib.hid (show lockS k tl st t a = ((if g = 0 then 1 else 0, false, false, false), { st with ts := Cache.after k st.ws.length st.ts a (tl + 1 + ah) false }) by unfold lockS; dsimp only; rw [hpl, if_neg (fun z => by cases z), if_neg (fun z => by cases z), hg])
    have KA := Port.loadP _ p SP k st.ws hs st.ts (hp1.drewN 1) (by omega) a (tl + 1 + ah)
    unfold rd at hg
    rw [hg] at KA
    have HKA := Lib.hid KA
    have HKF := Lib.hid (flagC (l := l) (W.drewN 1) c2 tl0 ah o2)
    clear KA hpw hpl hf hg
    go_enter Try.func38, Try.ntmps38
    go_upto_region 1 with (fail)
    rw [HW.out, HD.out]
    go_wp2_with fail
    go_region_held3 (fun w' => w'.cell? ⟨l, 1, none⟩ = some (.pointer (some ⟨p, 0, none⟩)) ∧ w'.cell? ⟨pb, t * 3 + 1, none⟩ = some (.int .i64 ah)) ((first | exact ⟨c1, n1⟩ | exact ⟨q1, q3⟩))
      ((first | (go_at_call 40; refine HKF.out.mono ?_; rintro e w4 ⟨rfl, rfl⟩) | (go_at_call 41; refine HKA.out.mono ?_; rintro e w5 ⟨rfl, hp5, u5⟩; have q1 := cell_upd u5 c1 hsep.1; have q3 := cell_upd u5 n1 hsep.2.2.2)))
    have A5 := ha2.keep u5 hsep.1 hsep.2.1 hsep.2.2.1 hsep.2.2.2
    have RD := (R1.drewN 1).upd u5 (fun e => hDn D (.inl e) rfl)
    have hup7 : Upd (ft l s lb pb SP) w w5 := (hup0.drewN 1).trans (u5.mono fun i _ h => .inl h)
    have y0 := RD.cell (i := 0) rfl
    have y1 := RD.cell (i := 1) rfl
    have y2 := RD.cell (i := 2) rfl
    have y3 := RD.cell (i := 3) rfl
    have f0 := RD.frozen 0
    have f1 := RD.frozen 1
    have f2 := RD.frozen 2
    have f3 := RD.frozen 3
    clear q1 q3 n0 n1 n2 c1 c2 HKA HKF ha1 ha2 hp1 hup0 R1 u5
    by_cases hgn : g = 0
    · have E := E.out
      rw [if_pos hgn] at E
      have E := Lib.hid E
      subst hgn
      go_wp2_with fail
      have RE := did4 RD (.int .i64 1) (.bool false) (.bool false) (.bool false)
      have UE := upd4 w5 D (.int .i64 1) (.bool false) (.bool false) (.bool false)
      obtain ⟨w8, hw8⟩ : ∃ w8, (((w5.setCell ⟨D, 0, none⟩ (.int .i64 1)).setCell ⟨D, 1, none⟩ (.bool false)).setCell ⟨D, 2, none⟩ (.bool false)).setCell ⟨D, 3, none⟩ (.bool false) = w8 := ⟨_, rfl⟩
      rw [hw8] at RE UE ⊢
      have g0 := RE.cell (i := 0) rfl
      have g1 := RE.cell (i := 1) rfl
      have g2 := RE.cell (i := 2) rfl
      have g3 := RE.cell (i := 3) rfl
      refine bodyPost_ret (v := didv (1, false, false, false)) (by simp [results, Try.results38, go_sem, didv, g0, g1, g2, g3]) rfl ?_
      (try rw [E.out])
      refine ⟨rfl, ⟨A5.keepD UE hDn, hp5.keep UE (fun i hi e => hDn i (.inl hi) e), ?_, hsep⟩, hup7.then UE (fun i hi e => by have := HD.out; omega)⟩
      exact Nat.le_trans (Cache.after_len _ _ _ _ _ _) (by have := HFEW.out; omega)
    · have hgn' : (g == 0) = false := by simpa using hgn
      rw [if_neg hgn] at E
      clear hgn
      go_wp2_with fail
      have RE := did4 RD (.int .i64 0) (.bool false) (.bool false) (.bool false)
      have UE := upd4 w5 D (.int .i64 0) (.bool false) (.bool false) (.bool false)
      obtain ⟨w8, hw8⟩ : ∃ w8, (((w5.setCell ⟨D, 0, none⟩ (.int .i64 0)).setCell ⟨D, 1, none⟩ (.bool false)).setCell ⟨D, 2, none⟩ (.bool false)).setCell ⟨D, 3, none⟩ (.bool false) = w8 := ⟨_, rfl⟩
      rw [hw8] at RE UE ⊢
      have g0 := RE.cell (i := 0) rfl
      have g1 := RE.cell (i := 1) rfl
      have g2 := RE.cell (i := 2) rfl
      have g3 := RE.cell (i := 3) rfl
      refine bodyPost_ret (v := didv (0, false, false, false)) (by simp [results, Try.results38, go_sem, didv, g0, g1, g2, g3]) rfl ?_
      (try rw [E.out])
      refine ⟨rfl, ⟨A5.keepD UE hDn, hp5.keep UE (fun i hi e => hDn i (.inl hi) e), ?_, hsep⟩, hup7.then UE (fun i hi e => by have := HD.out; omega)⟩
      exact Nat.le_trans (Cache.after_len _ _ _ _ _ _) (by have := HFEW.out; omega)
end Go.Proofs.Ytgoaaijdlhhkkaa.Clh
