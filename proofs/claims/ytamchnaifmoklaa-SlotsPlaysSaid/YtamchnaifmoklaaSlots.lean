/- Package slots: Anderson's lock, as an object over its port: Use, slot, lock. -/
import Derived.Test.YtamchnaifmoklaaStepU
import Derived.Test.YtamchnaifmoklaaMPk
namespace Go.Proofs.Ytamchnaifmoklaa.Slots
open Go Go.RowKit Go.Proofs.Ytamchnaifmoklaa.Heap Go.Proofs.Ytamchnaifmoklaa.Open Go.Proofs.Ytamchnaifmoklaa.Seat Go.Proofs.Ytamchnaifmoklaa.Mach Go.Proofs.Ytamchnaifmoklaa.Has Go.Proofs.Ytamchnaifmoklaa.StepU Go.Proofs.Ytamchnaifmoklaa.Pack

/-- Places of a number and a step, as cells. -/
abbrev P2 := Int × Int
def cells2 : List P2 → List Value
  | [] => []
  | (a, b) :: r => .int .u32 a :: .int .i64 b :: cells2 r
theorem cells2_len (l : List P2) : (cells2 l).length = l.length * 2 := by
  induction l with
  | nil => rfl
  | cons x r ih => obtain ⟨a, b⟩ := x; simp [cells2, ih]; omega
theorem cells2_0 : ∀ (l : List P2) (t : Nat), t < l.length → (cells2 l)[t * 2]? = some (.int .u32 (l.getD t (0, 0)).1)
  | (a, b) :: r, 0, _ => by simp [cells2]
  | (a, b) :: r, t + 1, h => by
    have := cells2_0 r t (by simpa using h)
    rw [show (t + 1) * 2 = t * 2 + 2 by omega]; simpa [cells2] using this
theorem cells2_1 : ∀ (l : List P2) (t : Nat), t < l.length → (cells2 l)[t * 2 + 1]? = some (.int .i64 (l.getD t (0, 0)).2)
  | (a, b) :: r, 0, _ => by simp [cells2]
  | (a, b) :: r, t + 1, h => by
    have := cells2_1 r t (by simpa using h)
    rw [show (t + 1) * 2 + 1 = t * 2 + 1 + 2 by omega]; simpa [cells2] using this
theorem cells2_set0 : ∀ (l : List P2) (t : Nat) (y : Int), (cells2 l).set (t * 2) (.int .u32 y) = cells2 (l.set t (y, (l.getD t (0, 0)).2))
  | [], t, y => by simp [cells2]
  | (a, b) :: r, 0, y => by simp [cells2]
  | (a, b) :: r, t + 1, y => by
    have := cells2_set0 r t y
    rw [show (t + 1) * 2 = t * 2 + 2 by omega]; simpa [cells2] using this
theorem cells2_set1 : ∀ (l : List P2) (t : Nat) (y : Int), (cells2 l).set (t * 2 + 1) (.int .i64 y) = cells2 (l.set t ((l.getD t (0, 0)).1, y))
  | [], t, y => by simp [cells2]
  | (a, b) :: r, 0, y => by simp [cells2]
  | (a, b) :: r, t + 1, y => by
    have := cells2_set1 r t y
    rw [show (t + 1) * 2 + 1 = t * 2 + 1 + 2 by omega]; simpa [cells2] using this
theorem cells2_set2 : ∀ (l : List P2) (t : Nat) (x y : Int), ((cells2 l).set (t * 2) (.int .u32 x)).set (t * 2 + 1) (.int .i64 y) = cells2 (l.set t (x, y))
  | [], t, x, y => by simp [cells2]
  | (a, b) :: r, 0, x, y => by simp [cells2]
  | (a, b) :: r, t + 1, x, y => by
    have := cells2_set2 r t x y
    rw [show (t + 1) * 2 + 1 = t * 2 + 1 + 2 by omega, show (t + 1) * 2 = t * 2 + 2 by omega]; simpa [cells2] using this
theorem cells2_zeros (n : Nat) : cells2 (List.replicate n (0, 0)) = (List.replicate n [Value.int .u32 0, Value.int .i64 0]).flatten := by
  induction n with
  | zero => rfl
  | succ n ih => rw [List.replicate_succ, List.replicate_succ, List.flatten_cons, ← ih]; rfl
/-- Places that may be: numbers of 32 bits, a step is one of three. -/
def Ok (pl : List P2) : Prop := ∀ t : Nat, t < pl.length → (0 ≤ (pl.getD t (0, 0)).1 ∧ (pl.getD t (0, 0)).1 < 4294967296) ∧ ((pl.getD t (0, 0)).2 = 0 ∨ (pl.getD t (0, 0)).2 = 1 ∨ (pl.getD t (0, 0)).2 = 2)
theorem Ok.set {pl : List P2} (h : Ok pl) (t : Nat) (a c : Int) (ha : 0 ≤ a ∧ a < 4294967296) (hc : c = 0 ∨ c = 1 ∨ c = 2) : Ok (pl.set t (a, c)) := by
  intro u hu
  rw [List.length_set] at hu
  by_cases e : u = t
  · subst e
    have : (pl.set u (a, c)).getD u (0, 0) = (a, c) := by simp [List.getD, List.getElem?_set_self hu]
    rw [this]; exact ⟨ha, hc⟩
  · have : (pl.set t (a, c)).getD u (0, 0) = pl.getD u (0, 0) := by rw [List.getD, List.getElem?_set_ne (fun z => e z.symm)]; rfl
    rw [this]; exact h u hu
/-- A lock: its block, its seats' two, that of the places. -/
structure At (w : World) (l s lb pb : Nat) (pv : Value) (tl kn : Int) (sl : List (Int × Int)) (pl : List P2) : Prop where
  top : Row w l [.pointer (some ⟨s, 0, none⟩), pv, .int .i64 tl, .int .i64 kn, .slice (some ⟨pb, 0, none⟩) sl.length sl.length]
  seat : Seat.At w s lb sl false false
  plc : Row w pb (cells2 pl)
  l1 : pl.length = sl.length
  e1 : l ≠ s ∧ l ≠ lb ∧ l ≠ pb
  e2 : pb ≠ s ∧ pb ≠ lb
  ok : Ok pl
  tl0 : 0 ≤ tl ∧ tl ≤ 100000
  sz : IsSize kn
variable {l s lb pb p : Nat} {SP : Nat → Prop} {k : Nat} {hs : List Int} {tl kn : Int}
theorem At.keep {w w' : World} {pv : Value} {sl : List (Int × Int)} {pl : List P2} {T : Nat → Prop} (h : At w l s lb pb pv tl kn sl pl) (hu : Upd T w w') (h1 : ¬ T l) (h2 : ¬ T s) (h3 : ¬ T lb) (h4 : ¬ T pb) :
    At w' l s lb pb pv tl kn sl pl := ⟨h.top.upd hu h1, h.seat.upd hu h2 h3, h.plc.upd hu h4, h.l1, h.e1, h.e2, h.ok, h.tl0, h.sz⟩
theorem At.seats {w w' : World} {pv : Value} {sl sl' : List (Int × Int)} {pl : List P2} (h : At w l s lb pb pv tl kn sl pl) (hu : Upd (fun k => k = lb) w w') (hs : Seat.At w' s lb sl' false false) (hl : sl'.length = sl.length) :
    At w' l s lb pb pv tl kn sl' pl :=
  ⟨by rw [hl]; exact h.top.upd hu h.e1.2.1, hs, h.plc.upd hu h.e2.2, by rw [hl]; exact h.l1, h.e1, h.e2, h.ok, h.tl0, h.sz⟩
/-- The places turn. -/
theorem At.places {w w' : World} {pv : Value} {sl : List (Int × Int)} {pl pl' : List P2} (h : At w l s lb pb pv tl kn sl pl) (hu : Upd (fun i => i = pb) w w') (hr : Row w' pb (cells2 pl')) (hl : pl'.length = pl.length) (ho : Ok pl') :
    At w' l s lb pb pv tl kn sl pl' :=
  ⟨h.top.upd hu h.e1.2.2, h.seat.upd hu (fun e => h.e2.1 e.symm) (fun e => h.e2.2 e.symm), hr, by rw [hl]; exact h.l1, h.e1, h.e2, ho, h.tl0, h.sz⟩
theorem At.setNum {w : World} {pv : Value} {sl : List (Int × Int)} {pl : List P2} (h : At w l s lb pb pv tl kn sl pl) (t : Nat) (ht : t < sl.length) (y : Int) (hy : 0 ≤ y ∧ y < 4294967296) :
    At (w.setCell ⟨pb, t * 2, none⟩ (.int .u32 y)) l s lb pb pv tl kn sl (pl.set t (y, (pl.getD t (0, 0)).2)) := by
  obtain ⟨_, o3⟩ := h.ok t (by rw [h.l1]; exact ht)
  exact h.places (Upd.one w pb _ _) (by rw [← cells2_set0]; exact h.plc.set _ _) (by simp) (h.ok.set t _ _ hy o3)
theorem At.setStep {w : World} {pv : Value} {sl : List (Int × Int)} {pl : List P2} (h : At w l s lb pb pv tl kn sl pl) (t : Nat) (ht : t < sl.length) (y : Int) (hy : y = 0 ∨ y = 1 ∨ y = 2) :
    At (w.setCell ⟨pb, t * 2 + 1, none⟩ (.int .i64 y)) l s lb pb pv tl kn sl (pl.set t ((pl.getD t (0, 0)).1, y)) := by
  obtain ⟨o1, _⟩ := h.ok t (by rw [h.l1]; exact ht)
  exact h.places (Upd.one w pb _ _) (by rw [← cells2_set1]; exact h.plc.set _ _) (by simp) (h.ok.set t _ _ o1 hy)
theorem At.clear {w : World} {pv : Value} {sl : List (Int × Int)} {pl : List P2} (h : At w l s lb pb pv tl kn sl pl) (t : Nat) :
    At ((w.setCell ⟨pb, t * 2, none⟩ (.int .u32 0)).setCell ⟨pb, t * 2 + 1, none⟩ (.int .i64 0)) l s lb pb pv tl kn sl (pl.set t (0, 0)) := by
  refine h.places (Upd.two w pb _ _ _ _) ?_ (by simp) (h.ok.set t _ _ (by omega) (.inl rfl))
  rw [← cells2_set2]
  exact (h.plc.set _ _).set _ _
theorem At.use {w : World} {pv : Value} {sl : List (Int × Int)} {pl : List P2} (h : At w l s lb pb pv tl kn sl pl) (v : Value) :
    At (w.setCell ⟨l, 1, none⟩ v) l s lb pb v tl kn sl pl := by
  have hu := Upd.one w l 1 v
  exact ⟨by simpa using h.top.set 1 v, h.seat.upd hu (fun e => h.e1.1 e.symm) (fun e => h.e1.2.1 e.symm), h.plc.upd hu (fun e => h.e1.2.2 e.symm), h.l1, h.e1, h.e2, h.ok, h.tl0, h.sz⟩
theorem At.c0 {w : World} {pv : Value} {sl : List (Int × Int)} {pl : List P2} (h : At w l s lb pb pv tl kn sl pl) {t : Nat} (ht : t < sl.length) : w.cell? ⟨pb, t * 2, none⟩ = some (.int .u32 (pl.getD t (0, 0)).1) := h.plc.cell (cells2_0 pl t (by rw [h.l1]; exact ht))
theorem At.c1 {w : World} {pv : Value} {sl : List (Int × Int)} {pl : List P2} (h : At w l s lb pb pv tl kn sl pl) {t : Nat} (ht : t < sl.length) : w.cell? ⟨pb, t * 2 + 1, none⟩ = some (.int .i64 (pl.getD t (0, 0)).2) := h.plc.cell (cells2_1 pl t (by rw [h.l1]; exact ht))
theorem useC (w : World) (pv : Value) (sl : List (Int × Int)) (pl : List P2) (h : At w l s lb pb pv tl kn sl pl) :
    Calls Try.prog 19 #[.pointer (some ⟨l, 0, none⟩), .pointer (some ⟨p, 0, none⟩)] w fun e w' => e = .returned (.tuple #[]) ∧ At w' l s lb pb (.pointer (some ⟨p, 0, none⟩)) tl kn sl pl ∧ Upd (fun k => k = l) w w' := by
  have h1 := h.top.cell (i := 1) rfl
  have f1 := h.top.frozen 1
  go_enter Try.func19, Try.ntmps19
  go_wp2
  go_end0
  exact ⟨rfl, h.use _, Upd.one _ _ _ _⟩
/-- The slot of a number. -/
def slotA (tl kn x : Int) : Int := tl + 1 + x % kn
theorem size_pos {n : Int} (h : IsSize n) : 1 ≤ n ∧ n ≤ 64 := by unfold IsSize at h; omega
theorem slotC (w : World) (hc : w.cell? ⟨l, 2, none⟩ = some (.int .i64 tl)) (hk : w.cell? ⟨l, 3, none⟩ = some (.int .i64 kn)) (h0 : 0 ≤ tl ∧ tl ≤ 100000) (hz : IsSize kn) (x : Int) (hx : 0 ≤ x ∧ x < 4294967296) :
    Calls Try.prog 45 #[.pointer (some ⟨l, 0, none⟩), .int .u32 x] w fun e w' => e = .returned (.int .i64 (slotA tl kn x)) ∧ ∃ n, w' = w.drewN n := by
  obtain ⟨r, hr⟩ : ∃ r, x % kn = r := ⟨_, rfl⟩
  have hp := size_pos hz
  have hr0 : 0 ≤ r ∧ r < 64 := by
    rw [← hr]
    have := Int.emod_nonneg x (show kn ≠ 0 by omega)
    have := Int.emod_lt_of_pos x (show 0 < kn by omega)
    omega
  have E := Lib.hid (show slotA tl kn x = tl + 1 + r by unfold slotA; rw [hr])
  have KP := fun w => slot_yes x kn w hz hx.1 hx.2 r hr.symm
  have HP := Lib.hid KP
  clear KP hr
  go_enter Try.func45, Try.ntmps45
  go_wp2_with fail
  go_quiet ((go_at_call 38; exact Calls.quiet_of_same ((HP.out _).mono fun e w' ⟨he, hw⟩ => ⟨he, hw.symm⟩)))
  all_goals
    go_wp2_with fail
    go_ret
    exact ⟨by rw [E.out]; rfl, _, rfl⟩

/-- What a lock over its port does, by value. -/
structure St where
  seats : List (Int × Int)
  pls : List P2
  ws : List Int
  ts : List T
/-- The step of a call for the lock. -/
def lockS (k : Nat) (tl kn : Int) (st : St) (t : Nat) (a : Int) : Did × St :=
  let x := st.pls.getD t (0, 0)
  if x.2 = 0 then ((0, true, false, false), { st with pls := st.pls.set t (rd k st.ws a tl, 1), ws := wrt k st.ws a tl ((Mem.get st.ws tl + 1) % 4294967296), ts := Cache.after k st.ws.length st.ts a tl true })
  else if x.2 = 1 then ((0, false, false, false), { st with pls := (if rd k st.ws a (slotA tl kn x.1) = 0 then st.pls else st.pls.set t (x.1, 2)), ts := Cache.after k st.ws.length st.ts a (slotA tl kn x.1) false })
  else ((1, false, false, false), { st with ws := wrt k st.ws a (slotA tl kn x.1) 0, ts := Cache.after k st.ws.length st.ts a (slotA tl kn x.1) true })
/-- The step, but for its end. -/
def midS (k : Nat) (tl kn : Int) (st : St) (t a : Int) : Did × St :=
  if state st.seats t = 1 then lockS k tl kn st t.toNat a
  else if state st.seats t = 3 then
    ((3, false, false, false), { st with pls := st.pls.set t.toNat (0, 0), ws := wrt k st.ws a (slotA tl kn (((st.pls.getD t.toNat (0, 0)).1 + 1) % 4294967296)) 1, ts := Cache.after k st.ws.length st.ts a (slotA tl kn (((st.pls.getD t.toNat (0, 0)).1 + 1) % 4294967296)) true })
  else ((0, false, false, false), st)
def step (k : Nat) (tl kn : Int) (st : St) (t a _now : Int) : Did × St :=
  let r := midS k tl kn st t a
  (r.1, { r.2 with seats := (fin r.2.seats t r.1.1).2 })
/-- A lock over its port, as objects. -/
structure O (l s lb pb p : Nat) (SP : Nat → Prop) (k : Nat) (hs : List Int) (tl kn : Int) (w : World) (b : Nat) (st : St) : Prop where
  at_ : At w l s lb pb (.pointer (some ⟨p, 0, none⟩)) tl kn st.seats st.pls
  port : Port.O w p SP k st.ws hs st.ts
  few : st.ts.length ≤ b
  sep : ¬ SP l ∧ ¬ SP s ∧ ¬ SP lb ∧ ¬ SP pb
def ft (l s lb pb : Nat) (SP : Nat → Prop) : Nat → Prop := fun i => SP i ∨ i = l ∨ i = s ∨ i = lb ∨ i = pb
theorem At.keepD {w w' : World} {pv : Value} {sl : List (Int × Int)} {pl : List P2} {D : Nat} (h : At w l s lb pb pv tl kn sl pl) (hu : Upd (fun i => i = D) w w') (hD : ∀ i, ft l s lb pb SP i → i ≠ D) : At w' l s lb pb pv tl kn sl pl :=
  h.keep hu (fun e => hD l (by simp [ft]) e) (fun e => hD s (by simp [ft]) e) (fun e => hD lb (by simp [ft]) e) (fun e => hD pb (by simp [ft]) e)
theorem did_end {w : World} {D : Nat} {a0 a1 a2 a3 : Value} (RD : Row w D [a0, a1, a2, a3]) (ev : Int) (b : Bool) : ∃ w8, (((w.setCell ⟨D, 0, none⟩ (.int .i64 ev)).setCell ⟨D, 1, none⟩ (.bool b)).setCell ⟨D, 2, none⟩ (.bool false)).setCell ⟨D, 3, none⟩ (.bool false) = w8 ∧ Row w8 D [.int .i64 ev, .bool b, .bool false, .bool false] ∧ Upd (fun i => i = D) w w8 :=
  ⟨_, rfl, did4 RD _ _ _ _, upd4 w D _ _ _ _⟩
set_option maxHeartbeats 4000000 in
theorem lockC {w : World} {b : Nat} {st : St} (h : O l s lb pb p SP k hs tl kn w b st) (hb : b < 1000000) (t : Nat) (ht : t < st.seats.length) (a : Int) :
    Calls Try.prog 43 #[.pointer (some ⟨l, 0, none⟩), .pointer (some ⟨pb, t * 2, none⟩), .int .i64 a] w fun e w' =>
      e = .returned (didv (lockS k tl kn st t a).1) ∧ O l s lb pb p SP k hs tl kn w' (b + 1) (lockS k tl kn st t a).2 ∧ Upd (ft l s lb pb SP) w w' := by
  obtain ⟨ha, hp, hf, hsep⟩ := h
  have hup0 : Upd (ft l s lb pb SP) w (w.alloc (.cells #[.int .i64 0, .bool false, .bool false, .bool false] 53)) := (Upd.refl _ _).alloc _
  have ha1 := ha.keep ((Upd.refl (fun _ => False) w).alloc (.cells #[.int .i64 0, .bool false, .bool false, .bool false] 53)) id id id id
  have hp1 := hp.alloc (.cells #[.int .i64 0, .bool false, .bool false, .bool false] 53)
  have R1 : Row (w.alloc (.cells #[.int .i64 0, .bool false, .bool false, .bool false] 53)) w.heap.size [.int .i64 0, .bool false, .bool false, .bool false] := Row.new' rfl
  obtain ⟨D, hD⟩ : ∃ D, w.heap.size = D := ⟨_, rfl⟩
  have hlD : ∀ i, ft l s lb pb SP i → i < D := by
    intro i hi
    rw [← hD]
    rcases hi with hi | rfl | rfl | rfl | rfl
    · obtain ⟨_, hl⟩ := hp; exact hl i hi
    · exact ha.top.lt
    · exact ha.seat.top.lt
    · exact ha.seat.row.lt
    · exact ha.plc.lt
  have HD := Lib.hid hD
  obtain ⟨W, hW⟩ : ∃ W, w.alloc (.cells #[.int .i64 0, .bool false, .bool false, .bool false] 53) = W := ⟨_, rfl⟩
  rw [hD] at R1
  rw [hW] at hup0 ha1 hp1 R1
  have HW := Lib.hid hW
  clear hD hW ha hp
  have c1 := ha1.top.cell (i := 1) rfl
  have c2 := ha1.top.cell (i := 2) rfl
  have c3 := ha1.top.cell (i := 3) rfl
  have n0 := ha1.c0 ht
  have n1 := ha1.c1 ht
  have tl0 := ha1.tl0
  have hsz := ha1.sz
  have hDn : ∀ i, ft l s lb pb SP i → i ≠ D := fun i hi e => by have := hlD i hi; omega
  obtain ⟨o1, o3⟩ := ha1.ok t (by rw [ha1.l1]; exact ht)
  obtain ⟨⟨nd, sp⟩, hpl⟩ : ∃ x, st.pls.getD t (0, 0) = x := ⟨_, rfl⟩
  rw [hpl] at n0 n1 o1 o3
  have hpw := hp1.wd
  have HFEW := Lib.hid hf
  have ha2 := ha1.keep ((Upd.refl (fun _ => False) W).drewN 1) id id id id
  dsimp only at n0 n1 o1 o3
  have HPL := Lib.hid hpl
  have HSZ := Lib.hid hsz
  clear hsz
  rcases o3 with rfl | rfl | rfl
  · obtain ⟨g, hg⟩ : ∃ g, rd k st.ws a tl = g := ⟨_, rfl⟩
    have E := Lib.hid (show lockS k tl kn st t a = ((0, true, false, false), { st with pls := st.pls.set t (g, 1), ws := wrt k st.ws a tl ((Mem.get st.ws tl + 1) % 4294967296), ts := Cache.after k st.ws.length st.ts a tl true }) by unfold lockS; dsimp only; rw [hpl, if_pos rfl, hg])
    have KA := Port.addP _ p SP k st.ws hs st.ts (hp1.drewN 1) (by omega) a tl 1
    have hgw := rd_wd hpw k a tl
    rw [hg] at hgw
    unfold rd at hg
    rw [hg] at KA
    have HKA := Lib.hid KA
    have HS0 := Lib.hid (show (st.pls.set t (g, (st.pls.getD t (0, 0)).2)).set t (((st.pls.set t (g, (st.pls.getD t (0, 0)).2)).getD t (0, 0)).1, 1) = st.pls.set t (g, 1) by
      have e1 : ∀ x : P2, (st.pls.set t x).getD t (0, 0) = x := fun x => by rw [List.getD, List.getElem?_set_self (by rw [ha1.l1]; exact ht)]; rfl
      rw [e1, List.set_set])
    clear KA hpw hg hpl hf
    go_enter Try.func43, Try.ntmps43
    go_upto_region 1 with (fail)
    rw [HW.out, HD.out]
    go_wp2_with fail
    go_region_held3 (fun w' => w'.cell? ⟨l, 1, none⟩ = some (.pointer (some ⟨p, 0, none⟩)) ∧ w'.cell? ⟨l, 2, none⟩ = some (.int .i64 tl)) ((first | exact ⟨c1, c2⟩ | exact ⟨q1, q2⟩ | exact ⟨r1, r2⟩))
      ((first | (go_at_call 58; refine HKA.out.mono ?_; rintro e w5 ⟨rfl, hp5, u5⟩; have A5 := ha2.keep u5 hsep.1 hsep.2.1 hsep.2.2.1 hsep.2.2.2; have q1 := A5.top.cell (i := 1) rfl; have q2 := A5.top.cell (i := 2) rfl; have q4 := A5.c0 ht; have m5 := A5.plc.frozen (t * 2); have A6 := A5.setNum t ht g hgw; have r1 := A6.top.cell (i := 1) rfl; have r2 := A6.top.cell (i := 2) rfl)))
    have RD := ((R1.drewN 1).upd u5 (fun e => hDn D (.inl e) rfl)).set_ne (fun e => hDn pb (by simp [ft]) e.symm) (t * 2) (.int .u32 g)
    have p6 := hp5.keep (Upd.one w5 pb (t * 2) (.int .u32 g)) (fun i hi e => hsep.2.2.2 (e ▸ hi))
    have up6 : Upd (ft l s lb pb SP) w (w5.setCell ⟨pb, t * 2, none⟩ (.int .u32 g)) := Upd.setCell (p := ⟨pb, t * 2, none⟩) ((hup0.drewN 1).trans (u5.mono fun i _ h => .inl h)) (.inl (by simp [ft])) _
    obtain ⟨w6, hw6⟩ : ∃ w6, w5.setCell ⟨pb, t * 2, none⟩ (.int .u32 g) = w6 := ⟨_, rfl⟩
    rw [hw6] at A6 RD p6 up6 ⊢
    have A7 := A6.setStep t ht 1 (.inr (.inl rfl))
    rw [HS0.out] at A7
    have n7 := A6.c1 ht
    have m7 := A6.plc.frozen (t * 2 + 1)
    have R7 := RD.set_ne (fun e => hDn pb (by simp [ft]) e.symm) (t * 2 + 1) (.int .i64 1)
    have p7 := p6.keep (Upd.one w6 pb (t * 2 + 1) (.int .i64 1)) (fun i hi e => hsep.2.2.2 (e ▸ hi))
    have up7 : Upd (ft l s lb pb SP) w (w6.setCell ⟨pb, t * 2 + 1, none⟩ (.int .i64 1)) := Upd.setCell (p := ⟨pb, t * 2 + 1, none⟩) up6 (.inl (by simp [ft])) _
    have hDb : D ≠ pb := fun e => hDn pb (by simp [ft]) e.symm
    have y0 := RD.cell (i := 0) rfl
    have y1 := RD.cell (i := 1) rfl
    have y2 := RD.cell (i := 2) rfl
    have y3 := RD.cell (i := 3) rfl
    have f0 := RD.frozen 0
    have f1 := RD.frozen 1
    have f2 := RD.frozen 2
    have f3 := RD.frozen 3
    clear hw6 q1 q2 q4 m5 r1 r2 n0 n1 c1 c2 c3 HKA ha1 ha2 hp1 hup0 R1 RD A5 A6 u5 p6 up6 hp5 hgw HS0
    go_wp2_with fail
    obtain ⟨w8, hw8, RE, UE⟩ := did_end R7 0 true
    rw [hw8]
    have g0 := RE.cell (i := 0) rfl
    have g1 := RE.cell (i := 1) rfl
    have g2 := RE.cell (i := 2) rfl
    have g3 := RE.cell (i := 3) rfl
    refine bodyPost_ret (v := didv (0, true, false, false)) (by simp [results, Try.results43, go_sem, didv, g0, g1, g2, g3]) rfl ?_
    (try rw [E.out])
    refine ⟨rfl, ⟨A7.keepD UE hDn, p7.keep UE (fun i hi e => hDn i (.inl hi) e), ?_, hsep⟩, up7.then UE (fun i hi e => by have := HD.out; omega)⟩
    exact Nat.le_trans (Cache.after_len _ _ _ _ _ _) (by have := HFEW.out; omega)
  · obtain ⟨ad, had⟩ : ∃ ad, slotA tl kn nd = ad := ⟨_, rfl⟩
    obtain ⟨g, hg⟩ : ∃ g, rd k st.ws a ad = g := ⟨_, rfl⟩
    have E := Lib.hid (show lockS k tl kn st t a = ((0, false, false, false), { st with pls := (if g = 0 then st.pls else st.pls.set t (nd, 2)), ts := Cache.after k st.ws.length st.ts a ad false }) by unfold lockS; dsimp only; rw [hpl, if_neg (fun z => by cases z), if_pos rfl, had, hg])
    have KA := fun m => Port.loadP _ p SP k st.ws hs st.ts (hp1.drewN m) (by omega) a ad
    unfold rd at hg
    rw [hg] at KA
    have HKA := Lib.hid KA
    have KF := slotC (l := l) (W.drewN 1) c2 c3 tl0 HSZ.out nd o1
    rw [had] at KF
    have HKF := Lib.hid KF
    have hA2 := fun m => ha1.keep ((Upd.refl (fun _ => False) W).drewN m) id id id id
    have HA2 := Lib.hid hA2
    clear KA KF hpw hf hg had hA2 hpl
    go_enter Try.func43, Try.ntmps43
    go_upto_region 1 with (fail)
    rw [HW.out, HD.out]
    go_wp2_with fail
    go_region_held3 (fun w' => w'.cell? ⟨l, 1, none⟩ = some (.pointer (some ⟨p, 0, none⟩)) ∧ w'.cell? ⟨pb, t * 2, none⟩ = some (.int .u32 nd)) ((first | exact ⟨c1, n0⟩ | exact ⟨q1, q3⟩))
      ((first | (go_at_call 45; refine HKF.out.mono ?_; rintro e w4 ⟨rfl, nn, rfl⟩) | (go_at_call 59; refine (HKA.out _).mono ?_; rintro e w5 ⟨rfl, hp5, u5⟩; have A5 := (HA2.out _).keep u5 hsep.1 hsep.2.1 hsep.2.2.1 hsep.2.2.2; have q1 := A5.top.cell (i := 1) rfl; have q3 := cell_upd (((Upd.refl SP W).drewN _).trans u5) n0 hsep.2.2.2)))
    have RD := (R1.drewN (1 + nn)).upd u5 (fun e => hDn D (.inl e) rfl)
    have up5 : Upd (ft l s lb pb SP) w w5 := (hup0.drewN (1 + nn)).trans (u5.mono fun i _ h => .inl h)
    have hDb : D ≠ pb := fun e => hDn pb (by simp [ft]) e.symm
    have y0 := RD.cell (i := 0) rfl
    have y1 := RD.cell (i := 1) rfl
    have y2 := RD.cell (i := 2) rfl
    have y3 := RD.cell (i := 3) rfl
    have f0 := RD.frozen 0
    have f1 := RD.frozen 1
    have f2 := RD.frozen 2
    have f3 := RD.frozen 3
    clear q1 q3 n0 c1 c2 c3 HKA HKF ha1 ha2 hp1 hup0 R1 u5 HA2
    by_cases hgn : g = 0
    · rw [if_pos hgn] at E
      subst hgn
      clear n1
      go_wp2_with fail
      obtain ⟨w8, hw8, RE, UE⟩ := did_end RD 0 false
      rw [hw8]
      have g0 := RE.cell (i := 0) rfl
      have g1 := RE.cell (i := 1) rfl
      have g2 := RE.cell (i := 2) rfl
      have g3 := RE.cell (i := 3) rfl
      refine bodyPost_ret (v := didv (0, false, false, false)) (by simp [results, Try.results43, go_sem, didv, g0, g1, g2, g3]) rfl ?_
      (try rw [E.out])
      refine ⟨rfl, ⟨A5.keepD UE hDn, hp5.keep UE (fun i hi e => hDn i (.inl hi) e), ?_, hsep⟩, up5.then UE (fun i hi e => by have := HD.out; omega)⟩
      exact Nat.le_trans (Cache.after_len _ _ _ _ _ _) (by have := HFEW.out; omega)
    · rw [if_neg hgn] at E
      have hgn' : (g == 0) = false := by simpa using hgn
      have hgn2 : (g != 0) = true := by simp [bne, hgn']
      have n5 := A5.c1 ht
      have m5 := A5.plc.frozen (t * 2 + 1)
      have A6 := A5.setStep t ht 2 (.inr (.inr rfl))
      rw [HPL.out] at A6
      dsimp only at A6
      have R6 := RD.set_ne hDb (t * 2 + 1) (.int .i64 2)
      have p6 := hp5.keep (Upd.one w5 pb (t * 2 + 1) (.int .i64 2)) (fun i hi e => hsep.2.2.2 (e ▸ hi))
      have up6 : Upd (ft l s lb pb SP) w (w5.setCell ⟨pb, t * 2 + 1, none⟩ (.int .i64 2)) := Upd.setCell (p := ⟨pb, t * 2 + 1, none⟩) up5 (.inl (by simp [ft])) _
      clear hgn n1 A5
      go_wp2_with fail
      obtain ⟨w8, hw8, RE, UE⟩ := did_end R6 0 false
      rw [hw8]
      have g0 := RE.cell (i := 0) rfl
      have g1 := RE.cell (i := 1) rfl
      have g2 := RE.cell (i := 2) rfl
      have g3 := RE.cell (i := 3) rfl
      refine bodyPost_ret (v := didv (0, false, false, false)) (by simp [results, Try.results43, go_sem, didv, g0, g1, g2, g3]) rfl ?_
      (try rw [E.out])
      refine ⟨rfl, ⟨A6.keepD UE hDn, p6.keep UE (fun i hi e => hDn i (.inl hi) e), ?_, hsep⟩, up6.then UE (fun i hi e => by have := HD.out; omega)⟩
      exact Nat.le_trans (Cache.after_len _ _ _ _ _ _) (by have := HFEW.out; omega)
  · obtain ⟨ad, had⟩ : ∃ ad, slotA tl kn nd = ad := ⟨_, rfl⟩
    have E := Lib.hid (show lockS k tl kn st t a = ((1, false, false, false), { st with ws := wrt k st.ws a ad 0, ts := Cache.after k st.ws.length st.ts a ad true }) by unfold lockS; dsimp only; rw [hpl, if_neg (fun z => by cases z), if_neg (fun z => by cases z), had])
    have KA := fun m => Port.storeP _ p SP k st.ws hs st.ts (hp1.drewN m) (by omega) a ad 0 (by omega) (by omega)
    have HKA := Lib.hid KA
    have KF := slotC (l := l) (W.drewN 1) c2 c3 tl0 HSZ.out nd o1
    rw [had] at KF
    have HKF := Lib.hid KF
    have hA2 := fun m => ha1.keep ((Upd.refl (fun _ => False) W).drewN m) id id id id
    have HA2 := Lib.hid hA2
    clear KA KF hpw hf had hA2 hpl
    go_enter Try.func43, Try.ntmps43
    go_upto_region 1 with (fail)
    rw [HW.out, HD.out]
    go_wp2_with fail
    go_region_held3 (fun w' => w'.cell? ⟨l, 1, none⟩ = some (.pointer (some ⟨p, 0, none⟩)) ∧ w'.cell? ⟨pb, t * 2, none⟩ = some (.int .u32 nd)) ((first | exact ⟨c1, n0⟩ | exact ⟨q1, q3⟩))
      ((first | (go_at_call 45; refine HKF.out.mono ?_; rintro e w4 ⟨rfl, nn, rfl⟩) | (go_at_call 44; refine (HKA.out _).mono ?_; rintro e w5 ⟨rfl, hp5, u5⟩; have A5 := (HA2.out _).keep u5 hsep.1 hsep.2.1 hsep.2.2.1 hsep.2.2.2; have q1 := A5.top.cell (i := 1) rfl; have q3 := cell_upd (((Upd.refl SP W).drewN _).trans u5) n0 hsep.2.2.2)))
    have RD := (R1.drewN (1 + nn)).upd u5 (fun e => hDn D (.inl e) rfl)
    have up5 : Upd (ft l s lb pb SP) w w5 := (hup0.drewN (1 + nn)).trans (u5.mono fun i _ h => .inl h)
    have hDb : D ≠ pb := fun e => hDn pb (by simp [ft]) e.symm
    have y0 := RD.cell (i := 0) rfl
    have y1 := RD.cell (i := 1) rfl
    have y2 := RD.cell (i := 2) rfl
    have y3 := RD.cell (i := 3) rfl
    have f0 := RD.frozen 0
    have f1 := RD.frozen 1
    have f2 := RD.frozen 2
    have f3 := RD.frozen 3
    clear q1 q3 n0 c1 c2 c3 HKA HKF ha1 ha2 hp1 hup0 R1 u5 HA2 n1
    go_wp2_with fail
    obtain ⟨w8, hw8, RE, UE⟩ := did_end RD 1 false
    rw [hw8]
    have g0 := RE.cell (i := 0) rfl
    have g1 := RE.cell (i := 1) rfl
    have g2 := RE.cell (i := 2) rfl
    have g3 := RE.cell (i := 3) rfl
    refine bodyPost_ret (v := didv (1, false, false, false)) (by simp [results, Try.results43, go_sem, didv, g0, g1, g2, g3]) rfl ?_
    (try rw [E.out])
    refine ⟨rfl, ⟨A5.keepD UE hDn, hp5.keep UE (fun i hi e => hDn i (.inl hi) e), ?_, hsep⟩, up5.then UE (fun i hi e => by have := HD.out; omega)⟩
    exact Nat.le_trans (Cache.after_len _ _ _ _ _ _) (by have := HFEW.out; omega)
end Go.Proofs.Ytamchnaifmoklaa.Slots
