/- Package mcs: the lock of Mellor-Crummey and Scott, as an object over its port: Use, next (lock, Step: to do). -/
import Derived.Test.YtemcpnickdcekaaStepU
namespace Go.Proofs.Ytemcpnickdcekaa.Mcs
open Go Go.RowKit Go.Proofs.Ytemcpnickdcekaa.Heap Go.Proofs.Ytemcpnickdcekaa.Open Go.Proofs.Ytemcpnickdcekaa.Seat Go.Proofs.Ytemcpnickdcekaa.Mach Go.Proofs.Ytemcpnickdcekaa.Has Go.Proofs.Ytemcpnickdcekaa.StepU

/-- Places of a step and a number, as cells. -/
abbrev P2 := Int × Int
def cells2 : List P2 → List Value
  | [] => []
  | (a, b) :: r => .int .i64 a :: .int .u32 b :: cells2 r
theorem cells2_len (l : List P2) : (cells2 l).length = l.length * 2 := by
  induction l with
  | nil => rfl
  | cons x r ih => obtain ⟨a, b⟩ := x; simp [cells2, ih]; omega
theorem cells2_0 : ∀ (l : List P2) (t : Nat), t < l.length → (cells2 l)[t * 2]? = some (.int .i64 (l.getD t (0, 0)).1)
  | (a, b) :: r, 0, _ => by simp [cells2]
  | (a, b) :: r, t + 1, h => by
    have := cells2_0 r t (by simpa using h)
    rw [show (t + 1) * 2 = t * 2 + 2 by omega]; simpa [cells2] using this
theorem cells2_1 : ∀ (l : List P2) (t : Nat), t < l.length → (cells2 l)[t * 2 + 1]? = some (.int .u32 (l.getD t (0, 0)).2)
  | (a, b) :: r, 0, _ => by simp [cells2]
  | (a, b) :: r, t + 1, h => by
    have := cells2_1 r t (by simpa using h)
    rw [show (t + 1) * 2 + 1 = t * 2 + 1 + 2 by omega]; simpa [cells2] using this
theorem cells2_set0 : ∀ (l : List P2) (t : Nat) (y : Int), (cells2 l).set (t * 2) (.int .i64 y) = cells2 (l.set t (y, (l.getD t (0, 0)).2))
  | [], t, y => by simp [cells2]
  | (a, b) :: r, 0, y => by simp [cells2]
  | (a, b) :: r, t + 1, y => by
    have := cells2_set0 r t y
    rw [show (t + 1) * 2 = t * 2 + 2 by omega]; simpa [cells2] using this
theorem cells2_set1 : ∀ (l : List P2) (t : Nat) (y : Int), (cells2 l).set (t * 2 + 1) (.int .u32 y) = cells2 (l.set t ((l.getD t (0, 0)).1, y))
  | [], t, y => by simp [cells2]
  | (a, b) :: r, 0, y => by simp [cells2]
  | (a, b) :: r, t + 1, y => by
    have := cells2_set1 r t y
    rw [show (t + 1) * 2 + 1 = t * 2 + 1 + 2 by omega]; simpa [cells2] using this
theorem cells2_set2 : ∀ (l : List P2) (t : Nat) (x y : Int), ((cells2 l).set (t * 2) (.int .i64 x)).set (t * 2 + 1) (.int .u32 y) = cells2 (l.set t (x, y))
  | [], t, x, y => by simp [cells2]
  | (a, b) :: r, 0, x, y => by simp [cells2]
  | (a, b) :: r, t + 1, x, y => by
    have := cells2_set2 r t x y
    rw [show (t + 1) * 2 + 1 = t * 2 + 1 + 2 by omega, show (t + 1) * 2 = t * 2 + 2 by omega]; simpa [cells2] using this
/-- Places that may be: a step, and a number of 32 bits. -/
def Ok (pl : List P2) : Prop := ∀ t : Nat, t < pl.length → (0 ≤ (pl.getD t (0, 0)).1 ∧ (pl.getD t (0, 0)).1 ≤ 4) ∧ (0 ≤ (pl.getD t (0, 0)).2 ∧ (pl.getD t (0, 0)).2 < 4294967296)
theorem Ok.set {pl : List P2} (h : Ok pl) (t : Nat) (a c : Int) (ha : 0 ≤ a ∧ a ≤ 4) (hc : 0 ≤ c ∧ c < 4294967296) : Ok (pl.set t (a, c)) := by
  intro u hu
  rw [List.length_set] at hu
  by_cases e : u = t
  · subst e
    have : (pl.set u (a, c)).getD u (0, 0) = (a, c) := by simp [List.getD, List.getElem?_set_self hu]
    rw [this]; exact ⟨ha, hc⟩
  · have : (pl.set t (a, c)).getD u (0, 0) = pl.getD u (0, 0) := by rw [List.getD, List.getElem?_set_ne (fun z => e z.symm)]; rfl
    rw [this]; exact h u hu
/-- A lock: its block, its seats' two, that of the places. -/
structure At (w : World) (l s lb pb : Nat) (pv : Value) (tl : Int) (sl : List (Int × Int)) (pl : List P2) : Prop where
  top : Row w l [.pointer (some ⟨s, 0, none⟩), pv, .int .i64 tl, .slice (some ⟨pb, 0, none⟩) sl.length sl.length]
  seat : Seat.At w s lb sl false true
  plc : Row w pb (cells2 pl)
  l1 : pl.length = sl.length
  e1 : l ≠ s ∧ l ≠ lb ∧ l ≠ pb
  e2 : pb ≠ s ∧ pb ≠ lb
  ok : Ok pl
  tl0 : 0 ≤ tl ∧ tl ≤ 100000
variable {l s lb pb p : Nat} {SP : Nat → Prop} {k : Nat} {hs : List Int} {tl : Int}
theorem At.keep {w w' : World} {pv : Value} {sl : List (Int × Int)} {pl : List P2} {T : Nat → Prop} (h : At w l s lb pb pv tl sl pl) (hu : Upd T w w') (h1 : ¬ T l) (h2 : ¬ T s) (h3 : ¬ T lb) (h4 : ¬ T pb) :
    At w' l s lb pb pv tl sl pl := ⟨h.top.upd hu h1, h.seat.upd hu h2 h3, h.plc.upd hu h4, h.l1, h.e1, h.e2, h.ok, h.tl0⟩
theorem At.seats {w w' : World} {pv : Value} {sl sl' : List (Int × Int)} {pl : List P2} (h : At w l s lb pb pv tl sl pl) (hu : Upd (fun k => k = lb) w w') (hs : Seat.At w' s lb sl' false true) (hl : sl'.length = sl.length) :
    At w' l s lb pb pv tl sl' pl :=
  ⟨by rw [hl]; exact h.top.upd hu h.e1.2.1, hs, h.plc.upd hu h.e2.2, by rw [hl]; exact h.l1, h.e1, h.e2, h.ok, h.tl0⟩
/-- The places turn. -/
theorem At.places {w w' : World} {pv : Value} {sl : List (Int × Int)} {pl pl' : List P2} (h : At w l s lb pb pv tl sl pl) (hu : Upd (fun i => i = pb) w w') (hr : Row w' pb (cells2 pl')) (hl : pl'.length = pl.length) (ho : Ok pl') :
    At w' l s lb pb pv tl sl pl' :=
  ⟨h.top.upd hu h.e1.2.2, h.seat.upd hu (fun e => h.e2.1 e.symm) (fun e => h.e2.2 e.symm), hr, by rw [hl]; exact h.l1, h.e1, h.e2, ho, h.tl0⟩
theorem At.setStep {w : World} {pv : Value} {sl : List (Int × Int)} {pl : List P2} (h : At w l s lb pb pv tl sl pl) (t : Nat) (ht : t < sl.length) (y : Int) (hy : 0 ≤ y ∧ y ≤ 4) :
    At (w.setCell ⟨pb, t * 2, none⟩ (.int .i64 y)) l s lb pb pv tl sl (pl.set t (y, (pl.getD t (0, 0)).2)) := by
  obtain ⟨_, o3⟩ := h.ok t (by rw [h.l1]; exact ht)
  exact h.places (Upd.one w pb _ _) (by rw [← cells2_set0]; exact h.plc.set _ _) (by simp) (h.ok.set t _ _ hy o3)
theorem At.setOther {w : World} {pv : Value} {sl : List (Int × Int)} {pl : List P2} (h : At w l s lb pb pv tl sl pl) (t : Nat) (ht : t < sl.length) (y : Int) (hy : 0 ≤ y ∧ y < 4294967296) :
    At (w.setCell ⟨pb, t * 2 + 1, none⟩ (.int .u32 y)) l s lb pb pv tl sl (pl.set t ((pl.getD t (0, 0)).1, y)) := by
  obtain ⟨o1, _⟩ := h.ok t (by rw [h.l1]; exact ht)
  exact h.places (Upd.one w pb _ _) (by rw [← cells2_set1]; exact h.plc.set _ _) (by simp) (h.ok.set t _ _ o1 hy)
theorem At.c0 {w : World} {pv : Value} {sl : List (Int × Int)} {pl : List P2} (h : At w l s lb pb pv tl sl pl) {t : Nat} (ht : t < sl.length) : w.cell? ⟨pb, t * 2, none⟩ = some (.int .i64 (pl.getD t (0, 0)).1) := h.plc.cell (cells2_0 pl t (by rw [h.l1]; exact ht))
theorem At.c1 {w : World} {pv : Value} {sl : List (Int × Int)} {pl : List P2} (h : At w l s lb pb pv tl sl pl) {t : Nat} (ht : t < sl.length) : w.cell? ⟨pb, t * 2 + 1, none⟩ = some (.int .u32 (pl.getD t (0, 0)).2) := h.plc.cell (cells2_1 pl t (by rw [h.l1]; exact ht))
theorem At.use {w : World} {pv : Value} {sl : List (Int × Int)} {pl : List P2} (h : At w l s lb pb pv tl sl pl) (v : Value) :
    At (w.setCell ⟨l, 1, none⟩ v) l s lb pb v tl sl pl := by
  have hu := Upd.one w l 1 v
  exact ⟨by simpa using h.top.set 1 v, h.seat.upd hu (fun e => h.e1.1 e.symm) (fun e => h.e1.2.1 e.symm), h.plc.upd hu (fun e => h.e1.2.2 e.symm), h.l1, h.e1, h.e2, h.ok, h.tl0⟩
theorem useC (w : World) (pv : Value) (sl : List (Int × Int)) (pl : List P2) (h : At w l s lb pb pv tl sl pl) :
    Calls Try.prog 23 #[.pointer (some ⟨l, 0, none⟩), .pointer (some ⟨p, 0, none⟩)] w fun e w' => e = .returned (.tuple #[]) ∧ At w' l s lb pb (.pointer (some ⟨p, 0, none⟩)) tl sl pl ∧ Upd (fun k => k = l) w w' := by
  have h1 := h.top.cell (i := 1) rfl
  have f1 := h.top.frozen 1
  go_enter Try.func23, Try.ntmps23
  go_wp2
  go_end0
  exact ⟨rfl, h.use _, Upd.one _ _ _ _⟩
theorem nextC (w : World) (hc : w.cell? ⟨l, 2, none⟩ = some (.int .i64 tl)) (h0 : 0 ≤ tl ∧ tl ≤ 100000) (x : Int) (hx : 0 ≤ x ∧ x < 4294967296) :
    Calls Try.prog 42 #[.pointer (some ⟨l, 0, none⟩), .int .u32 x] w fun e w' => e = .returned (.int .i64 (tl + 2 * x - 1)) ∧ w = w' := by
  go_enter Try.func42, Try.ntmps42
  go_wp2
  go_ret
  exact ⟨by congr 2, rfl⟩

/-- What a lock over its port does, by value. -/
structure St where
  seats : List (Int × Int)
  pls : List P2
  ws : List Int
  ts : List T
/-- Where a number's next stands; its locked stands behind it. -/
def nextA (tl x : Int) : Int := tl + 2 * x - 1
/-- The step of a call for the lock (t is the context, t + 1 its number). -/
def lockS (k : Nat) (tl : Int) (st : St) (t : Nat) (a : Int) : Did × St :=
  let x := st.pls.getD t (0, 0)
  if x.1 = 0 then ((0, false, false, false), { st with pls := st.pls.set t (1, x.2), ws := wrt k st.ws a (nextA tl (t + 1)) 0, ts := Cache.after k st.ws.length st.ts a (nextA tl (t + 1)) true })
  else if x.1 = 1 then ((if rd k st.ws a tl = 0 then 1 else 0, true, false, false), { st with pls := st.pls.set t (2, rd k st.ws a tl), ws := wrt k st.ws a tl (t + 1), ts := Cache.after k st.ws.length st.ts a tl true })
  else if x.1 = 2 then ((0, false, false, false), { st with pls := st.pls.set t (3, x.2), ws := wrt k st.ws a (nextA tl (t + 1) + 1) 1, ts := Cache.after k st.ws.length st.ts a (nextA tl (t + 1) + 1) true })
  else if x.1 = 3 then ((0, false, false, false), { st with pls := st.pls.set t (4, x.2), ws := wrt k st.ws a (nextA tl x.2) (t + 1), ts := Cache.after k st.ws.length st.ts a (nextA tl x.2) true })
  else ((if rd k st.ws a (nextA tl (t + 1) + 1) = 0 then 1 else 0, false, false, false), { st with ts := Cache.after k st.ws.length st.ts a (nextA tl (t + 1) + 1) false })
/-- The step of a call to unlock: what it comes to. -/
def unlS (k : Nat) (tl : Int) (st : St) (t : Nat) (a : Int) : Int × St :=
  let x := st.pls.getD t (0, 0)
  if x.1 = 0 ∨ x.1 = 2 then
    (0, { st with pls := st.pls.set t (if rd k st.ws a (nextA tl (t + 1)) = 0 then (if x.1 = 0 then 1 else 2) else 3, rd k st.ws a (nextA tl (t + 1))), ts := Cache.after k st.ws.length st.ts a (nextA tl (t + 1)) false })
  else if x.1 = 1 then
    (if (Mem.inB a k && Mem.casB st.ws tl (t + 1)) = true then (3, { st with ws := Mem.put st.ws tl 0, ts := Cache.after k st.ws.length st.ts a tl true })
     else (0, { st with pls := st.pls.set t (2, x.2), ts := Cache.after k st.ws.length st.ts a tl true }))
  else (3, { st with ws := wrt k st.ws a (nextA tl x.2 + 1) 0, ts := Cache.after k st.ws.length st.ts a (nextA tl x.2 + 1) true })
/-- The step, but for its end. -/
def midS (k : Nat) (tl : Int) (st : St) (t a : Int) : Did × St :=
  if state st.seats t = 1 then lockS k tl st t.toNat a
  else if state st.seats t = 3 then (((unlS k tl st t.toNat a).1, false, false, false), (unlS k tl st t.toNat a).2)
  else if state st.seats t = 4 then
    ((if rd k st.ws a (nextA tl (t + 1)) = 0 then 4 else 5, false, false, false), { st with ts := Cache.after k st.ws.length st.ts a (nextA tl (t + 1)) false })
  else ((0, false, false, false), st)
/-- The step: an end clears the place. -/
def step (k : Nat) (tl : Int) (st : St) (t a _now : Int) : Did × St :=
  let r := midS k tl st t a
  (r.1, { r.2 with seats := (fin r.2.seats t r.1.1).2, pls := if (fin r.2.seats t r.1.1).1 = true then r.2.pls.set t.toNat (0, 0) else r.2.pls })
/-- A lock over its port, as objects. -/
structure O (l s lb pb p : Nat) (SP : Nat → Prop) (k : Nat) (hs : List Int) (tl : Int) (w : World) (b : Nat) (st : St) : Prop where
  at_ : At w l s lb pb (.pointer (some ⟨p, 0, none⟩)) tl st.seats st.pls
  port : Port.O w p SP k st.ws hs st.ts
  few : st.ts.length ≤ b
  sep : ¬ SP l ∧ ¬ SP s ∧ ¬ SP lb ∧ ¬ SP pb
def ft (l s lb pb : Nat) (SP : Nat → Prop) : Nat → Prop := fun i => SP i ∨ i = l ∨ i = s ∨ i = lb ∨ i = pb
theorem At.keepD {w w' : World} {pv : Value} {sl : List (Int × Int)} {pl : List P2} {D : Nat} (h : At w l s lb pb pv tl sl pl) (hu : Upd (fun i => i = D) w w') (hD : ∀ i, ft l s lb pb SP i → i ≠ D) : At w' l s lb pb pv tl sl pl :=
  h.keep hu (fun e => hD l (by simp [ft]) e) (fun e => hD s (by simp [ft]) e) (fun e => hD lb (by simp [ft]) e) (fun e => hD pb (by simp [ft]) e)
theorem did_end {w : World} {D : Nat} {a0 a1 a2 a3 : Value} (RD : Row w D [a0, a1, a2, a3]) (ev : Int) (b : Bool) : ∃ w8, (((w.setCell ⟨D, 0, none⟩ (.int .i64 ev)).setCell ⟨D, 1, none⟩ (.bool b)).setCell ⟨D, 2, none⟩ (.bool false)).setCell ⟨D, 3, none⟩ (.bool false) = w8 ∧ Row w8 D [.int .i64 ev, .bool b, .bool false, .bool false] ∧ Upd (fun i => i = D) w w8 :=
  ⟨_, rfl, did4 RD _ _ _ _, upd4 w D _ _ _ _⟩
end Go.Proofs.Ytemcpnickdcekaa.Mcs
