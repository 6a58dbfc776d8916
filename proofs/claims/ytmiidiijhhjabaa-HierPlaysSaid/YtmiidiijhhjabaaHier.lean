/- Package hier: the queue lock of queues, as an object over its port; its steps by value. -/
import Derived.Test.YtmiidiijhhjabaaCells
namespace Go.Proofs.Ytmiidiijhhjabaa.Hier
open Go Go.RowKit Go.Proofs.Ytmiidiijhhjabaa.Heap Go.Proofs.Ytmiidiijhhjabaa.Open Go.Proofs.Ytmiidiijhhjabaa.Seat Go.Proofs.Ytmiidiijhhjabaa.Mach Go.Proofs.Ytmiidiijhhjabaa.Has Go.Proofs.Ytmiidiijhhjabaa.StepU Go.Proofs.Ytmiidiijhhjabaa.Cells

/-- A place: cluster, node, the one ahead, the batch's last one, its word, the step. -/
structure P where
  c : Int
  n : Int
  a : Int
  l : Int
  w : Int
  s : Int
def p0 : P := ⟨0, 0, 0, 0, 0, 0⟩
def pcell (x : P) : List Value := [.int .i64 x.c, .int .i64 x.n, .int .i64 x.a, .int .i64 x.l, .int .u32 x.w, .int .i64 x.s]
theorem pcell_len (x : P) : (pcell x).length = 6 := rfl
abbrev pcells (l : List P) : List Value := cellsOf pcell l
/-- Places that may be. -/
def Ok1 (x : P) : Prop := (0 ≤ x.c ∧ x.c < 8) ∧ (0 ≤ x.n ∧ x.n < 4294967296) ∧ (0 ≤ x.a ∧ x.a < 4294967296) ∧ (0 ≤ x.l ∧ x.l < 4294967296) ∧ (0 ≤ x.w ∧ x.w < 4294967296) ∧ (0 ≤ x.s ∧ x.s ≤ 7)
def Ok (pl : List P) : Prop := ∀ t : Nat, t < pl.length → Ok1 (pl.getD t p0)
theorem pl_set (l : List P) (k : Nat) (hk : k < l.length) (x : P) (u : Nat) : (l.set k x).getD u p0 = if u = k then x else l.getD u p0 := by
  by_cases e : u = k
  · subst e; rw [if_pos rfl]; simp [List.getD, List.getElem?_set_self hk]
  · rw [if_neg e, List.getD, List.getElem?_set_ne (fun z => e z.symm)]; rfl
theorem Ok.set {pl : List P} (h : Ok pl) (t : Nat) (x : P) (hx : Ok1 x) : Ok (pl.set t x) := by
  intro u hu
  rw [List.length_set] at hu
  by_cases ht : t < pl.length
  · rw [pl_set _ _ ht]; split
    · exact hx
    · exact h u hu
  · rw [List.set_eq_of_length_le (by omega)]; exact h u hu
/-- A lock: its block, its seats' two, that of the places. -/
structure At (w : World) (l s lb pb cap : Nat) (pv : Value) (tl : Int) (sl : List (Int × Int)) (pl : List P) : Prop where
  top : Row w l [.pointer (some ⟨s, 0, none⟩), pv, .int .i64 tl, .slice (some ⟨pb, 0, none⟩) sl.length cap]
  seat : Seat.At w s lb sl false false
  plc : RowP w pb (pcells pl)
  l1 : pl.length = sl.length
  e1 : l ≠ s ∧ l ≠ lb ∧ l ≠ pb
  e2 : pb ≠ s ∧ pb ≠ lb
  ok : Ok pl
  tl0 : 0 ≤ tl ∧ tl ≤ 100000
variable {l s lb pb cap p : Nat} {SP : Nat → Prop} {k : Nat} {hs : List Int} {tl : Int}
theorem At.keep {w w' : World} {pv : Value} {sl : List (Int × Int)} {pl : List P} {T : Nat → Prop} (h : At w l s lb pb cap pv tl sl pl) (hu : Upd T w w') (h1 : ¬ T l) (h2 : ¬ T s) (h3 : ¬ T lb) (h4 : ¬ T pb) :
    At w' l s lb pb cap pv tl sl pl := ⟨h.top.upd hu h1, h.seat.upd hu h2 h3, h.plc.upd hu h4, h.l1, h.e1, h.e2, h.ok, h.tl0⟩
theorem At.cell {w : World} {pv : Value} {sl : List (Int × Int)} {pl : List P} (h : At w l s lb pb cap pv tl sl pl) {t : Nat} (ht : t < sl.length) (i : Nat) (hi : i < 6) (v : Value) (hv : (pcell (pl.getD t p0))[i]? = some v) : w.cell? ⟨pb, t * 6 + i, none⟩ = some v :=
  h.plc.cell (by rw [co_get pcell 6 pcell_len p0 pl t i (by rw [h.l1]; exact ht) hi]; exact hv)
theorem At.setP {w : World} {pv : Value} {sl : List (Int × Int)} {pl : List P} (h : At w l s lb pb cap pv tl sl pl) {t : Nat} (ht : t < sl.length) (i : Nat) (hi : i < 6) (v : Value) (y : P) (hy : pcell y = (pcell (pl.getD t p0)).set i v) (ho : Ok1 y) :
    At (w.setCell ⟨pb, t * 6 + i, none⟩ v) l s lb pb cap pv tl sl (pl.set t y) := by
  have hu := Upd.one w pb (t * 6 + i) v
  have htp : t < pl.length := by rw [h.l1]; exact ht
  exact ⟨h.top.upd hu h.e1.2.2, h.seat.upd hu (fun e => h.e2.1 e.symm) (fun e => h.e2.2 e.symm), by
    rw [show pcells (pl.set t y) = (pcells pl).set (t * 6 + i) v from (co_set pcell 6 pcell_len p0 v y pl t i htp hi hy).symm]
    exact h.plc.set _ (by rw [co_len pcell 6 pcell_len]; omega) _, by simpa using h.l1, h.e1, h.e2, h.ok.set t y ho, h.tl0⟩
structure St where
  seats : List (Int × Int)
  pls : List P
  ws : List Int
  ts : List T
/-- A node's word. -/
def nodeA (tl x : Int) : Int := tl + 8 + x
def ownA (tl x : Int) : Int := tl + 1 + x
/-- The step of a call for the lock. -/
def lockS (k : Nat) (tl : Int) (st : St) (t : Nat) (a : Int) : Did × St :=
  let x := st.pls.getD t p0
  if x.s = 0 then ((0, false, false, false), { st with pls := st.pls.set t { x with s := 1 }, ws := wrt k st.ws a (nodeA tl x.n) (x.c * 4 + 2), ts := Cache.after k st.ws.length st.ts a (nodeA tl x.n) true })
  else if x.s = 1 then ((0, true, false, false), { st with pls := st.pls.set t { x with a := rd k st.ws a (ownA tl x.c), s := if rd k st.ws a (ownA tl x.c) = 0 then 3 else 2 }, ws := wrt k st.ws a (ownA tl x.c) x.n, ts := Cache.after k st.ws.length st.ts a (ownA tl x.c) true })
  else if x.s = 2 then
    let v := rd k st.ws a (nodeA tl x.a)
    let ts' := Cache.after k st.ws.length st.ts a (nodeA tl x.a) false
    if v / 4 ≠ x.c ∨ v % 2 = 1 then ((0, false, false, false), { st with pls := st.pls.set t { x with s := 3 }, ts := ts' })
    else if v / 2 % 2 = 0 then ((1, false, false, false), { st with pls := st.pls.set t { x with s := 0 }, ts := ts' })
    else ((0, false, false, false), { st with ts := ts' })
  else if x.s = 3 then ((0, false, false, false), { st with pls := st.pls.set t { x with l := rd k st.ws a (ownA tl x.c), s := 4 }, ts := Cache.after k st.ws.length st.ts a (ownA tl x.c) false })
  else if x.s = 4 then ((0, false, true, false), { st with pls := st.pls.set t { x with a := rd k st.ws a tl, s := 5 }, ws := wrt k st.ws a tl x.l, ts := Cache.after k st.ws.length st.ts a tl true })
  else if x.s = 5 then ((0, false, false, false), { st with pls := st.pls.set t { x with w := rd k st.ws a (nodeA tl x.l), s := 6 }, ts := Cache.after k st.ws.length st.ts a (nodeA tl x.l) false })
  else if x.s = 6 then
    if (Mem.inB a k && Mem.casB st.ws (nodeA tl x.l) x.w) = true then ((0, false, false, false), { st with pls := st.pls.set t { x with s := 7 }, ws := Mem.put st.ws (nodeA tl x.l) (x.w + 1 - x.w % 2), ts := Cache.after k st.ws.length st.ts a (nodeA tl x.l) true })
    else ((0, false, false, false), { st with pls := st.pls.set t { x with s := 5 }, ts := Cache.after k st.ws.length st.ts a (nodeA tl x.l) true })
  else if rd k st.ws a (nodeA tl x.a) / 2 % 2 = 0 then ((1, false, false, true), { st with pls := st.pls.set t { x with s := 0 }, ts := Cache.after k st.ws.length st.ts a (nodeA tl x.a) false })
  else ((0, false, false, false), { st with ts := Cache.after k st.ws.length st.ts a (nodeA tl x.a) false })
/-- The step of a call to unlock: what it comes to. -/
def unlS (k : Nat) (tl : Int) (st : St) (t : Nat) (a : Int) : Int × St :=
  let x := st.pls.getD t p0
  if x.s = 0 then (0, { st with pls := st.pls.set t { x with w := rd k st.ws a (nodeA tl x.n), s := 1 }, ts := Cache.after k st.ws.length st.ts a (nodeA tl x.n) false })
  else if (Mem.inB a k && Mem.casB st.ws (nodeA tl x.n) x.w) = true then (3, { st with pls := st.pls.set t { x with n := x.a, s := 0 }, ws := Mem.put st.ws (nodeA tl x.n) (x.w - 2 * (x.w / 2 % 2)), ts := Cache.after k st.ws.length st.ts a (nodeA tl x.n) true })
  else (0, { st with pls := st.pls.set t { x with s := 0 }, ts := Cache.after k st.ws.length st.ts a (nodeA tl x.n) true })
/-- The step, but for its end. -/
def midS (k : Nat) (tl : Int) (st : St) (t a : Int) : Did × St :=
  if state st.seats t = 1 then lockS k tl st t.toNat a
  else if state st.seats t = 3 then (((unlS k tl st t.toNat a).1, false, false, false), (unlS k tl st t.toNat a).2)
  else ((0, false, false, false), st)
def step (k : Nat) (tl : Int) (st : St) (t a _now : Int) : Did × St :=
  let r := midS k tl st t a
  (r.1, { r.2 with seats := (fin r.2.seats t r.1.1).2 })
/-- A lock over its port, as objects. -/
structure O (l s lb pb cap p : Nat) (SP : Nat → Prop) (k : Nat) (hs : List Int) (tl : Int) (w : World) (b : Nat) (st : St) : Prop where
  at_ : At w l s lb pb cap (.pointer (some ⟨p, 0, none⟩)) tl st.seats st.pls
  port : Port.O w p SP k st.ws hs st.ts
  few : st.ts.length ≤ b
  sep : ¬ SP l ∧ ¬ SP s ∧ ¬ SP lb ∧ ¬ SP pb
def ft (l s lb pb : Nat) (SP : Nat → Prop) : Nat → Prop := fun i => SP i ∨ i = l ∨ i = s ∨ i = lb ∨ i = pb
theorem At.keepD {w w' : World} {pv : Value} {sl : List (Int × Int)} {pl : List P} {D : Nat} (h : At w l s lb pb cap pv tl sl pl) (hu : Upd (fun i => i = D) w w') (hD : ∀ i, ft l s lb pb SP i → i ≠ D) : At w' l s lb pb cap pv tl sl pl :=
  h.keep hu (fun e => hD l (by simp [ft]) e) (fun e => hD s (by simp [ft]) e) (fun e => hD lb (by simp [ft]) e) (fun e => hD pb (by simp [ft]) e)
end Go.Proofs.Ytmiidiijhhjabaa.Hier
