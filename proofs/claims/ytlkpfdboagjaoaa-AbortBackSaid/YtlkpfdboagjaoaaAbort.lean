/- Package abort: the lock of whom time may run out, as an object over its port; its steps by value. -/
import Derived.Test.YtlkpfdboagjaoaaCells
import Derived.Test.YtlkpfdboagjaoaaPool5
namespace Go.Proofs.Ytlkpfdboagjaoaa.Abort
open Go Go.RowKit Go.Proofs.Ytlkpfdboagjaoaa.Heap Go.Proofs.Ytlkpfdboagjaoaa.Open Go.Proofs.Ytlkpfdboagjaoaa.Seat Go.Proofs.Ytlkpfdboagjaoaa.Mach Go.Proofs.Ytlkpfdboagjaoaa.Has Go.Proofs.Ytlkpfdboagjaoaa.StepU Go.Proofs.Ytlkpfdboagjaoaa.Cells

/-- A place: the step, how many nodes were looked at, the node, the other one. -/
structure P where
  s : Int
  r : Int
  n : Int
  o : Int
def p0 : P := ⟨0, 0, 0, 0⟩
def pcell (x : P) : List Value := [.int .i64 x.s, .int .i64 x.r, .int .i64 x.n, .int .i64 x.o]
theorem pcell_len (x : P) : (pcell x).length = 4 := rfl
abbrev pcells (l : List P) : List Value := cellsOf pcell l
/-- Places that may be. -/
def Ok1 (x : P) : Prop := (0 ≤ x.s ∧ x.s ≤ 7) ∧ (0 ≤ x.r ∧ x.r ≤ 8) ∧ (0 ≤ x.n ∧ x.n < 4294967296) ∧ (0 ≤ x.o ∧ x.o < 4294967296)
def Ok (pl : List P) : Prop := ∀ t : Nat, t < pl.length → Ok1 (pl.getD t p0)
theorem pl_set (l : List P) (k : Nat) (hk : k < l.length) (x : P) (u : Nat) : (l.set k x).getD u p0 = if u = k then x else l.getD u p0 := by
  by_cases e : u = k
  · subst e; rw [if_pos rfl]; simp [List.getD, List.getElem?_set_self hk]
  · rw [if_neg e, List.getD, List.getElem?_set_ne (fun z => e z.symm)]; rfl
theorem pls_same (l : List P) (t : Nat) (h : t < l.length) : l.set t (l.getD t p0) = l := by
  rw [List.getD, List.getElem?_eq_getElem h]; simp
theorem Ok.set {pl : List P} (h : Ok pl) (t : Nat) (x : P) (hx : Ok1 x) : Ok (pl.set t x) := by
  intro u hu
  rw [List.length_set] at hu
  by_cases ht : t < pl.length
  · rw [pl_set _ _ ht]; split
    · exact hx
    · exact h u hu
  · rw [List.set_eq_of_length_le (by omega)]; exact h u hu
/-- A context's nodes. -/
def rowL (c t : Nat) : List Int := (List.range c).map fun j => ((t * c + j + 1 : Nat) : Int)
theorem rowL_len (c t : Nat) : (rowL c t).length = c := by simp [rowL]
theorem rowL_get (c t : Nat) (r : Nat) (h : r < c) : (rowL c t).getD r 0 = (t : Int) * c + r + 1 := by
  simp [rowL, List.getD, h]
theorem row_of (n c t : Nat) (ht : t < n) : Pool.rowOf (Pool.newRows n c (n * c)) (t : Int) = rowL c t := by
  unfold Pool.rowOf
  rw [if_pos ⟨by omega, by rw [Pool.newRows_len]; omega⟩, Int.toNat_natCast, Pool.newRows_row _ _ _ _ ht]
  have hm : (t + 1) * c ≤ n * c := Nat.mul_le_mul_right c ht
  rw [show min c (n * c - t * c) = c by rw [Nat.add_mul, Nat.one_mul] at hm; omega]
  rfl
/-- A lock: its block, its seats' two, that of the places, its pool. -/
structure At (w : World) (l s lb pb cap q : Nat) (SQ : Nat → Prop) (c : Nat) (pv : Value) (tl : Int) (sl : List (Int × Int)) (pl : List P) : Prop where
  top : Row w l [.pointer (some ⟨s, 0, none⟩), pv, .pointer (some ⟨q, 0, none⟩), .int .i64 tl, .slice (some ⟨pb, 0, none⟩) sl.length cap]
  seat : Seat.At w s lb sl true false
  plc : RowP w pb (pcells pl)
  pool : Pool.O w q SQ (Pool.newRows sl.length c (sl.length * c)) (List.replicate (1 + sl.length * c) false)
  l1 : pl.length = sl.length
  e1 : l ≠ s ∧ l ≠ lb ∧ l ≠ pb
  e2 : pb ≠ s ∧ pb ≠ lb
  e3 : ¬ SQ l ∧ ¬ SQ s ∧ ¬ SQ lb ∧ ¬ SQ pb
  ok : Ok pl
  tl0 : 0 ≤ tl ∧ tl ≤ 100000
  c8 : 1 ≤ c ∧ c ≤ 8
variable {l s lb pb cap q p c : Nat} {SP SQ : Nat → Prop} {k : Nat} {hs : List Int} {tl : Int}
def fa (l s lb pb : Nat) (SQ : Nat → Prop) : Nat → Prop := fun i => SQ i ∨ i = l ∨ i = s ∨ i = lb ∨ i = pb
def ft (l s lb pb : Nat) (SP SQ : Nat → Prop) : Nat → Prop := fun i => SP i ∨ fa l s lb pb SQ i
theorem At.keep {w w' : World} {pv : Value} {sl : List (Int × Int)} {pl : List P} {T : Nat → Prop} (h : At w l s lb pb cap q SQ c pv tl sl pl) (hu : Upd T w w') (hd : ∀ i, fa l s lb pb SQ i → ¬ T i) :
    At w' l s lb pb cap q SQ c pv tl sl pl :=
  ⟨h.top.upd hu (hd l (by simp [fa])), h.seat.upd hu (hd s (by simp [fa])) (hd lb (by simp [fa])), h.plc.upd hu (hd pb (by simp [fa])), h.pool.keep hu (fun i hi => hd i (.inl hi)), h.l1, h.e1, h.e2, h.e3, h.ok, h.tl0, h.c8⟩
theorem At.lt {w : World} {pv : Value} {sl : List (Int × Int)} {pl : List P} (h : At w l s lb pb cap q SQ c pv tl sl pl) : ∀ i, fa l s lb pb SQ i → i < w.heap.size := by
  intro i hi
  rcases hi with hi | rfl | rfl | rfl | rfl
  · exact h.pool.lt i hi
  · exact h.top.lt
  · exact h.seat.top.lt
  · exact h.seat.row.lt
  · exact h.plc.lt
theorem At.cell {w : World} {pv : Value} {sl : List (Int × Int)} {pl : List P} (h : At w l s lb pb cap q SQ c pv tl sl pl) {t : Nat} (ht : t < sl.length) (i : Nat) (hi : i < 4) (v : Value) (hv : (pcell (pl.getD t p0))[i]? = some v) : w.cell? ⟨pb, t * 4 + i, none⟩ = some v :=
  h.plc.cell (by rw [co_get pcell 4 pcell_len p0 pl t i (by rw [h.l1]; exact ht) hi]; exact hv)
theorem At.setP {w : World} {pv : Value} {sl : List (Int × Int)} {pl : List P} (h : At w l s lb pb cap q SQ c pv tl sl pl) {t : Nat} (ht : t < sl.length) (i : Nat) (hi : i < 4) (v : Value) (y : P) (hy : pcell y = (pcell (pl.getD t p0)).set i v) (ho : Ok1 y) :
    At (w.setCell ⟨pb, t * 4 + i, none⟩ v) l s lb pb cap q SQ c pv tl sl (pl.set t y) := by
  have hu := Upd.one w pb (t * 4 + i) v
  have htp : t < pl.length := by rw [h.l1]; exact ht
  exact ⟨h.top.upd hu h.e1.2.2, h.seat.upd hu (fun e => h.e2.1 e.symm) (fun e => h.e2.2 e.symm), by
    rw [show pcells (pl.set t y) = (pcells pl).set (t * 4 + i) v from (co_set pcell 4 pcell_len p0 v y pl t i htp hi hy).symm]
    exact h.plc.set _ (by rw [co_len pcell 4 pcell_len]; omega) _, h.pool.keep hu (fun i hi e => h.e3.2.2.2 (e ▸ hi)), by simpa using h.l1, h.e1, h.e2, h.e3, h.ok.set t y ho, h.tl0, h.c8⟩
theorem At.seats {w w' : World} {pv : Value} {sl sl' : List (Int × Int)} {pl : List P} (h : At w l s lb pb cap q SQ c pv tl sl pl) (hu : Upd (fun k => k = lb) w w') (hs : Seat.At w' s lb sl' true false) (hl : sl'.length = sl.length) : At w' l s lb pb cap q SQ c pv tl sl' pl :=
  ⟨by rw [hl]; exact h.top.upd hu h.e1.2.1, hs, h.plc.upd hu h.e2.2, by rw [hl]; exact h.pool.keep hu (fun i hi e => h.e3.2.2.1 (e ▸ hi)), by rw [hl]; exact h.l1, h.e1, h.e2, h.e3, h.ok, h.tl0, h.c8⟩
theorem At.use {w : World} {pv : Value} {sl : List (Int × Int)} {pl : List P} (h : At w l s lb pb cap q SQ c pv tl sl pl) (v : Value) : At (w.setCell ⟨l, 1, none⟩ v) l s lb pb cap q SQ c v tl sl pl := by
  have hu := Upd.one w l 1 v
  exact ⟨by simpa using h.top.set 1 v, h.seat.upd hu (fun e => h.e1.1 e.symm) (fun e => h.e1.2.1 e.symm), h.plc.upd hu (fun e => h.e1.2.2 e.symm), h.pool.keep hu (fun i hi e => h.e3.1 (e ▸ hi)), h.l1, h.e1, h.e2, h.e3, h.ok, h.tl0, h.c8⟩
structure St where
  seats : List (Int × Int)
  pls : List P
  ws : List Int
  ts : List T
/-- The word of a node's state. -/
def stA (tl x : Int) : Int := tl + 3 * x - 2
/-- The step of a call for the lock. -/
def lockS (k : Nat) (tl : Int) (c : Nat) (st : St) (t : Nat) (a : Int) (late : Bool) : Did × St :=
  let x := st.pls.getD t p0
  if x.s = 0 then
    let nd := (t : Int) * c + x.r + 1
    let ts' := Cache.after k st.ws.length st.ts a (stA tl nd + 2) false
    if rd k st.ws a (stA tl nd + 2) = 0 then ((0, false, false, false), { st with pls := st.pls.set t ⟨1, x.r + 1, nd, x.o⟩, ts := ts' })
    else if x.r + 1 = c then ((6, false, false, false), { st with pls := st.pls.set t ⟨0, x.r + 1, nd, x.o⟩, ts := ts' })
    else ((0, false, false, false), { st with pls := st.pls.set t ⟨0, x.r + 1, nd, x.o⟩, ts := ts' })
  else if x.s = 1 then ((0, false, false, false), { st with pls := st.pls.set t { x with s := 2 }, ws := wrt k st.ws a (stA tl x.n + 2) 1, ts := Cache.after k st.ws.length st.ts a (stA tl x.n + 2) true })
  else if x.s = 2 then ((0, false, false, false), { st with pls := st.pls.set t { x with s := 3 }, ws := wrt k st.ws a (stA tl x.n) 0, ts := Cache.after k st.ws.length st.ts a (stA tl x.n) true })
  else if x.s = 3 then ((0, false, false, false), { st with pls := st.pls.set t { x with s := 4 }, ws := wrt k st.ws a (stA tl x.n + 1) 0, ts := Cache.after k st.ws.length st.ts a (stA tl x.n + 1) true })
  else if x.s = 4 then
    let g := rd k st.ws a tl
    if g = 0 then ((1, true, false, false), { st with pls := st.pls.set t { x with o := g }, ws := wrt k st.ws a tl x.n, ts := Cache.after k st.ws.length st.ts a tl true })
    else ((0, true, false, false), { st with pls := st.pls.set t { x with o := g, s := 5 }, ws := wrt k st.ws a tl x.n, ts := Cache.after k st.ws.length st.ts a tl true })
  else if x.s = 5 then ((0, false, false, false), { st with pls := st.pls.set t { x with s := 6 }, ws := wrt k st.ws a (stA tl x.o + 1) x.n, ts := Cache.after k st.ws.length st.ts a (stA tl x.o + 1) true })
  else if x.s = 6 then
    let ts' := Cache.after k st.ws.length st.ts a (stA tl x.n) false
    if rd k st.ws a (stA tl x.n) ≠ 0 then ((1, false, false, false), { st with ts := ts' })
    else if late = false then ((0, false, false, false), { st with ts := ts' })
    else ((0, false, false, false), { st with pls := st.pls.set t { x with s := 7 }, ts := ts' })
  else
    let ts' := Cache.after k st.ws.length st.ts a (stA tl x.n) true
    if (Mem.inB a k && Mem.casB st.ws (stA tl x.n) 0) = true then ((2, false, false, false), { st with ws := Mem.put st.ws (stA tl x.n) 2, ts := ts' })
    else ((1, false, false, false), { st with ts := ts' })
/-- The step of a call to unlock. -/
def unlS (k : Nat) (tl : Int) (st : St) (t : Nat) (a : Int) : Int × St :=
  let x := st.pls.getD t p0
  if x.s = 0 ∨ x.s = 2 then
    let g := rd k st.ws a (stA tl x.n + 1)
    let ts' := Cache.after k st.ws.length st.ts a (stA tl x.n + 1) false
    if g ≠ 0 then (0, { st with pls := st.pls.set t { x with o := g, s := 3 }, ts := ts' })
    else (0, { st with pls := st.pls.set t { x with o := g, s := if x.s = 0 then 1 else 2 }, ts := ts' })
  else if x.s = 1 then
    let ts' := Cache.after k st.ws.length st.ts a tl true
    if (Mem.inB a k && Mem.casB st.ws tl x.n) = true then (0, { st with pls := st.pls.set t { x with s := 5 }, ws := Mem.put st.ws tl 0, ts := ts' })
    else (0, { st with pls := st.pls.set t { x with s := 2 }, ts := ts' })
  else if x.s = 3 then
    let ts' := Cache.after k st.ws.length st.ts a (stA tl x.o) true
    if (Mem.inB a k && Mem.casB st.ws (stA tl x.o) 0) = true then (0, { st with pls := st.pls.set t { x with s := 5 }, ws := Mem.put st.ws (stA tl x.o) 1, ts := ts' })
    else (0, { st with pls := st.pls.set t { x with s := 4 }, ts := ts' })
  else if x.s = 4 then (0, { st with pls := st.pls.set t ⟨0, 0, x.o, 0⟩, ws := wrt k st.ws a (stA tl x.n + 2) 0, ts := Cache.after k st.ws.length st.ts a (stA tl x.n + 2) true })
  else if x.s = 5 then (3, { st with ws := wrt k st.ws a (stA tl x.n + 2) 0, ts := Cache.after k st.ws.length st.ts a (stA tl x.n + 2) true })
  else (0, st)
/-- Is it late? -/
def lateB (sl : List (Int × Int)) (t now : Int) : Bool := decide (0 ≤ deadline sl t) && decide (deadline sl t ≤ now)
/-- The step, but for its end. -/
def midS (k : Nat) (tl : Int) (c : Nat) (st : St) (t a now : Int) : Did × St :=
  if state st.seats t = 1 then lockS k tl c st t.toNat a (lateB st.seats t now)
  else if state st.seats t = 3 then (((unlS k tl st t.toNat a).1, false, false, false), (unlS k tl st t.toNat a).2)
  else ((0, false, false, false), st)
/-- What an end makes of the places. -/
def rest (pl : List P) (t : Nat) : List P := pl.set t ⟨0, 0, (pl.getD t p0).n, 0⟩
def step (k : Nat) (tl : Int) (c : Nat) (st : St) (t a now : Int) : Did × St :=
  let r := midS k tl c st t a now
  (r.1, { r.2 with seats := (fin r.2.seats t r.1.1).2, pls := if (fin r.2.seats t r.1.1).1 = true then rest r.2.pls t.toNat else r.2.pls })
/-- A lock over its port, as objects. -/
structure O (l s lb pb cap q : Nat) (SQ : Nat → Prop) (c p : Nat) (SP : Nat → Prop) (k : Nat) (hs : List Int) (tl : Int) (w : World) (b : Nat) (st : St) : Prop where
  at_ : At w l s lb pb cap q SQ c (.pointer (some ⟨p, 0, none⟩)) tl st.seats st.pls
  port : Port.O w p SP k st.ws hs st.ts
  few : st.ts.length ≤ b
  sep : ∀ i, fa l s lb pb SQ i → ¬ SP i
theorem O.lt {w : World} {b : Nat} {st : St} (h : O l s lb pb cap q SQ c p SP k hs tl w b st) : ∀ i, ft l s lb pb SP SQ i → i < w.heap.size := by
  intro i hi
  rcases hi with hi | hi
  · obtain ⟨_, hl⟩ := h.port; exact hl i hi
  · exact h.at_.lt i hi
theorem O.keep {w w' : World} {b : Nat} {st : St} {T : Nat → Prop} (h : O l s lb pb cap q SQ c p SP k hs tl w b st) (hu : Upd T w w') (hd : ∀ i, ft l s lb pb SP SQ i → ¬ T i) : O l s lb pb cap q SQ c p SP k hs tl w' b st :=
  ⟨h.at_.keep hu (fun i hi => hd i (.inr hi)), h.port.keep hu (fun i hi => hd i (.inl hi)), h.few, h.sep⟩
theorem O.mono {w : World} {b b' : Nat} {st : St} (h : O l s lb pb cap q SQ c p SP k hs tl w b st) (hb : b ≤ b') : O l s lb pb cap q SQ c p SP k hs tl w b' st := ⟨h.at_, h.port, Nat.le_trans h.few hb, h.sep⟩
theorem O.seats {w w' : World} {b : Nat} {st : St} (h : O l s lb pb cap q SQ c p SP k hs tl w b st) (x : List (Int × Int)) (hx : x.length = st.seats.length) (ha : Seat.At w' s lb x true false) (hu : Upd (fun i => i = lb) w w') :
    O l s lb pb cap q SQ c p SP k hs tl w' b { st with seats := x } := ⟨h.at_.seats hu ha hx, h.port.keep hu (fun i hi e => h.sep lb (by simp [fa]) (e ▸ hi)), h.few, h.sep⟩
theorem lockS_len (st : St) (t : Nat) (a : Int) (late : Bool) : (lockS k tl c st t a late).2.seats = st.seats ∧ (lockS k tl c st t a late).2.pls.length = st.pls.length := by
  unfold lockS; dsimp only; (repeat' split) <;> simp
theorem unlS_len (st : St) (t : Nat) (a : Int) : (unlS k tl st t a).2.seats = st.seats ∧ (unlS k tl st t a).2.pls.length = st.pls.length := by
  unfold unlS; dsimp only; (repeat' split) <;> simp
theorem useC (w : World) (pv : Value) (sl : List (Int × Int)) (pl : List P) (h : At w l s lb pb cap q SQ c pv tl sl pl) :
    Calls Try.prog 37 #[.pointer (some ⟨l, 0, none⟩), .pointer (some ⟨p, 0, none⟩)] w fun e w' => e = .returned (.tuple #[]) ∧ At w' l s lb pb cap q SQ c (.pointer (some ⟨p, 0, none⟩)) tl sl pl ∧ Upd (fun k => k = l) w w' := by
  have h1 := h.top.cell (i := 1) rfl
  have f1 := h.top.frozen 1
  go_enter Try.func37, Try.ntmps37
  go_wp2
  go_end0
  exact ⟨rfl, h.use _, Upd.one _ _ _ _⟩
theorem stC (w : World) (hc : w.cell? ⟨l, 3, none⟩ = some (.int .i64 tl)) (h0 : 0 ≤ tl ∧ tl ≤ 100000) (x : Int) (hx : 0 ≤ x ∧ x < 4294967296) :
    Calls Try.prog 46 #[.pointer (some ⟨l, 0, none⟩), .int .i64 x] w fun e w' => e = .returned (.int .i64 (stA tl x)) ∧ w = w' := by
  unfold stA
  go_enter Try.func46, Try.ntmps46
  go_wp2
  go_ret
  exact ⟨rfl, rfl⟩
end Go.Proofs.Ytlkpfdboagjaoaa.Abort
