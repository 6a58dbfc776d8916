/- The document's lock of whom time may run out: its objects. -/
import Derived.Test.YtlkpfdboagjaoaaModl
import Derived.Test.YtlkpfdboagjaoaaAbort3
import Derived.Test.YtlkpfdboagjaoaaAbortJ
namespace Go.Proofs.Ytlkpfdboagjaoaa.Ref14
open Go Go.RowKit Go.Proofs.Ytlkpfdboagjaoaa.Heap Go.Proofs.Ytlkpfdboagjaoaa.Open Go.Proofs.Ytlkpfdboagjaoaa.Seat Go.Proofs.Ytlkpfdboagjaoaa.Mach Go.Proofs.Ytlkpfdboagjaoaa.Has Go.Proofs.Ytlkpfdboagjaoaa.Ref09 Go.Proofs.Ytlkpfdboagjaoaa.Modl Go.Proofs.Ytlkpfdboagjaoaa.SeatP Go.Proofs.Ytlkpfdboagjaoaa.StepU Go.Proofs.Ytlkpfdboagjaoaa.Abort

/-- One part of all places, as cells. -/
def col (f : P → Int) (l : List P) : List Value := l.map fun y => .int .i64 (f y)
theorem col_len (f : P → Int) (l : List P) : (col f l).length = l.length := by simp [col]
theorem col_get {f : P → Int} {l : List P} {t : Nat} (h : t < l.length) : (col f l)[t]? = some (.int .i64 (f (l.getD t p0))) := by simp [col, List.getD, h]
theorem col_set (f : P → Int) (l : List P) (t : Nat) (y : P) : col f (l.set t y) = (col f l).set t (.int .i64 (f y)) := by simp [col, List.map_set]
theorem col_same (f : P → Int) (l : List P) (t : Nat) (y : P) (h : t < l.length) (e : f y = f (l.getD t p0)) : col f (l.set t y) = col f l := by
  rw [col_set, e]
  have := col_get (f := f) h
  have hl : t < (col f l).length := by rw [col_len]; exact h
  rw [List.getElem?_eq_getElem hl] at this
  simp only [Option.some.injEq] at this
  rw [← this, List.set_getElem_self]
/-- The blocks of the document's lock. -/
structure Bk where
  x : Nat
  sx : Nat
  sb : Nat
  db : Nat
  pc : Nat
  nb : Nat
  ob : Nat
  tb : Nat
  cp : Nat
def Bk.all (b : Bk) : List Nat := [b.x, b.sx, b.sb, b.db, b.pc, b.nb, b.ob, b.tb]
/-- Places that the document may have. -/
def OkD1 (x : P) : Prop := (0 ≤ x.s ∧ x.s ≤ 8) ∧ (0 ≤ x.r ∧ x.r ≤ 8) ∧ (0 ≤ x.n ∧ x.n < 4294967296)
def OkD (pl : List P) : Prop := ∀ t : Nat, t < pl.length → OkD1 (pl.getD t p0)
theorem OkD.set {pl : List P} (h : OkD pl) (t : Nat) (x : P) (hx : OkD1 x) : OkD (pl.set t x) := by
  intro u hu
  rw [List.length_set] at hu
  by_cases ht : t < pl.length
  · rw [pl_set _ _ ht]; split
    · exact hx
    · exact h u hu
  · rw [List.set_eq_of_length_le (by omega)]; exact h u hu
/-- The document's lock: its seats' three, steps (from 1 on), nodes, the other ones, how many were looked at. -/
structure MAt (b : Bk) (w : World) (c : Nat) (sl : List (Int × Int)) (pl : List P) (al : List Int) : Prop where
  top : Row w b.x [.pointer (some ⟨b.sx, 0, none⟩), .int .i64 0, .int .i64 c, .slice (some ⟨b.pc, 0, none⟩) sl.length b.cp, .slice (some ⟨b.nb, 0, none⟩) sl.length sl.length, .slice (some ⟨b.ob, 0, none⟩) sl.length sl.length, .slice (some ⟨b.tb, 0, none⟩) sl.length sl.length]
  seat : RAt w b.sx b.sb b.db sl true false
  prow : RowP w b.pc (col (fun x => x.s + 1) pl)
  nrow : Row w b.nb (col P.n pl)
  orow : Row w b.ob (ints .i64 al)
  trow : Row w b.tb (col P.r pl)
  l1 : pl.length = sl.length
  l2 : al.length = sl.length
  nd : b.all.Nodup
  ok : OkD pl
  wd : ∀ t, 0 ≤ al.getD t 0 ∧ al.getD t 0 < 4294967296
def fm (b : Bk) : Nat → Prop := fun i => i ∈ b.all
theorem fm_all (b : Bk) : fm b b.x ∧ fm b b.sx ∧ fm b b.sb ∧ fm b b.db ∧ fm b b.pc ∧ fm b b.nb ∧ fm b b.ob ∧ fm b b.tb := by simp [fm, Bk.all]
variable {b : Bk} {c : Nat}
theorem MAt.keep {w w' : World} {sl : List (Int × Int)} {pl : List P} {al : List Int} {T : Nat → Prop} (h : MAt b w c sl pl al) (hu : Upd T w w') (hd : ∀ i, fm b i → ¬ T i) : MAt b w' c sl pl al := by
  obtain ⟨f1, f2, f3, f4, f5, f6, f7, f8⟩ := fm_all b
  exact ⟨h.top.upd hu (hd _ f1), h.seat.upd hu (hd _ f2) (hd _ f3) (hd _ f4), h.prow.upd hu (hd _ f5), h.nrow.upd hu (hd _ f6), h.orow.upd hu (hd _ f7), h.trow.upd hu (hd _ f8), h.l1, h.l2, h.nd, h.ok, h.wd⟩
theorem MAt.lt {w : World} {sl : List (Int × Int)} {pl : List P} {al : List Int} (h : MAt b w c sl pl al) : ∀ i, fm b i → i < w.heap.size := by
  intro i hi
  obtain ⟨cs, cd, ht⟩ := h.seat.top
  simp only [fm, Bk.all, List.mem_cons, List.not_mem_nil, or_false] at hi
  rcases hi with rfl | rfl | rfl | rfl | rfl | rfl | rfl | rfl
  · exact h.top.lt
  · exact ht.lt
  · exact h.seat.st.lt
  · exact h.seat.dl.lt
  · exact h.prow.lt
  · exact h.nrow.lt
  · exact h.orow.lt
  · exact h.trow.lt
/-- All blocks are other ones. -/
theorem Bk.ne {b : Bk} (h : b.all.Nodup) (i j : Nat) (hi : i < 8) (hj : j < 8) (e : i ≠ j) : b.all[i]'(show i < b.all.length from hi) ≠ b.all[j]'(show j < b.all.length from hj) := fun z => e ((List.getElem_inj h).1 z)
theorem MAt.seats {w w' : World} {sl sl' : List (Int × Int)} {pl : List P} {al : List Int} (h : MAt b w c sl pl al) (hl : sl'.length = sl.length) (hs : RAt w' b.sx b.sb b.db sl' true false) (hu : Upd (fun i => i = b.sb ∨ i = b.db) w w') : MAt b w' c sl' pl al :=
  ⟨by rw [hl]; exact h.top.upd hu (fun e => e.elim (Bk.ne h.nd 0 2 (by decide) (by decide) (by decide)) (Bk.ne h.nd 0 3 (by decide) (by decide) (by decide))), hs, h.prow.upd hu (fun e => e.elim (Bk.ne h.nd 4 2 (by decide) (by decide) (by decide)) (Bk.ne h.nd 4 3 (by decide) (by decide) (by decide))), h.nrow.upd hu (fun e => e.elim (Bk.ne h.nd 5 2 (by decide) (by decide) (by decide)) (Bk.ne h.nd 5 3 (by decide) (by decide) (by decide))), h.orow.upd hu (fun e => e.elim (Bk.ne h.nd 6 2 (by decide) (by decide) (by decide)) (Bk.ne h.nd 6 3 (by decide) (by decide) (by decide))), h.trow.upd hu (fun e => e.elim (Bk.ne h.nd 7 2 (by decide) (by decide) (by decide)) (Bk.ne h.nd 7 3 (by decide) (by decide) (by decide))), by rw [hl]; exact h.l1, by rw [hl]; exact h.l2, h.nd, h.ok, h.wd⟩
theorem MAt.setPc {w : World} {sl : List (Int × Int)} {pl : List P} {al : List Int} (h : MAt b w c sl pl al) (t : Nat) (ht : t < sl.length) (y : P) (hy : y = { pl.getD t p0 with s := y.s, o := y.o }) (ho : OkD1 y) : MAt b (w.setCell ⟨b.pc, t, none⟩ (.int .i64 (y.s + 1))) c sl (pl.set t y) al := by
  have hu := Upd.one w b.pc t (.int .i64 (y.s + 1))
  have hp : t < pl.length := by rw [h.l1]; exact ht
  exact ⟨h.top.upd hu (Bk.ne h.nd 0 4 (by decide) (by decide) (by decide)), h.seat.upd hu (Bk.ne h.nd 1 4 (by decide) (by decide) (by decide)) (Bk.ne h.nd 2 4 (by decide) (by decide) (by decide)) (Bk.ne h.nd 3 4 (by decide) (by decide) (by decide)), by rw [col_set]; exact h.prow.set _ (by rw [col_len]; exact hp) _, by rw [col_same _ _ _ _ hp (by rw [hy])]; exact h.nrow.upd hu (Bk.ne h.nd 5 4 (by decide) (by decide) (by decide)), h.orow.upd hu (Bk.ne h.nd 6 4 (by decide) (by decide) (by decide)), by rw [col_same _ _ _ _ hp (by rw [hy])]; exact h.trow.upd hu (Bk.ne h.nd 7 4 (by decide) (by decide) (by decide)), by simpa using h.l1, h.l2, h.nd, h.ok.set t y ho, h.wd⟩
theorem MAt.setNd {w : World} {sl : List (Int × Int)} {pl : List P} {al : List Int} (h : MAt b w c sl pl al) (t : Nat) (ht : t < sl.length) (y : P) (hy : y = { pl.getD t p0 with n := y.n, o := y.o }) (ho : OkD1 y) : MAt b (w.setCell ⟨b.nb, t, none⟩ (.int .i64 (y.n))) c sl (pl.set t y) al := by
  have hu := Upd.one w b.nb t (.int .i64 (y.n))
  have hp : t < pl.length := by rw [h.l1]; exact ht
  exact ⟨h.top.upd hu (Bk.ne h.nd 0 5 (by decide) (by decide) (by decide)), h.seat.upd hu (Bk.ne h.nd 1 5 (by decide) (by decide) (by decide)) (Bk.ne h.nd 2 5 (by decide) (by decide) (by decide)) (Bk.ne h.nd 3 5 (by decide) (by decide) (by decide)), by rw [col_same _ _ _ _ hp (by rw [hy])]; exact h.prow.upd hu (Bk.ne h.nd 4 5 (by decide) (by decide) (by decide)), by rw [col_set]; exact h.nrow.set _ _, h.orow.upd hu (Bk.ne h.nd 6 5 (by decide) (by decide) (by decide)), by rw [col_same _ _ _ _ hp (by rw [hy])]; exact h.trow.upd hu (Bk.ne h.nd 7 5 (by decide) (by decide) (by decide)), by simpa using h.l1, h.l2, h.nd, h.ok.set t y ho, h.wd⟩
theorem MAt.setTr {w : World} {sl : List (Int × Int)} {pl : List P} {al : List Int} (h : MAt b w c sl pl al) (t : Nat) (ht : t < sl.length) (y : P) (hy : y = { pl.getD t p0 with r := y.r, o := y.o }) (ho : OkD1 y) : MAt b (w.setCell ⟨b.tb, t, none⟩ (.int .i64 (y.r))) c sl (pl.set t y) al := by
  have hu := Upd.one w b.tb t (.int .i64 (y.r))
  have hp : t < pl.length := by rw [h.l1]; exact ht
  exact ⟨h.top.upd hu (Bk.ne h.nd 0 7 (by decide) (by decide) (by decide)), h.seat.upd hu (Bk.ne h.nd 1 7 (by decide) (by decide) (by decide)) (Bk.ne h.nd 2 7 (by decide) (by decide) (by decide)) (Bk.ne h.nd 3 7 (by decide) (by decide) (by decide)), by rw [col_same _ _ _ _ hp (by rw [hy])]; exact h.prow.upd hu (Bk.ne h.nd 4 7 (by decide) (by decide) (by decide)), by rw [col_same _ _ _ _ hp (by rw [hy])]; exact h.nrow.upd hu (Bk.ne h.nd 5 7 (by decide) (by decide) (by decide)), h.orow.upd hu (Bk.ne h.nd 6 7 (by decide) (by decide) (by decide)), by rw [col_set]; exact h.trow.set _ _, by simpa using h.l1, h.l2, h.nd, h.ok.set t y ho, h.wd⟩
theorem MAt.setOt {w : World} {sl : List (Int × Int)} {pl : List P} {al : List Int} (h : MAt b w c sl pl al) (t : Nat) (v : Int) (hv : 0 ≤ v ∧ v < 4294967296) : MAt b (w.setCell ⟨b.ob, t, none⟩ (.int .i64 v)) c sl pl (al.set t v) := by
  have hu := Upd.one w b.ob t (.int .i64 v)
  refine ⟨h.top.upd hu (Bk.ne h.nd 0 6 (by decide) (by decide) (by decide)), h.seat.upd hu (Bk.ne h.nd 1 6 (by decide) (by decide) (by decide)) (Bk.ne h.nd 2 6 (by decide) (by decide) (by decide)) (Bk.ne h.nd 3 6 (by decide) (by decide) (by decide)), h.prow.upd hu (Bk.ne h.nd 4 6 (by decide) (by decide) (by decide)), h.nrow.upd hu (Bk.ne h.nd 5 6 (by decide) (by decide) (by decide)), by simpa [ints, List.map_set] using h.orow.set t (.int .i64 v), h.trow.upd hu (Bk.ne h.nd 7 6 (by decide) (by decide) (by decide)), h.l1, by simpa using h.l2, h.nd, h.ok, fun u => ?_⟩
  by_cases ht : t < al.length
  · rw [dls_set _ _ ht]; split
    · exact hv
    · exact h.wd u
  · rw [List.set_eq_of_length_le (by omega)]; exact h.wd u
/-- The parts of a place that a column doesn't have may be any. -/
theorem MAt.other {w : World} {sl : List (Int × Int)} {pl : List P} {al : List Int} (h : MAt b w c sl pl al) (t : Nat) (y : P) (ht : t < pl.length) (e1 : y.s = (pl.getD t p0).s) (e2 : y.n = (pl.getD t p0).n) (e3 : y.r = (pl.getD t p0).r) : MAt b w c sl (pl.set t y) al :=
  ⟨h.top, h.seat, by rw [col_same _ _ _ _ ht (by rw [e1])]; exact h.prow, by rw [col_same _ _ _ _ ht e2]; exact h.nrow, h.orow, by rw [col_same _ _ _ _ ht e3]; exact h.trow, by simpa using h.l1, h.l2, h.nd, h.ok.set t y (by have := h.ok t ht; unfold OkD1 at this ⊢; rw [e1, e2, e3]; exact this), h.wd⟩
theorem wdC {w : World} (hc : w.cell? ⟨b.x, 1, none⟩ = some (.int .i64 0)) (n k : Int) (hn : 0 ≤ n ∧ n < 4294967296) (hk : 0 ≤ k ∧ k ≤ 2) :
    Calls Try.prog 107 #[.pointer (some ⟨b.x, 0, none⟩), .int .i64 n, .int .i64 k] w fun e w' => e = .returned (.int .i64 (stA 0 n + k)) ∧ w = w' := by
  have HA := Lib.hid (show stA 0 n + k = 1 + 3 * (n - 1) + k by unfold stA; omega)
  go_enter Try.func107, Try.ntmps107
  go_wp2
  go_ret
  exact ⟨Sl.ret_int (by rw [HA.out]), rfl⟩
end Go.Proofs.Ytlkpfdboagjaoaa.Ref14
