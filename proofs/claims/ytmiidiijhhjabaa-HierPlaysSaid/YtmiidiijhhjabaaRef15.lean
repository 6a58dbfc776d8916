/- The document's queue lock of queues: its objects. -/
import Derived.Test.YtmiidiijhhjabaaModl
import Derived.Test.YtmiidiijhhjabaaW01
import Derived.Test.YtmiidiijhhjabaaHierO
namespace Go.Proofs.Ytmiidiijhhjabaa.Ref15
open Go Go.RowKit Go.Proofs.Ytmiidiijhhjabaa.Heap Go.Proofs.Ytmiidiijhhjabaa.Open Go.Proofs.Ytmiidiijhhjabaa.Seat Go.Proofs.Ytmiidiijhhjabaa.Mach Go.Proofs.Ytmiidiijhhjabaa.Has Go.Proofs.Ytmiidiijhhjabaa.Ref09 Go.Proofs.Ytmiidiijhhjabaa.Modl Go.Proofs.Ytmiidiijhhjabaa.SeatP Go.Proofs.Ytmiidiijhhjabaa.StepU Go.Proofs.Ytmiidiijhhjabaa.Hier

/-- One part of all places, as cells. -/
def col (k : IntKind) (f : P → Int) (l : List P) : List Value := l.map fun y => .int k (f y)
theorem col_len (k : IntKind) (f : P → Int) (l : List P) : (col k f l).length = l.length := by simp [col]
theorem col_get {k : IntKind} {f : P → Int} {l : List P} {t : Nat} (h : t < l.length) : (col k f l)[t]? = some (.int k (f (l.getD t p0))) := by simp [col, List.getD, h]
theorem col_set (k : IntKind) (f : P → Int) (l : List P) (t : Nat) (y : P) : col k f (l.set t y) = (col k f l).set t (.int k (f y)) := by simp [col, List.map_set]
theorem col_same (k : IntKind) (f : P → Int) (l : List P) (t : Nat) (y : P) (h : t < l.length) (e : f y = f (l.getD t p0)) : col k f (l.set t y) = col k f l := by
  rw [col_set, e]
  have := col_get (k := k) (f := f) h
  have hl : t < (col k f l).length := by rw [col_len]; exact h
  rw [List.getElem?_eq_getElem hl] at this
  simp only [Option.some.injEq] at this
  rw [← this, List.set_getElem_self]
/-- The blocks of the document's lock. -/
structure Bk where
  x : Nat
  sx : Nat
  sb : Nat
  db : Nat
  kb : Nat
  pc : Nat
  nb : Nat
  ab : Nat
  ob : Nat
  wb : Nat
  ck : Nat
  cn : Nat
def Bk.all (b : Bk) : List Nat := [b.x, b.sx, b.sb, b.db, b.kb, b.pc, b.nb, b.ab, b.ob, b.wb]
/-- The document's lock: its seats' three, clusters, steps, nodes, those ahead, batches' last ones, words. -/
structure MAt (b : Bk) (w : World) (sl : List (Int × Int)) (pl : List P) : Prop where
  top : Row w b.x [.pointer (some ⟨b.sx, 0, none⟩), .int .i64 0, .slice (some ⟨b.kb, 0, none⟩) sl.length b.ck, .slice (some ⟨b.pc, 0, none⟩) sl.length sl.length, .slice (some ⟨b.nb, 0, none⟩) sl.length b.cn, .slice (some ⟨b.ab, 0, none⟩) sl.length sl.length, .slice (some ⟨b.ob, 0, none⟩) sl.length sl.length, .slice (some ⟨b.wb, 0, none⟩) sl.length sl.length]
  seat : RAt w b.sx b.sb b.db sl false false
  krow : RowP w b.kb (col .i64 P.c pl)
  prow : Row w b.pc (col .i64 P.s pl)
  nrow : RowP w b.nb (col .i64 P.n pl)
  arow : Row w b.ab (col .i64 P.a pl)
  orow : Row w b.ob (col .i64 P.l pl)
  wrow : Row w b.wb (col .u32 P.w pl)
  l1 : pl.length = sl.length
  nd : b.all.Nodup
  ok : Hier.Ok pl
def fm (b : Bk) : Nat → Prop := fun i => i ∈ b.all
theorem fm_all (b : Bk) : fm b b.x ∧ fm b b.sx ∧ fm b b.sb ∧ fm b b.db ∧ fm b b.kb ∧ fm b b.pc ∧ fm b b.nb ∧ fm b b.ab ∧ fm b b.ob ∧ fm b b.wb := by simp [fm, Bk.all]
variable {b : Bk}
theorem MAt.keep {w w' : World} {sl : List (Int × Int)} {pl : List P} {T : Nat → Prop} (h : MAt b w sl pl) (hu : Upd T w w') (hd : ∀ i, fm b i → ¬ T i) : MAt b w' sl pl := by
  obtain ⟨f1, f2, f3, f4, f5, f6, f7, f8, f9, f10⟩ := fm_all b
  exact ⟨h.top.upd hu (hd _ f1), h.seat.upd hu (hd _ f2) (hd _ f3) (hd _ f4), h.krow.upd hu (hd _ f5), h.prow.upd hu (hd _ f6), h.nrow.upd hu (hd _ f7), h.arow.upd hu (hd _ f8), h.orow.upd hu (hd _ f9), h.wrow.upd hu (hd _ f10), h.l1, h.nd, h.ok⟩
theorem MAt.lt {w : World} {sl : List (Int × Int)} {pl : List P} (h : MAt b w sl pl) : ∀ i, fm b i → i < w.heap.size := by
  intro i hi
  obtain ⟨cs, cd, ht⟩ := h.seat.top
  simp only [fm, Bk.all, List.mem_cons, List.not_mem_nil, or_false] at hi
  rcases hi with rfl | rfl | rfl | rfl | rfl | rfl | rfl | rfl | rfl | rfl
  · exact h.top.lt
  · exact ht.lt
  · exact h.seat.st.lt
  · exact h.seat.dl.lt
  · exact h.krow.lt
  · exact h.prow.lt
  · exact h.nrow.lt
  · exact h.arow.lt
  · exact h.orow.lt
  · exact h.wrow.lt
/-- All blocks are other ones. -/
theorem Bk.ne {b : Bk} (h : b.all.Nodup) (i j : Nat) (hi : i < 10) (hj : j < 10) (e : i ≠ j) : b.all[i]'(show i < b.all.length from hi) ≠ b.all[j]'(show j < b.all.length from hj) := fun z => e ((List.getElem_inj h).1 z)
theorem MAt.seats {w w' : World} {sl sl' : List (Int × Int)} {pl : List P} (h : MAt b w sl pl) (hl : sl'.length = sl.length) (hs : RAt w' b.sx b.sb b.db sl' false false) (hu : Upd (fun i => i = b.sb ∨ i = b.db) w w') : MAt b w' sl' pl :=
  ⟨by rw [hl]; exact h.top.upd hu (fun e => e.elim (Bk.ne h.nd 0 2 (by decide) (by decide) (by decide)) (Bk.ne h.nd 0 3 (by decide) (by decide) (by decide))), hs, h.krow.upd hu (fun e => e.elim (Bk.ne h.nd 4 2 (by decide) (by decide) (by decide)) (Bk.ne h.nd 4 3 (by decide) (by decide) (by decide))), h.prow.upd hu (fun e => e.elim (Bk.ne h.nd 5 2 (by decide) (by decide) (by decide)) (Bk.ne h.nd 5 3 (by decide) (by decide) (by decide))), h.nrow.upd hu (fun e => e.elim (Bk.ne h.nd 6 2 (by decide) (by decide) (by decide)) (Bk.ne h.nd 6 3 (by decide) (by decide) (by decide))), h.arow.upd hu (fun e => e.elim (Bk.ne h.nd 7 2 (by decide) (by decide) (by decide)) (Bk.ne h.nd 7 3 (by decide) (by decide) (by decide))), h.orow.upd hu (fun e => e.elim (Bk.ne h.nd 8 2 (by decide) (by decide) (by decide)) (Bk.ne h.nd 8 3 (by decide) (by decide) (by decide))), h.wrow.upd hu (fun e => e.elim (Bk.ne h.nd 9 2 (by decide) (by decide) (by decide)) (Bk.ne h.nd 9 3 (by decide) (by decide) (by decide))), by rw [hl]; exact h.l1, h.nd, h.ok⟩
theorem MAt.setPc {w : World} {sl : List (Int × Int)} {pl : List P} (h : MAt b w sl pl) (t : Nat) (ht : t < sl.length) (y : P) (hy : y = { pl.getD t p0 with s := y.s }) (ho : Hier.Ok1 y) : MAt b (w.setCell ⟨b.pc, t, none⟩ (.int .i64 y.s)) sl (pl.set t y) := by
  have hu := Upd.one w b.pc t (.int .i64 y.s)
  have hp : t < pl.length := by rw [h.l1]; exact ht
  exact ⟨h.top.upd hu (Bk.ne h.nd 0 5 (by decide) (by decide) (by decide)), h.seat.upd hu (Bk.ne h.nd 1 5 (by decide) (by decide) (by decide)) (Bk.ne h.nd 2 5 (by decide) (by decide) (by decide)) (Bk.ne h.nd 3 5 (by decide) (by decide) (by decide)), by rw [col_same _ _ _ _ _ hp (by rw [hy])]; exact h.krow.upd hu (Bk.ne h.nd 4 5 (by decide) (by decide) (by decide)), by rw [col_set]; exact h.prow.set _ _, by rw [col_same _ _ _ _ _ hp (by rw [hy])]; exact h.nrow.upd hu (Bk.ne h.nd 6 5 (by decide) (by decide) (by decide)), by rw [col_same _ _ _ _ _ hp (by rw [hy])]; exact h.arow.upd hu (Bk.ne h.nd 7 5 (by decide) (by decide) (by decide)), by rw [col_same _ _ _ _ _ hp (by rw [hy])]; exact h.orow.upd hu (Bk.ne h.nd 8 5 (by decide) (by decide) (by decide)), by rw [col_same _ _ _ _ _ hp (by rw [hy])]; exact h.wrow.upd hu (Bk.ne h.nd 9 5 (by decide) (by decide) (by decide)), by simpa using h.l1, h.nd, h.ok.set t y ho⟩
theorem MAt.setNd {w : World} {sl : List (Int × Int)} {pl : List P} (h : MAt b w sl pl) (t : Nat) (ht : t < sl.length) (y : P) (hy : y = { pl.getD t p0 with n := y.n }) (ho : Hier.Ok1 y) : MAt b (w.setCell ⟨b.nb, t, none⟩ (.int .i64 y.n)) sl (pl.set t y) := by
  have hu := Upd.one w b.nb t (.int .i64 y.n)
  have hp : t < pl.length := by rw [h.l1]; exact ht
  exact ⟨h.top.upd hu (Bk.ne h.nd 0 6 (by decide) (by decide) (by decide)), h.seat.upd hu (Bk.ne h.nd 1 6 (by decide) (by decide) (by decide)) (Bk.ne h.nd 2 6 (by decide) (by decide) (by decide)) (Bk.ne h.nd 3 6 (by decide) (by decide) (by decide)), by rw [col_same _ _ _ _ _ hp (by rw [hy])]; exact h.krow.upd hu (Bk.ne h.nd 4 6 (by decide) (by decide) (by decide)), by rw [col_same _ _ _ _ _ hp (by rw [hy])]; exact h.prow.upd hu (Bk.ne h.nd 5 6 (by decide) (by decide) (by decide)), by rw [col_set]; exact h.nrow.set _ (by rw [col_len]; exact hp) _, by rw [col_same _ _ _ _ _ hp (by rw [hy])]; exact h.arow.upd hu (Bk.ne h.nd 7 6 (by decide) (by decide) (by decide)), by rw [col_same _ _ _ _ _ hp (by rw [hy])]; exact h.orow.upd hu (Bk.ne h.nd 8 6 (by decide) (by decide) (by decide)), by rw [col_same _ _ _ _ _ hp (by rw [hy])]; exact h.wrow.upd hu (Bk.ne h.nd 9 6 (by decide) (by decide) (by decide)), by simpa using h.l1, h.nd, h.ok.set t y ho⟩
theorem MAt.setAh {w : World} {sl : List (Int × Int)} {pl : List P} (h : MAt b w sl pl) (t : Nat) (ht : t < sl.length) (y : P) (hy : y = { pl.getD t p0 with a := y.a }) (ho : Hier.Ok1 y) : MAt b (w.setCell ⟨b.ab, t, none⟩ (.int .i64 y.a)) sl (pl.set t y) := by
  have hu := Upd.one w b.ab t (.int .i64 y.a)
  have hp : t < pl.length := by rw [h.l1]; exact ht
  exact ⟨h.top.upd hu (Bk.ne h.nd 0 7 (by decide) (by decide) (by decide)), h.seat.upd hu (Bk.ne h.nd 1 7 (by decide) (by decide) (by decide)) (Bk.ne h.nd 2 7 (by decide) (by decide) (by decide)) (Bk.ne h.nd 3 7 (by decide) (by decide) (by decide)), by rw [col_same _ _ _ _ _ hp (by rw [hy])]; exact h.krow.upd hu (Bk.ne h.nd 4 7 (by decide) (by decide) (by decide)), by rw [col_same _ _ _ _ _ hp (by rw [hy])]; exact h.prow.upd hu (Bk.ne h.nd 5 7 (by decide) (by decide) (by decide)), by rw [col_same _ _ _ _ _ hp (by rw [hy])]; exact h.nrow.upd hu (Bk.ne h.nd 6 7 (by decide) (by decide) (by decide)), by rw [col_set]; exact h.arow.set _ _, by rw [col_same _ _ _ _ _ hp (by rw [hy])]; exact h.orow.upd hu (Bk.ne h.nd 8 7 (by decide) (by decide) (by decide)), by rw [col_same _ _ _ _ _ hp (by rw [hy])]; exact h.wrow.upd hu (Bk.ne h.nd 9 7 (by decide) (by decide) (by decide)), by simpa using h.l1, h.nd, h.ok.set t y ho⟩
theorem MAt.setOf {w : World} {sl : List (Int × Int)} {pl : List P} (h : MAt b w sl pl) (t : Nat) (ht : t < sl.length) (y : P) (hy : y = { pl.getD t p0 with l := y.l }) (ho : Hier.Ok1 y) : MAt b (w.setCell ⟨b.ob, t, none⟩ (.int .i64 y.l)) sl (pl.set t y) := by
  have hu := Upd.one w b.ob t (.int .i64 y.l)
  have hp : t < pl.length := by rw [h.l1]; exact ht
  exact ⟨h.top.upd hu (Bk.ne h.nd 0 8 (by decide) (by decide) (by decide)), h.seat.upd hu (Bk.ne h.nd 1 8 (by decide) (by decide) (by decide)) (Bk.ne h.nd 2 8 (by decide) (by decide) (by decide)) (Bk.ne h.nd 3 8 (by decide) (by decide) (by decide)), by rw [col_same _ _ _ _ _ hp (by rw [hy])]; exact h.krow.upd hu (Bk.ne h.nd 4 8 (by decide) (by decide) (by decide)), by rw [col_same _ _ _ _ _ hp (by rw [hy])]; exact h.prow.upd hu (Bk.ne h.nd 5 8 (by decide) (by decide) (by decide)), by rw [col_same _ _ _ _ _ hp (by rw [hy])]; exact h.nrow.upd hu (Bk.ne h.nd 6 8 (by decide) (by decide) (by decide)), by rw [col_same _ _ _ _ _ hp (by rw [hy])]; exact h.arow.upd hu (Bk.ne h.nd 7 8 (by decide) (by decide) (by decide)), by rw [col_set]; exact h.orow.set _ _, by rw [col_same _ _ _ _ _ hp (by rw [hy])]; exact h.wrow.upd hu (Bk.ne h.nd 9 8 (by decide) (by decide) (by decide)), by simpa using h.l1, h.nd, h.ok.set t y ho⟩
theorem MAt.setWd {w : World} {sl : List (Int × Int)} {pl : List P} (h : MAt b w sl pl) (t : Nat) (ht : t < sl.length) (y : P) (hy : y = { pl.getD t p0 with w := y.w }) (ho : Hier.Ok1 y) : MAt b (w.setCell ⟨b.wb, t, none⟩ (.int .u32 y.w)) sl (pl.set t y) := by
  have hu := Upd.one w b.wb t (.int .u32 y.w)
  have hp : t < pl.length := by rw [h.l1]; exact ht
  exact ⟨h.top.upd hu (Bk.ne h.nd 0 9 (by decide) (by decide) (by decide)), h.seat.upd hu (Bk.ne h.nd 1 9 (by decide) (by decide) (by decide)) (Bk.ne h.nd 2 9 (by decide) (by decide) (by decide)) (Bk.ne h.nd 3 9 (by decide) (by decide) (by decide)), by rw [col_same _ _ _ _ _ hp (by rw [hy])]; exact h.krow.upd hu (Bk.ne h.nd 4 9 (by decide) (by decide) (by decide)), by rw [col_same _ _ _ _ _ hp (by rw [hy])]; exact h.prow.upd hu (Bk.ne h.nd 5 9 (by decide) (by decide) (by decide)), by rw [col_same _ _ _ _ _ hp (by rw [hy])]; exact h.nrow.upd hu (Bk.ne h.nd 6 9 (by decide) (by decide) (by decide)), by rw [col_same _ _ _ _ _ hp (by rw [hy])]; exact h.arow.upd hu (Bk.ne h.nd 7 9 (by decide) (by decide) (by decide)), by rw [col_same _ _ _ _ _ hp (by rw [hy])]; exact h.orow.upd hu (Bk.ne h.nd 8 9 (by decide) (by decide) (by decide)), by rw [col_set]; exact h.wrow.set _ _, by simpa using h.l1, h.nd, h.ok.set t y ho⟩
end Go.Proofs.Ytmiidiijhhjabaa.Ref15
