/- The document's lock of Anderson: its objects. -/
import Derived.Test.YtamchnaifmoklaaModl
import Derived.Test.YtamchnaifmoklaaSlotsP
namespace Go.Proofs.Ytamchnaifmoklaa.Ref11
open Go Go.RowKit Go.Proofs.Ytamchnaifmoklaa.Heap Go.Proofs.Ytamchnaifmoklaa.Open Go.Proofs.Ytamchnaifmoklaa.Seat Go.Proofs.Ytamchnaifmoklaa.Mach Go.Proofs.Ytamchnaifmoklaa.Has Go.Proofs.Ytamchnaifmoklaa.Ref09 Go.Proofs.Ytamchnaifmoklaa.Modl Go.Proofs.Ytamchnaifmoklaa.SeatP Go.Proofs.Ytamchnaifmoklaa.StepU Go.Proofs.Ytamchnaifmoklaa.Slots

theorem ii_get {l : List Int} {t : Nat} (h : t < l.length) : (ints .i64 l)[t]? = some (.int .i64 (l.getD t 0)) := by simp [ints, List.getD, h]
theorem ii_set (l : List Int) (t : Nat) (v : Int) : (ints .i64 l).set t (.int .i64 v) = ints .i64 (l.set t v) := by simp [ints, List.map_set]
theorem is_set (l : List Int) (t u : Nat) (v : Int) (h : t < l.length) : (l.set t v).getD u 0 = if u = t then v else l.getD u 0 := by
  by_cases e : u = t
  · subst e; rw [if_pos rfl]; simp [List.getD, List.getElem?_set_self h]
  · rw [if_neg e, List.getD, List.getElem?_set_ne (fun z => e z.symm)]; rfl
/-- Numbers below a bound. -/
def WK (kn : Int) (l : List Int) : Prop := ∀ t : Nat, 0 ≤ l.getD t 0 ∧ l.getD t 0 < kn
theorem WK.set {kn : Int} {l : List Int} (h : WK kn l) (t : Nat) (v : Int) (h0 : 0 ≤ v ∧ v < kn) : WK kn (l.set t v) := fun u => by
  by_cases ht : t < l.length
  · rw [is_set _ _ _ _ ht]; split
    · exact h0
    · exact h u
  · rw [List.set_eq_of_length_le (by omega)]; exact h u
/-- The document's lock: its block, its seats' three, steps, slots. -/
structure MAt (x sx sb db pc ob : Nat) (kn : Int) (w : World) (sl : List (Int × Int)) (pcl ol : List Int) : Prop where
  top : Row w x [.pointer (some ⟨sx, 0, none⟩), .int .i64 0, .int .i64 kn, .slice (some ⟨pc, 0, none⟩) sl.length sl.length, .slice (some ⟨ob, 0, none⟩) sl.length sl.length]
  seat : RAt w sx sb db sl false false
  prow : Row w pc (ints .i64 pcl)
  orow : Row w ob (ints .i64 ol)
  l1 : pcl.length = sl.length
  l2 : ol.length = sl.length
  e1 : x ≠ sx ∧ x ≠ sb ∧ x ≠ db ∧ x ≠ pc ∧ x ≠ ob
  e2 : pc ≠ sx ∧ pc ≠ sb ∧ pc ≠ db ∧ pc ≠ ob
  e3 : ob ≠ sx ∧ ob ≠ sb ∧ ob ≠ db
  wd : WK kn ol
def fm (x sx sb db pc ob : Nat) : Nat → Prop := fun i => i = x ∨ i = sx ∨ i = sb ∨ i = db ∨ i = pc ∨ i = ob
variable {x sx sb db pc ob : Nat} {kn : Int}
theorem MAt.keep {w w' : World} {sl : List (Int × Int)} {pcl ol : List Int} {T : Nat → Prop} (h : MAt x sx sb db pc ob kn w sl pcl ol) (hu : Upd T w w') (hd : ∀ i, fm x sx sb db pc ob i → ¬ T i) : MAt x sx sb db pc ob kn w' sl pcl ol :=
  ⟨h.top.upd hu (hd _ (by simp [fm])), h.seat.upd hu (hd _ (by simp [fm])) (hd _ (by simp [fm])) (hd _ (by simp [fm])), h.prow.upd hu (hd _ (by simp [fm])), h.orow.upd hu (hd _ (by simp [fm])), h.l1, h.l2, h.e1, h.e2, h.e3, h.wd⟩
theorem MAt.lt {w : World} {sl : List (Int × Int)} {pcl ol : List Int} (h : MAt x sx sb db pc ob kn w sl pcl ol) : ∀ i, fm x sx sb db pc ob i → i < w.heap.size := by
  intro i hi
  obtain ⟨cs, cd, ht⟩ := h.seat.top
  rcases hi with rfl | rfl | rfl | rfl | rfl | rfl
  · exact h.top.lt
  · exact ht.lt
  · exact h.seat.st.lt
  · exact h.seat.dl.lt
  · exact h.prow.lt
  · exact h.orow.lt
theorem MAt.seats {w w' : World} {sl sl' : List (Int × Int)} {pcl ol : List Int} (h : MAt x sx sb db pc ob kn w sl pcl ol) (hl : sl'.length = sl.length) (hs : RAt w' sx sb db sl' false false) (hu : Upd (fun i => i = sb ∨ i = db) w w') : MAt x sx sb db pc ob kn w' sl' pcl ol :=
  ⟨by rw [hl]; exact h.top.upd hu (fun e => by rcases e with e | e; exact h.e1.2.1 e; exact h.e1.2.2.1 e), hs, h.prow.upd hu (fun e => by rcases e with e | e; exact h.e2.2.1 e; exact h.e2.2.2.1 e), h.orow.upd hu (fun e => by rcases e with e | e; exact h.e3.2.1 e; exact h.e3.2.2 e), by rw [hl]; exact h.l1, by rw [hl]; exact h.l2, h.e1, h.e2, h.e3, h.wd⟩
theorem MAt.setPc {w : World} {sl : List (Int × Int)} {pcl ol : List Int} (h : MAt x sx sb db pc ob kn w sl pcl ol) (t : Nat) (v : Int) : MAt x sx sb db pc ob kn (w.setCell ⟨pc, t, none⟩ (.int .i64 v)) sl (pcl.set t v) ol := by
  have hu := Upd.one w pc t (.int .i64 v)
  exact ⟨h.top.upd hu h.e1.2.2.2.1, h.seat.upd hu (fun e => h.e2.1 e.symm) (fun e => h.e2.2.1 e.symm) (fun e => h.e2.2.2.1 e.symm), by rw [← ii_set]; exact h.prow.set _ _, h.orow.upd hu (fun e => h.e2.2.2.2 e.symm), by simpa using h.l1, h.l2, h.e1, h.e2, h.e3, h.wd⟩
theorem MAt.setOwn {w : World} {sl : List (Int × Int)} {pcl ol : List Int} (h : MAt x sx sb db pc ob kn w sl pcl ol) (t : Nat) (v : Int) (h0 : 0 ≤ v ∧ v < kn) : MAt x sx sb db pc ob kn (w.setCell ⟨ob, t, none⟩ (.int .i64 v)) sl pcl (ol.set t v) := by
  have hu := Upd.one w ob t (.int .i64 v)
  exact ⟨h.top.upd hu h.e1.2.2.2.2, h.seat.upd hu (fun e => h.e3.1 e.symm) (fun e => h.e3.2.1 e.symm) (fun e => h.e3.2.2 e.symm), h.prow.upd hu h.e2.2.2.2, by rw [← ii_set]; exact h.orow.set _ _, h.l1, by simpa using h.l2, h.e1, h.e2, h.e3, h.wd.set t v h0⟩
/-- What the document has of a number: its slot, while the number counts. -/
def Rel (kn : Int) (st : St) (ol : List Int) : Prop := ∀ t : Nat, (st.pls.getD t (0, 0)).2 ≠ 0 → ol.getD t 0 = (st.pls.getD t (0, 0)).1 % kn
def Held (st : St) : Prop := ∀ t : Nat, (stt st.seats t = 2 ∨ stt st.seats t = 3) → (st.pls.getD t (0, 0)).2 = 2
def pcl (st : St) : List Int := st.pls.map (·.2)
theorem pcl_get (st : St) (t : Nat) : (pcl st).getD t 0 = (st.pls.getD t (0, 0)).2 := by
  unfold pcl
  simp only [List.getD, List.getElem?_map]
  cases st.pls[t]? <;> rfl
theorem p2set (l : List P2) (k : Nat) (hk : k < l.length) (x : P2) (u : Nat) : (l.set k x).getD u (0, 0) = if u = k then x else l.getD u (0, 0) := by
  by_cases e : u = k
  · subst e; rw [if_pos rfl]; simp [List.getD, List.getElem?_set_self hk]
  · rw [if_neg e, List.getD, List.getElem?_set_ne (fun z => e z.symm)]; rfl
/-- What is behind a step's access, ahead of its end. -/
def Mid (kn : Int) (st : St) (ol : List Int) (q : Nat) (st' : St) (ol' : List Int) : Prop :=
  st'.seats = st.seats ∧ (∀ u, u ≠ q → st'.pls.getD u (0, 0) = st.pls.getD u (0, 0) ∧ ol'.getD u 0 = ol.getD u 0) ∧ ((st'.pls.getD q (0, 0)).2 ≠ 0 → ol'.getD q 0 = (st'.pls.getD q (0, 0)).1 % kn)
theorem Mid.same {st : St} {ol : List Int} (h : Rel kn st ol) (q : Nat) {st' : St} (hs : st'.seats = st.seats) (hp : st'.pls = st.pls) : Mid kn st ol q st' ol := by
  refine ⟨hs, fun u hu => ⟨by rw [hp], rfl⟩, fun e => ?_⟩
  rw [hp] at e ⊢
  exact h q e
theorem Mid.set {st : St} {ol : List Int} {q : Nat} (hq : q < st.pls.length) {st' : St} (a b : Int) (hs : st'.seats = st.seats) (hp : st'.pls = st.pls.set q (a, b)) (h2 : b ≠ 0 → ol.getD q 0 = a % kn) : Mid kn st ol q st' ol := by
  refine ⟨hs, fun u hu => ⟨by rw [hp, p2set _ _ hq, if_neg hu], rfl⟩, fun e => ?_⟩
  rw [hp, p2set _ _ hq, if_pos rfl] at e ⊢
  exact h2 e
theorem Mid.setO {st : St} {ol : List Int} {q : Nat} (hq : q < st.pls.length) (hl : q < ol.length) {st' : St} (a b : Int) (hs : st'.seats = st.seats) (hp : st'.pls = st.pls.set q (a, b)) : Mid kn st ol q st' (ol.set q (a % kn)) := by
  refine ⟨hs, fun u hu => ⟨by rw [hp, p2set _ _ hq, if_neg hu], by rw [is_set _ _ _ _ hl, if_neg hu]⟩, fun _ => ?_⟩
  rw [hp, p2set _ _ hq, if_pos rfl, is_set _ _ _ _ hl, if_pos rfl]
/-- The next slot, by the document and by the program. -/
theorem next_slot (a kn : Int) (h : kn = 1 ∨ kn = 2 ∨ kn = 4 ∨ kn = 8 ∨ kn = 16 ∨ kn = 32 ∨ kn = 64) : (a % 4294967296 + 1) % 4294967296 % kn = (a % kn + 1) % kn := by
  rcases h with rfl | rfl | rfl | rfl | rfl | rfl | rfl <;> omega
end Go.Proofs.Ytamchnaifmoklaa.Ref11
