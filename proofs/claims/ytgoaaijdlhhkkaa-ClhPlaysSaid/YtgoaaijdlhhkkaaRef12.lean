/- The document's lock of Craig, Landin and Hagersten: its objects. -/
import Derived.Test.YtgoaaijdlhhkkaaModl
import Derived.Test.YtgoaaijdlhhkkaaClhP
namespace Go.Proofs.Ytgoaaijdlhhkkaa.Ref12
open Go Go.RowKit Go.Proofs.Ytgoaaijdlhhkkaa.Heap Go.Proofs.Ytgoaaijdlhhkkaa.Open Go.Proofs.Ytgoaaijdlhhkkaa.Seat Go.Proofs.Ytgoaaijdlhhkkaa.Mach Go.Proofs.Ytgoaaijdlhhkkaa.Has Go.Proofs.Ytgoaaijdlhhkkaa.Ref09 Go.Proofs.Ytgoaaijdlhhkkaa.Modl Go.Proofs.Ytgoaaijdlhhkkaa.SeatP Go.Proofs.Ytgoaaijdlhhkkaa.StepU Go.Proofs.Ytgoaaijdlhhkkaa.Clh

theorem ii_get {l : List Int} {t : Nat} (h : t < l.length) : (ints .i64 l)[t]? = some (.int .i64 (l.getD t 0)) := by simp [ints, List.getD, h]
theorem ii_set (l : List Int) (t : Nat) (v : Int) : (ints .i64 l).set t (.int .i64 v) = ints .i64 (l.set t v) := by simp [ints, List.map_set]
theorem is_set (l : List Int) (t u : Nat) (v : Int) (h : t < l.length) : (l.set t v).getD u 0 = if u = t then v else l.getD u 0 := by
  by_cases e : u = t
  · subst e; rw [if_pos rfl]; simp [List.getD, List.getElem?_set_self h]
  · rw [if_neg e, List.getD, List.getElem?_set_ne (fun z => e z.symm)]; rfl
/-- Numbers of 32 bits. -/
def W32 (l : List Int) : Prop := ∀ t : Nat, 0 ≤ l.getD t 0 ∧ l.getD t 0 < 4294967296
theorem W32.set {l : List Int} (h : W32 l) (t : Nat) (v : Int) (h0 : 0 ≤ v ∧ v < 4294967296) : W32 (l.set t v) := fun u => by
  by_cases ht : t < l.length
  · rw [is_set _ _ _ _ ht]; split
    · exact h0
    · exact h u
  · rw [List.set_eq_of_length_le (by omega)]; exact h u
/-- The document's lock: its block, its seats' three, steps, nodes, those ahead. -/
structure MAt (x sx sb db pc nb cn ab : Nat) (w : World) (sl : List (Int × Int)) (pcl nl al : List Int) : Prop where
  top : Row w x [.pointer (some ⟨sx, 0, none⟩), .int .i64 0, .slice (some ⟨pc, 0, none⟩) sl.length sl.length, .slice (some ⟨nb, 0, none⟩) sl.length cn, .slice (some ⟨ab, 0, none⟩) sl.length sl.length]
  seat : RAt w sx sb db sl false true
  prow : Row w pc (ints .i64 pcl)
  nrow : RowP w nb (ints .i64 nl)
  arow : Row w ab (ints .i64 al)
  l1 : pcl.length = sl.length
  l2 : nl.length = sl.length
  l3 : al.length = sl.length
  e1 : x ≠ sx ∧ x ≠ sb ∧ x ≠ db ∧ x ≠ pc ∧ x ≠ nb ∧ x ≠ ab
  e2 : pc ≠ sx ∧ pc ≠ sb ∧ pc ≠ db ∧ pc ≠ nb ∧ pc ≠ ab
  e3 : nb ≠ sx ∧ nb ≠ sb ∧ nb ≠ db ∧ nb ≠ ab
  e4 : ab ≠ sx ∧ ab ≠ sb ∧ ab ≠ db
  wd : W32 al
def fm (x sx sb db pc nb ab : Nat) : Nat → Prop := fun i => i = x ∨ i = sx ∨ i = sb ∨ i = db ∨ i = pc ∨ i = nb ∨ i = ab
variable {x sx sb db pc nb cn ab : Nat}
theorem MAt.keep {w w' : World} {sl : List (Int × Int)} {pcl nl al : List Int} {T : Nat → Prop} (h : MAt x sx sb db pc nb cn ab w sl pcl nl al) (hu : Upd T w w') (hd : ∀ i, fm x sx sb db pc nb ab i → ¬ T i) : MAt x sx sb db pc nb cn ab w' sl pcl nl al :=
  ⟨h.top.upd hu (hd _ (by simp [fm])), h.seat.upd hu (hd _ (by simp [fm])) (hd _ (by simp [fm])) (hd _ (by simp [fm])), h.prow.upd hu (hd _ (by simp [fm])), h.nrow.upd hu (hd _ (by simp [fm])), h.arow.upd hu (hd _ (by simp [fm])), h.l1, h.l2, h.l3, h.e1, h.e2, h.e3, h.e4, h.wd⟩
theorem MAt.lt {w : World} {sl : List (Int × Int)} {pcl nl al : List Int} (h : MAt x sx sb db pc nb cn ab w sl pcl nl al) : ∀ i, fm x sx sb db pc nb ab i → i < w.heap.size := by
  intro i hi
  obtain ⟨cs, cd, ht⟩ := h.seat.top
  rcases hi with rfl | rfl | rfl | rfl | rfl | rfl | rfl
  · exact h.top.lt
  · exact ht.lt
  · exact h.seat.st.lt
  · exact h.seat.dl.lt
  · exact h.prow.lt
  · exact h.nrow.lt
  · exact h.arow.lt
theorem MAt.seats {w w' : World} {sl sl' : List (Int × Int)} {pcl nl al : List Int} (h : MAt x sx sb db pc nb cn ab w sl pcl nl al) (hl : sl'.length = sl.length) (hs : RAt w' sx sb db sl' false true) (hu : Upd (fun i => i = sb ∨ i = db) w w') : MAt x sx sb db pc nb cn ab w' sl' pcl nl al :=
  ⟨by rw [hl]; exact h.top.upd hu (fun e => by rcases e with e | e; exact h.e1.2.1 e; exact h.e1.2.2.1 e), hs, h.prow.upd hu (fun e => by rcases e with e | e; exact h.e2.2.1 e; exact h.e2.2.2.1 e), h.nrow.upd hu (fun e => by rcases e with e | e; exact h.e3.2.1 e; exact h.e3.2.2.1 e), h.arow.upd hu (fun e => by rcases e with e | e; exact h.e4.2.1 e; exact h.e4.2.2 e), by rw [hl]; exact h.l1, by rw [hl]; exact h.l2, by rw [hl]; exact h.l3, h.e1, h.e2, h.e3, h.e4, h.wd⟩
theorem MAt.setPc {w : World} {sl : List (Int × Int)} {pcl nl al : List Int} (h : MAt x sx sb db pc nb cn ab w sl pcl nl al) (t : Nat) (v : Int) : MAt x sx sb db pc nb cn ab (w.setCell ⟨pc, t, none⟩ (.int .i64 v)) sl (pcl.set t v) nl al := by
  have hu := Upd.one w pc t (.int .i64 v)
  exact ⟨h.top.upd hu h.e1.2.2.2.1, h.seat.upd hu (fun e => h.e2.1 e.symm) (fun e => h.e2.2.1 e.symm) (fun e => h.e2.2.2.1 e.symm), by rw [← ii_set]; exact h.prow.set _ _, h.nrow.upd hu (fun e => h.e2.2.2.2.1 e.symm), h.arow.upd hu (fun e => h.e2.2.2.2.2 e.symm), by simpa using h.l1, h.l2, h.l3, h.e1, h.e2, h.e3, h.e4, h.wd⟩
theorem MAt.setNd {w : World} {sl : List (Int × Int)} {pcl nl al : List Int} (h : MAt x sx sb db pc nb cn ab w sl pcl nl al) (t : Nat) (ht : t < sl.length) (v : Int) : MAt x sx sb db pc nb cn ab (w.setCell ⟨nb, t, none⟩ (.int .i64 v)) sl pcl (nl.set t v) al := by
  have hu := Upd.one w nb t (.int .i64 v)
  exact ⟨h.top.upd hu h.e1.2.2.2.2.1, h.seat.upd hu (fun e => h.e3.1 e.symm) (fun e => h.e3.2.1 e.symm) (fun e => h.e3.2.2.1 e.symm), h.prow.upd hu h.e2.2.2.2.1, by rw [← ii_set]; exact h.nrow.set _ (by simp [ints]; rw [h.l2]; exact ht) _, h.arow.upd hu (fun e => h.e3.2.2.2 e.symm), h.l1, by simpa using h.l2, h.l3, h.e1, h.e2, h.e3, h.e4, h.wd⟩
theorem MAt.setAh {w : World} {sl : List (Int × Int)} {pcl nl al : List Int} (h : MAt x sx sb db pc nb cn ab w sl pcl nl al) (t : Nat) (v : Int) (h0 : 0 ≤ v ∧ v < 4294967296) : MAt x sx sb db pc nb cn ab (w.setCell ⟨ab, t, none⟩ (.int .i64 v)) sl pcl nl (al.set t v) := by
  have hu := Upd.one w ab t (.int .i64 v)
  exact ⟨h.top.upd hu h.e1.2.2.2.2.2, h.seat.upd hu (fun e => h.e4.1 e.symm) (fun e => h.e4.2.1 e.symm) (fun e => h.e4.2.2 e.symm), h.prow.upd hu h.e2.2.2.2.2, h.nrow.upd hu h.e3.2.2.2, by rw [← ii_set]; exact h.arow.set _ _, h.l1, h.l2, by simpa using h.l3, h.e1, h.e2, h.e3, h.e4, h.wd.set t v h0⟩
/-- What the document has of a place; who holds the lock has made all its steps. -/
def Rel (st : St) (al : List Int) : Prop := ∀ t : Nat, ClhP.sp st t = 2 → al.getD t 0 = ClhP.ah st t
def Held (st : St) : Prop := ∀ t : Nat, (stt st.seats t = 2 ∨ stt st.seats t = 3 ∨ stt st.seats t = 4) → ClhP.sp st t = 2
def pcl (st : St) : List Int := st.pls.map (·.2.2)
def ndl (st : St) : List Int := st.pls.map (·.1)
theorem pcl_get (st : St) (t : Nat) : (pcl st).getD t 0 = ClhP.sp st t := by
  unfold pcl ClhP.sp
  simp only [List.getD, List.getElem?_map]
  cases st.pls[t]? <;> rfl
theorem ndl_get (st : St) (t : Nat) : (ndl st).getD t 0 = ClhP.nd st t := by
  unfold ndl ClhP.nd
  simp only [List.getD, List.getElem?_map]
  cases st.pls[t]? <;> rfl
/-- What is behind a step's access, ahead of its end. -/
def Mid (st : St) (al : List Int) (q : Nat) (st' : St) (al' : List Int) : Prop :=
  st'.seats = st.seats ∧ (∀ u, u ≠ q → st'.pls.getD u (0, 0, 0) = st.pls.getD u (0, 0, 0) ∧ al'.getD u 0 = al.getD u 0) ∧ ((st'.pls.getD q (0, 0, 0)).2.2 = 2 → al'.getD q 0 = (st'.pls.getD q (0, 0, 0)).2.1)
theorem Mid.same {st : St} {al : List Int} (h : Rel st al) (q : Nat) {st' : St} (hs : st'.seats = st.seats) (hp : st'.pls = st.pls) : Mid st al q st' al := by
  refine ⟨hs, fun u hu => ⟨by rw [hp], rfl⟩, fun e => ?_⟩
  rw [hp] at e ⊢
  exact h q e
theorem Mid.set {st : St} {al : List Int} {q : Nat} (hq : q < st.pls.length) {st' : St} (a b c : Int) (hs : st'.seats = st.seats) (hp : st'.pls = st.pls.set q (a, b, c)) (h2 : c = 2 → al.getD q 0 = b) : Mid st al q st' al := by
  refine ⟨hs, fun u hu => ⟨by rw [hp, ClhP.pset _ _ hq, if_neg hu], rfl⟩, fun e => ?_⟩
  rw [hp, ClhP.pset _ _ hq, if_pos rfl] at e ⊢
  exact h2 e
theorem Mid.setA {st : St} {al : List Int} {q : Nat} (hq : q < st.pls.length) (hl : q < al.length) {st' : St} (a b c : Int) (hs : st'.seats = st.seats) (hp : st'.pls = st.pls.set q (a, b, c)) : Mid st al q st' (al.set q b) := by
  refine ⟨hs, fun u hu => ⟨by rw [hp, ClhP.pset _ _ hq, if_neg hu], by rw [is_set _ _ _ _ hl, if_neg hu]⟩, fun _ => ?_⟩
  rw [hp, ClhP.pset _ _ hq, if_pos rfl, is_set _ _ _ _ hl, if_pos rfl]
theorem pcl_set (st : St) (q : Nat) (a b c : Int) (ws : List Int) (ts : List T) : pcl ⟨st.seats, st.pls.set q (a, b, c), ws, ts⟩ = (pcl st).set q c := by simp [pcl, List.map_set]
theorem ndl_set (st : St) (q : Nat) (a b c : Int) (ws : List Int) (ts : List T) : ndl ⟨st.seats, st.pls.set q (a, b, c), ws, ts⟩ = (ndl st).set q a := by simp [ndl, List.map_set]
theorem ndl_same (st : St) (q : Nat) (b c : Int) (ws : List Int) (ts : List T) (hq : q < st.pls.length) : ndl ⟨st.seats, st.pls.set q ((st.pls.getD q (0, 0, 0)).1, b, c), ws, ts⟩ = ndl st := by
  rw [ndl_set]
  have e : (st.pls.getD q (0, 0, 0)).1 = (ndl st)[q]'(by unfold ndl; simpa using hq) := by
    have := ndl_get st q
    rw [getD_lt _ _ _ (by unfold ndl; simpa using hq)] at this
    exact this.symm
  rw [e, List.set_getElem_self]
end Go.Proofs.Ytgoaaijdlhhkkaa.Ref12
