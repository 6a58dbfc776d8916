/- The document's lock of Mellor-Crummey and Scott: its objects. -/
import Derived.Test.YtemcpnickdcekaaModl
import Derived.Test.YtemcpnickdcekaaMcsP
namespace Go.Proofs.Ytemcpnickdcekaa.Ref13
open Go Go.RowKit Go.Proofs.Ytemcpnickdcekaa.Heap Go.Proofs.Ytemcpnickdcekaa.Open Go.Proofs.Ytemcpnickdcekaa.Seat Go.Proofs.Ytemcpnickdcekaa.Mach Go.Proofs.Ytemcpnickdcekaa.Has Go.Proofs.Ytemcpnickdcekaa.Ref09 Go.Proofs.Ytemcpnickdcekaa.Modl Go.Proofs.Ytemcpnickdcekaa.SeatP Go.Proofs.Ytemcpnickdcekaa.StepU Go.Proofs.Ytemcpnickdcekaa.Mcs

theorem ii_get {l : List Int} {t : Nat} (h : t < l.length) : (ints .i64 l)[t]? = some (.int .i64 (l.getD t 0)) := by simp [ints, List.getD, h]
theorem ii_set (l : List Int) (t : Nat) (v : Int) : (ints .i64 l).set t (.int .i64 v) = ints .i64 (l.set t v) := by simp [ints, List.map_set]
theorem is_set (l : List Int) (t u : Nat) (v : Int) (h : t < l.length) : (l.set t v).getD u 0 = if u = t then v else l.getD u 0 := by
  by_cases e : u = t
  · subst e; rw [if_pos rfl]; simp [List.getD, List.getElem?_set_self h]
  · rw [if_neg e, List.getD, List.getElem?_set_ne (fun z => e z.symm)]; rfl
/-- Numbers of 32 bits. -/
def W32 (l : List Int) : Prop := ∀ t : Nat, 0 ≤ l.getD t 0 ∧ l.getD t 0 < 4294967296
theorem W32.set {l : List Int} (h : W32 l) (t : Nat) (v : Int) (h0 : 0 ≤ v ∧ v < 4294967296) : W32 (l.set t v) := fun u => by
  by_cases ht : t < l.length
  · rw [is_set _ _ _ _ ht]; split
    · exact h0
    · exact h u
  · rw [List.set_eq_of_length_le (by omega)]; exact h u
/-- The document's lock: its block, its seats' three, steps, others. -/
structure MAt (x sx sb db pc ob : Nat) (w : World) (sl : List (Int × Int)) (pcl ol : List Int) : Prop where
  top : Row w x [.pointer (some ⟨sx, 0, none⟩), .int .i64 0, .slice (some ⟨pc, 0, none⟩) sl.length sl.length, .slice (some ⟨ob, 0, none⟩) sl.length sl.length]
  seat : RAt w sx sb db sl false true
  prow : Row w pc (ints .i64 pcl)
  orow : Row w ob (ints .i64 ol)
  l1 : pcl.length = sl.length
  l2 : ol.length = sl.length
  e1 : x ≠ sx ∧ x ≠ sb ∧ x ≠ db ∧ x ≠ pc ∧ x ≠ ob
  e2 : pc ≠ sx ∧ pc ≠ sb ∧ pc ≠ db ∧ pc ≠ ob
  e3 : ob ≠ sx ∧ ob ≠ sb ∧ ob ≠ db
  wd : W32 ol
def fm (x sx sb db pc ob : Nat) : Nat → Prop := fun i => i = x ∨ i = sx ∨ i = sb ∨ i = db ∨ i = pc ∨ i = ob
variable {x sx sb db pc ob : Nat}
theorem MAt.keep {w w' : World} {sl : List (Int × Int)} {pcl ol : List Int} {T : Nat → Prop} (h : MAt x sx sb db pc ob w sl pcl ol) (hu : Upd T w w') (hd : ∀ i, fm x sx sb db pc ob i → ¬ T i) : MAt x sx sb db pc ob w' sl pcl ol :=
  ⟨h.top.upd hu (hd _ (by simp [fm])), h.seat.upd hu (hd _ (by simp [fm])) (hd _ (by simp [fm])) (hd _ (by simp [fm])), h.prow.upd hu (hd _ (by simp [fm])), h.orow.upd hu (hd _ (by simp [fm])), h.l1, h.l2, h.e1, h.e2, h.e3, h.wd⟩
theorem MAt.lt {w : World} {sl : List (Int × Int)} {pcl ol : List Int} (h : MAt x sx sb db pc ob w sl pcl ol) : ∀ i, fm x sx sb db pc ob i → i < w.heap.size := by
  intro i hi
  obtain ⟨cs, cd, ht⟩ := h.seat.top
  rcases hi with rfl | rfl | rfl | rfl | rfl | rfl
  · exact h.top.lt
  · exact ht.lt
  · exact h.seat.st.lt
  · exact h.seat.dl.lt
  · exact h.prow.lt
  · exact h.orow.lt
theorem MAt.seats {w w' : World} {sl sl' : List (Int × Int)} {pcl ol : List Int} (h : MAt x sx sb db pc ob w sl pcl ol) (hl : sl'.length = sl.length) (hs : RAt w' sx sb db sl' false true) (hu : Upd (fun i => i = sb ∨ i = db) w w') : MAt x sx sb db pc ob w' sl' pcl ol :=
  ⟨by rw [hl]; exact h.top.upd hu (fun e => by rcases e with e | e; exact h.e1.2.1 e; exact h.e1.2.2.1 e), hs, h.prow.upd hu (fun e => by rcases e with e | e; exact h.e2.2.1 e; exact h.e2.2.2.1 e), h.orow.upd hu (fun e => by rcases e with e | e; exact h.e3.2.1 e; exact h.e3.2.2 e), by rw [hl]; exact h.l1, by rw [hl]; exact h.l2, h.e1, h.e2, h.e3, h.wd⟩
theorem MAt.setPc {w : World} {sl : List (Int × Int)} {pcl ol : List Int} (h : MAt x sx sb db pc ob w sl pcl ol) (t : Nat) (v : Int) : MAt x sx sb db pc ob (w.setCell ⟨pc, t, none⟩ (.int .i64 v)) sl (pcl.set t v) ol := by
  have hu := Upd.one w pc t (.int .i64 v)
  exact ⟨h.top.upd hu h.e1.2.2.2.1, h.seat.upd hu (fun e => h.e2.1 e.symm) (fun e => h.e2.2.1 e.symm) (fun e => h.e2.2.2.1 e.symm), by rw [← ii_set]; exact h.prow.set _ _, h.orow.upd hu (fun e => h.e2.2.2.2 e.symm), by simpa using h.l1, h.l2, h.e1, h.e2, h.e3, h.wd⟩
theorem MAt.setOt {w : World} {sl : List (Int × Int)} {pcl ol : List Int} (h : MAt x sx sb db pc ob w sl pcl ol) (t : Nat) (v : Int) (h0 : 0 ≤ v ∧ v < 4294967296) : MAt x sx sb db pc ob (w.setCell ⟨ob, t, none⟩ (.int .i64 v)) sl pcl (ol.set t v) := by
  have hu := Upd.one w ob t (.int .i64 v)
  exact ⟨h.top.upd hu h.e1.2.2.2.2, h.seat.upd hu (fun e => h.e3.1 e.symm) (fun e => h.e3.2.1 e.symm) (fun e => h.e3.2.2 e.symm), h.prow.upd hu h.e2.2.2.2, by rw [← ii_set]; exact h.orow.set _ _, h.l1, by simpa using h.l2, h.e1, h.e2, h.e3, h.wd.set t v h0⟩
/-- What the document has of a place. -/
def Rel (st : St) (ol : List Int) : Prop := ∀ t : Nat, ((stt st.seats t = 1 ∧ 2 ≤ McsP.sp st t) ∨ (stt st.seats t = 3 ∧ McsP.sp st t = 3)) → ol.getD t 0 = McsP.ot st t
def pcl (st : St) : List Int := st.pls.map (·.1)
theorem pcl_get (st : St) (t : Nat) : (pcl st).getD t 0 = McsP.sp st t := by
  unfold pcl McsP.sp
  simp only [List.getD, List.getElem?_map]
  cases st.pls[t]? <;> rfl
theorem pcl_of (a : List P2) (l : List Int) (hl : a.length = l.length) (h : ∀ u, (a.getD u (0, 0)).1 = l.getD u 0) : a.map (·.1) = l := by
  apply List.ext_getElem
  · simpa using hl
  · intro i h1 h2
    have := h i
    rw [getD_lt _ _ _ (by simpa using h1), getD_lt _ _ _ h2] at this
    simpa using this
/-- What is behind a step's access, ahead of its end. -/
def Mid (st : St) (ol : List Int) (q : Nat) (z : Int) (d : Did) (st' : St) (pv : Int) (ol' : List Int) : Prop :=
  st'.seats = st.seats ∧ st'.pls.length = st.pls.length ∧ (∀ u, u ≠ q → st'.pls.getD u (0, 0) = st.pls.getD u (0, 0) ∧ ol'.getD u 0 = ol.getD u 0) ∧ ((fin st.seats (q : Int) d.1).1 = false → (st'.pls.getD q (0, 0)).1 = pv ∧ (((z = 1 ∧ 2 ≤ pv) ∨ (z = 3 ∧ pv = 3)) → ol'.getD q 0 = (st'.pls.getD q (0, 0)).2))
theorem Mid.set {st : St} {ol : List Int} {q : Nat} (hq : q < st.pls.length) {z : Int} {d : Did} {st' : St} {pv : Int} (a b : Int) (hs : st'.seats = st.seats) (hp : st'.pls = st.pls.set q (a, b)) (hpv : pv = a) (ho : ((z = 1 ∧ 2 ≤ pv) ∨ (z = 3 ∧ pv = 3)) → ol.getD q 0 = b) : Mid st ol q z d st' pv ol := by
  subst hpv
  refine ⟨hs, by rw [hp]; simp, fun u hu => ⟨by rw [hp, McsP.pset _ _ hq, if_neg hu], rfl⟩, fun _ => ?_⟩
  rw [hp, McsP.pset _ _ hq, if_pos rfl]
  exact ⟨rfl, ho⟩
theorem Mid.setO {st : St} {ol : List Int} {q : Nat} (hq : q < st.pls.length) (hl : q < ol.length) {z : Int} {d : Did} {st' : St} {pv : Int} (a b : Int) (hs : st'.seats = st.seats) (hp : st'.pls = st.pls.set q (a, b)) (hpv : pv = a) : Mid st ol q z d st' pv (ol.set q b) := by
  subst hpv
  refine ⟨hs, by rw [hp]; simp, fun u hu => ⟨by rw [hp, McsP.pset _ _ hq, if_neg hu], by rw [is_set _ _ _ _ hl, if_neg hu]⟩, fun _ => ?_⟩
  rw [hp, McsP.pset _ _ hq, if_pos rfl]
  exact ⟨rfl, fun _ => by rw [is_set _ _ _ _ hl, if_pos rfl]⟩
/-- An end, or a place that stays. -/
theorem Mid.stay {st : St} {ol : List Int} {q : Nat} {z : Int} {d : Did} {st' : St} {pv : Int} (hs : st'.seats = st.seats) (hp : st'.pls = st.pls) (h : (fin st.seats (q : Int) d.1).1 = false → (st.pls.getD q (0, 0)).1 = pv ∧ (((z = 1 ∧ 2 ≤ pv) ∨ (z = 3 ∧ pv = 3)) → ol.getD q 0 = (st.pls.getD q (0, 0)).2)) : Mid st ol q z d st' pv ol := by
  refine ⟨hs, by rw [hp], fun u hu => ⟨by rw [hp], rfl⟩, fun e => ?_⟩
  rw [hp]; exact h e
theorem fin_yes {l : List (Int × Int)} {q : Nat} {ev z : Int} (hz : state l (q : Int) = z) (h : 0 ≤ Seat.next z ev) : (fin l (q : Int) ev).1 = true := by
  unfold fin; rw [hz, if_neg (by omega)]
end Go.Proofs.Ytemcpnickdcekaa.Ref13
