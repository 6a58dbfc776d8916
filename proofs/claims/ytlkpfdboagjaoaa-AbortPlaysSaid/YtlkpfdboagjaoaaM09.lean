/- The document's seats (reference of layer 9): what each function does to them. -/
import Derived.Test.YtlkpfdboagjaoaaSeat
import Derived.Test.YtlkpfdboagjaoaaVec
import Derived.Deep.QuietTactic
import Derived.BigRegion
namespace Go.Proofs.Ytlkpfdboagjaoaa.Ref09
open Go Go.RowKit Go.Proofs.Ytlkpfdboagjaoaa.Heap Go.Proofs.Ytlkpfdboagjaoaa.Seat

def sts (l : List (Int × Int)) : List Value := l.map fun p => .int .i64 p.1
def dls (l : List (Int × Int)) : List Value := l.map fun p => .int .i64 p.2

/-- The document's seats: their block, that of the states, that of the deadlines. -/
structure RAt (w : World) (x sb db : Nat) (l : List (Int × Int)) (td pd : Bool) : Prop where
  top : ∃ cs cd, Row w x [.slice (some ⟨sb, 0, none⟩) l.length cs, .slice (some ⟨db, 0, none⟩) l.length cd, .bool td, .bool pd]
  st : RowP w sb (sts l)
  dl : RowP w db (dls l)
  ne1 : x ≠ sb
  ne2 : x ≠ db
  ne3 : sb ≠ db

theorem RAt.upd {S : Nat → Prop} {w w' : World} {x sb db : Nat} {l : List (Int × Int)} {td pd : Bool} (h : RAt w x sb db l td pd) (hu : Upd S w w') (h1 : ¬ S x) (h2 : ¬ S sb) (h3 : ¬ S db) : RAt w' x sb db l td pd := by
  obtain ⟨cs, cd, ht⟩ := h.top
  exact ⟨⟨cs, cd, ht.upd hu h1⟩, h.st.upd hu h2, h.dl.upd hu h3, h.ne1, h.ne2, h.ne3⟩
theorem RAt.alloc {w : World} {x sb db : Nat} {l : List (Int × Int)} {td pd : Bool} (h : RAt w x sb db l td pd) (o : Obj) : RAt (w.alloc o) x sb db l td pd := by
  obtain ⟨cs, cd, ht⟩ := h.top
  exact ⟨⟨cs, cd, ht.alloc o⟩, h.st.alloc o, h.dl.alloc o, h.ne1, h.ne2, h.ne3⟩
theorem RAt.drew {w : World} {x sb db : Nat} {l : List (Int × Int)} {td pd : Bool} (h : RAt w x sb db l td pd) : RAt w.drew x sb db l td pd := ⟨h.top, h.st, h.dl, h.ne1, h.ne2, h.ne3⟩
theorem RAt.drewN {w : World} {x sb db : Nat} {l : List (Int × Int)} {td pd : Bool} (h : RAt w x sb db l td pd) (n : Nat) : RAt (w.drewN n) x sb db l td pd := ⟨h.top, h.st, h.dl, h.ne1, h.ne2, h.ne3⟩
theorem sts_get {l : List (Int × Int)} {k : Nat} (h : k < l.length) : (sts l)[k]? = some (.int .i64 (l.getD k (0, -1)).1) := by simp [sts, List.getD, h]
theorem dls_get {l : List (Int × Int)} {k : Nat} (h : k < l.length) : (dls l)[k]? = some (.int .i64 (l.getD k (0, -1)).2) := by simp [dls, List.getD, h]
theorem sts_set (l : List (Int × Int)) (k : Nat) (a b : Int) : sts (l.set k (a, b)) = (sts l).set k (.int .i64 a) := by simp [sts, List.map_set]
theorem dls_set (l : List (Int × Int)) (k : Nat) (a b : Int) : dls (l.set k (a, b)) = (dls l).set k (.int .i64 b) := by simp [dls, List.map_set]
theorem RAt.setBoth {w : World} {x sb db : Nat} {l : List (Int × Int)} {td pd : Bool} (h : RAt w x sb db l td pd) (k : Nat) (hk : k < l.length) (a b : Int) :
    RAt ((w.setCell ⟨sb, k, none⟩ (.int .i64 a)).setCell ⟨db, k, none⟩ (.int .i64 b)) x sb db (l.set k (a, b)) td pd := by
  obtain ⟨cs, cd, ht⟩ := h.top
  refine ⟨⟨cs, cd, by simpa using (ht.set_ne h.ne1 _ _).set_ne h.ne2 _ _⟩, ?_, ?_, h.ne1, h.ne2, h.ne3⟩
  · rw [sts_set]; exact (h.st.set k (by simpa [sts] using hk) _).set_ne h.ne3 _ _
  · rw [dls_set]; exact (h.dl.set_ne h.ne3.symm _ _).set k (by simpa [dls] using hk) _
theorem RAt.setSt {w : World} {x sb db : Nat} {l : List (Int × Int)} {td pd : Bool} (h : RAt w x sb db l td pd) (k : Nat) (hk : k < l.length) (a : Int) :
    RAt (w.setCell ⟨sb, k, none⟩ (.int .i64 a)) x sb db (l.set k (a, (l.getD k (0, -1)).2)) td pd := by
  obtain ⟨cs, cd, ht⟩ := h.top
  refine ⟨⟨cs, cd, by simpa using ht.set_ne h.ne1 _ _⟩, ?_, ?_, h.ne1, h.ne2, h.ne3⟩
  · rw [sts_set]; exact h.st.set k (by simpa [sts] using hk) _
  · have e : dls (l.set k (a, (l.getD k (0, -1)).2)) = dls l := by
      rw [dls_set]
      apply List.ext_getElem?
      intro j
      by_cases e : k = j
      · subst e; rw [List.getElem?_set_self (by simpa [dls] using hk), dls_get hk]
      · rw [List.getElem?_set_ne e]
    rw [e]; exact h.dl.set_ne h.ne3.symm _ _

/-- The number of the error is that of the program's own Lock. -/
theorem rlock_no (w : World) (x sb db : Nat) (l : List (Int × Int)) (td pd : Bool) (h : RAt w x sb db l td pd) (t d : Int) (hn : inB t l.length = false ∨ d < -1 ∨ (0 ≤ d ∧ td = false)) :
    Calls Try.prog 63 #[.pointer (some ⟨x, 0, none⟩), .int .i64 t, .int .i64 d] w fun e w' => e = .returned (.int .i64 1) ∧ w = w' := by
  obtain ⟨cs, cd, ht⟩ := h.top
  have h0 := ht.cell (i := 0) rfl
  have h2 := ht.cell (i := 2) rfl
  clear h ht
  by_cases c1 : t < 0
  · go_enter Try.func63, Try.ntmps63
    go_wp2
    all_goals (go_ret; exact ⟨rfl, rfl⟩)
  by_cases c2 : (l.length : Int) ≤ t
  · go_enter Try.func63, Try.ntmps63
    go_wp2
    all_goals (go_ret; exact ⟨rfl, rfl⟩)
  have hin : inB t l.length = true := by simp [inB]; omega
  rw [hin] at hn
  have c1' : 0 ≤ t := by omega
  have c2' : t < (l.length : Int) := by omega
  clear hin c1 c2
  by_cases c3 : d < -1
  · clear hn
    go_enter Try.func63, Try.ntmps63
    go_wp2
    all_goals (go_ret; exact ⟨rfl, rfl⟩)
  have c4 : 0 ≤ d ∧ td = false := by
    rcases hn with e | e | e
    · exact Bool.noConfusion e
    · exact absurd e c3
    · exact e
  obtain ⟨c4, rfl⟩ := c4
  have c5 : -1 < d := by omega
  clear hn c3
  go_enter Try.func63, Try.ntmps63
  go_wp2
  all_goals (go_ret; exact ⟨rfl, rfl⟩)

set_option maxHeartbeats 2000000 in
theorem rlock_yes (w : World) (x sb db : Nat) (l : List (Int × Int)) (td pd : Bool) (h : RAt w x sb db l td pd) (k : Nat) (hk : k < l.length) (d : Int) (hd : -1 ≤ d) (htd : 0 ≤ d → td = true) :
    Calls Try.prog 63 #[.pointer (some ⟨x, 0, none⟩), .int .i64 k, .int .i64 d] w fun e w' =>
      e = .returned (.int .i64 (if (l.getD k (0, -1)).1 = 0 then 0 else 2)) ∧ RAt w' x sb db (if (l.getD k (0, -1)).1 = 0 then l.set k (1, d) else l) td pd ∧ Upd (fun i => i = sb ∨ i = db) w w' := by
  obtain ⟨cs, cd, ht⟩ := h.top
  have h0 := ht.cell (i := 0) rfl
  have h1 := ht.cell (i := 1) rfl
  have h2 := ht.cell (i := 2) rfl
  have h3 := h.st.cell (sts_get hk)
  have h4 := h.dl.cell (dls_get hk)
  have f3 := h.st.frozen k
  have f4 := h.dl.frozen k
  have n1 := h.ne1
  have n2 := h.ne2
  have n3 := h.ne3
  obtain ⟨a, ha⟩ : ∃ a, (l.getD k (0, -1)).1 = a := ⟨_, rfl⟩
  obtain ⟨b, hb⟩ : ∃ b, (l.getD k (0, -1)).2 = b := ⟨_, rfl⟩
  rw [ha] at h3 ⊢
  rw [hb] at h4
  have HB := Lib.hid hb
  have hk' : (k : Int) < l.length := by omega
  clear ha hb ht
  by_cases c : a = 0
  · rw [if_pos c, if_pos c]
    subst c
    have key : (0 ≤ d ∧ td = true) ∨ d = -1 := by
      by_cases z : 0 ≤ d
      · exact .inl ⟨z, htd z⟩
      · exact .inr (by omega)
    clear htd hd
    rcases key with ⟨c1, rfl⟩ | rfl
    · have c2 : -1 < d := by omega
      go_enter Try.func63, Try.ntmps63
      go_wp2
      go_region
      all_goals
        go_wp2
        go_ret
        exact ⟨rfl, (h.setBoth k hk 1 d).drew, (((Upd.refl _ _).setCell (p := ⟨sb, k, none⟩) (.inl (.inl rfl)) _).setCell (p := ⟨db, k, none⟩) (.inl (.inr rfl)) _).drew⟩
    · go_enter Try.func63, Try.ntmps63
      go_wp2
      go_region
      all_goals
        go_wp2
        go_ret
        exact ⟨rfl, (h.setBoth k hk 1 (-1)).drew, (((Upd.refl _ _).setCell (p := ⟨sb, k, none⟩) (.inl (.inl rfl)) _).setCell (p := ⟨db, k, none⟩) (.inl (.inr rfl)) _).drew⟩
  · rw [if_neg c, if_neg c]
    have c' : (a != 0) = true := by simpa using c
    have key : (0 ≤ d ∧ td = true) ∨ d = -1 := by
      by_cases z : 0 ≤ d
      · exact .inl ⟨z, htd z⟩
      · exact .inr (by omega)
    clear htd hd
    rcases key with ⟨c1, rfl⟩ | rfl
    · have c2 : -1 < d := by omega
      go_enter Try.func63, Try.ntmps63
      go_wp2
      all_goals (go_ret; exact ⟨rfl, h, Upd.refl _ _⟩)
    · go_enter Try.func63, Try.ntmps63
      go_wp2
      all_goals (go_ret; exact ⟨rfl, h, Upd.refl _ _⟩)
theorem rlock_all (w : World) (x sb db : Nat) (l : List (Int × Int)) (td pd : Bool) (h : RAt w x sb db l td pd) (t d : Int) :
    Calls Try.prog 63 #[.pointer (some ⟨x, 0, none⟩), .int .i64 t, .int .i64 d] w fun e w' =>
      e = .returned (.int .i64 (lock l td t d).1) ∧ RAt w' x sb db (lock l td t d).2 td pd ∧ Upd (fun i => i = sb ∨ i = db) w w' := by
  by_cases c : inB t l.length = false ∨ d < -1 ∨ (0 ≤ d ∧ td = false)
  · have e : lock l td t d = (1, l) := by
      unfold lock
      rcases c with c | c | c
      · rw [c]; rfl
      · simp only [if_pos c]; split <;> rfl
      · simp only [if_pos c]; split
        · split <;> rfl
        · rfl
    rw [e]
    exact (rlock_no w x sb db l td pd h t d c).mono fun e w' ⟨he, hw⟩ => ⟨he, hw ▸ h, hw ▸ Upd.refl _ _⟩
  · have hin : inB t l.length = true := by
      cases hb : inB t l.length
      · exact absurd (.inl hb) c
      · rfl
    obtain ⟨k, rfl, hk⟩ := inB_nat hin
    have c2 : ¬ d < -1 := fun z => c (.inr (.inl z))
    have c3 : ¬ (0 ≤ d ∧ td = false) := fun z => c (.inr (.inr z))
    have e : lock l td k d = (if (l.getD k (0, -1)).1 = 0 then 0 else 2, if (l.getD k (0, -1)).1 = 0 then l.set k (1, d) else l) := by
      unfold lock
      rw [hin, if_pos rfl, if_neg c2, if_neg c3, Int.toNat_natCast]
      by_cases z : (l.getD k (0, -1)).1 = 0
      · rw [if_neg (fun y => y z), if_pos z, if_pos z]
      · rw [if_pos z, if_neg z, if_neg z]
    rw [e]
    exact rlock_yes w x sb db l td pd h k hk d (by omega) (fun z => by cases td; exact absurd ⟨z, rfl⟩ c3; rfl)

set_option maxHeartbeats 1000000 in
/-- What should hold, of one that there is. -/
theorem rturn_in (w : World) (x sb db : Nat) (l : List (Int × Int)) (td pd : Bool) (h : RAt w x sb db l td pd) (k : Nat) (hk : k < l.length) (st : Int) (hst : st = 3 ∨ (st = 4 ∧ pd = true)) :
    Calls Try.prog 64 #[.pointer (some ⟨x, 0, none⟩), .int .i64 k, .int .i64 st] w fun e w' =>
      e = .returned (.int .i64 (turn l k st).1) ∧ RAt w' x sb db (turn l k st).2 td pd ∧ Upd (fun i => i = sb ∨ i = db) w w' := by
  obtain ⟨cs, cd, ht⟩ := h.top
  have h0 := ht.cell (i := 0) rfl
  have h1 := ht.cell (i := 1) rfl
  have h2 := ht.cell (i := 3) rfl
  have h3 := h.st.cell (sts_get hk)
  have f3 := h.st.frozen k
  have n1 := h.ne1
  have hin := inB_mk hk
  obtain ⟨a, ha⟩ : ∃ a, (l.getD k (0, -1)).1 = a := ⟨_, rfl⟩
  rw [ha] at h3
  have ET := Lib.hid (show turn l k st = (if a = 0 then 3 else if a = 2 then 0 else 2, if a = 2 then l.set k (st, (l.getD k (0, -1)).2) else l) by
    unfold turn holds
    rw [hin, if_pos rfl, Int.toNat_natCast, ha]
    by_cases z : a = 0
    · subst z; rfl
    · by_cases y : a = 2
      · subst y; rfl
      · rw [if_neg z, if_neg y, if_neg y]; rfl)
  have hk' : (k : Int) < l.length := by omega
  clear ha ht hin
  by_cases z : a = 0
  · subst z
    rcases hst with rfl | ⟨rfl, rfl⟩
    all_goals
      go_enter Try.func64, Try.ntmps64
      go_wp2
      all_goals (go_ret; rw [ET.out]; exact ⟨rfl, h, Upd.refl _ _⟩)
  have z' : (a == 0) = false := by simpa using z
  by_cases y : a = 2
  · subst y
    rcases hst with rfl | ⟨rfl, rfl⟩
    all_goals
      go_enter Try.func64, Try.ntmps64
      go_wp2
      all_goals (go_ret; rw [ET.out]; exact ⟨rfl, h.setSt k hk _, Upd.setCell (p := ⟨sb, k, none⟩) (Upd.refl _ _) (.inl (.inl rfl)) _⟩)
  have y' : (a != 2) = true := by simpa using y
  rw [if_neg z, if_neg y, if_neg y] at ET
  rcases hst with rfl | ⟨rfl, rfl⟩
  all_goals
    go_enter Try.func64, Try.ntmps64
    go_wp2
    all_goals (go_ret; rw [ET.out]; exact ⟨rfl, h, Upd.refl _ _⟩)

theorem rturn_no (w : World) (x sb db : Nat) (l : List (Int × Int)) (td pd : Bool) (h : RAt w x sb db l td pd) (t st : Int) (hn : inB t l.length = false ∨ (st = 4 ∧ pd = false)) :
    Calls Try.prog 64 #[.pointer (some ⟨x, 0, none⟩), .int .i64 t, .int .i64 st] w fun e w' => e = .returned (.int .i64 1) ∧ w = w' := by
  obtain ⟨cs, cd, ht⟩ := h.top
  have h0 := ht.cell (i := 0) rfl
  have h2 := ht.cell (i := 3) rfl
  clear h ht
  by_cases c1 : t < 0
  · go_enter Try.func64, Try.ntmps64
    go_wp2
    all_goals (go_ret; exact ⟨rfl, rfl⟩)
  by_cases c2 : (l.length : Int) ≤ t
  · go_enter Try.func64, Try.ntmps64
    go_wp2
    all_goals (go_ret; exact ⟨rfl, rfl⟩)
  have hin : inB t l.length = true := by simp [inB]; omega
  have c1' : 0 ≤ t := by omega
  have c2' : t < (l.length : Int) := by omega
  rcases hn with e | ⟨rfl, rfl⟩
  · rw [hin] at e; exact Bool.noConfusion e
  · clear hin c1 c2
    go_enter Try.func64, Try.ntmps64
    go_wp2
    all_goals (go_ret; exact ⟨rfl, rfl⟩)

theorem turn_out {l : List (Int × Int)} {t st : Int} (h : inB t l.length = false) : turn l t st = (1, l) := by
  unfold turn holds; rw [h]; rfl
theorem rturn3 (w : World) (x sb db : Nat) (l : List (Int × Int)) (td pd : Bool) (h : RAt w x sb db l td pd) (t : Int) :
    Calls Try.prog 64 #[.pointer (some ⟨x, 0, none⟩), .int .i64 t, .int .i64 3] w fun e w' =>
      e = .returned (.int .i64 (turn l t 3).1) ∧ RAt w' x sb db (turn l t 3).2 td pd ∧ Upd (fun i => i = sb ∨ i = db) w w' := by
  cases hn : inB t l.length with
  | false => rw [turn_out hn]; exact (rturn_no w x sb db l td pd h t 3 (.inl hn)).mono fun e w' ⟨he, hw⟩ => ⟨he, hw ▸ h, hw ▸ Upd.refl _ _⟩
  | true => obtain ⟨k, rfl, hk⟩ := inB_nat hn; exact rturn_in w x sb db l td pd h k hk 3 (.inl rfl)
theorem rturn4 (w : World) (x sb db : Nat) (l : List (Int × Int)) (td pd : Bool) (h : RAt w x sb db l td pd) (t : Int) :
    Calls Try.prog 64 #[.pointer (some ⟨x, 0, none⟩), .int .i64 t, .int .i64 4] w fun e w' =>
      e = .returned (.int .i64 (probe l pd t).1) ∧ RAt w' x sb db (probe l pd t).2 td pd ∧ Upd (fun i => i = sb ∨ i = db) w w' := by
  cases pd with
  | false => exact (rturn_no w x sb db l td false h t 4 (.inr ⟨rfl, rfl⟩)).mono fun e w' ⟨he, hw⟩ => ⟨he, hw ▸ h, hw ▸ Upd.refl _ _⟩
  | true =>
    have e : probe l true t = turn l t 4 := rfl
    rw [e]
    cases hn : inB t l.length with
    | false => rw [turn_out hn]; exact (rturn_no w x sb db l td true h t 4 (.inl hn)).mono fun e w' ⟨he, hw⟩ => ⟨he, hw ▸ h, hw ▸ Upd.refl _ _⟩
    | true => obtain ⟨k, rfl, hk⟩ := inB_nat hn; exact rturn_in w x sb db l td true h k hk 4 (.inr ⟨rfl, rfl⟩)
end Go.Proofs.Ytlkpfdboagjaoaa.Ref09

namespace Go.Proofs.Ytlkpfdboagjaoaa.Ref09
open Go Go.RowKit Go.Proofs.Ytlkpfdboagjaoaa.Heap Go.Proofs.Ytlkpfdboagjaoaa.Seat

/-- No row of the table that stands ahead of place j fits. -/
def NoHit (st ev : Int) (j : Nat) : Prop := (0 < j → ¬ (st = 1 ∧ ev = 1)) ∧ (1 < j → ¬ (st = 1 ∧ ev = 2)) ∧ (2 < j → ¬ (st = 1 ∧ ev = 6)) ∧ (3 < j → ¬ (st = 3 ∧ ev = 3)) ∧ (4 < j → ¬ (st = 4 ∧ ev = 4)) ∧ (5 < j → ¬ (st = 4 ∧ ev = 5))
theorem NoHit.start (st ev : Int) : NoHit st ev 0 := by unfold NoHit; omega
theorem NoHit.last {st ev : Int} (h : NoHit st ev 6) : next st ev = -1 := by
  obtain ⟨h0, h1, h2, h3, h4, h5⟩ := h
  have g0 := h0 (by decide); have g1 := h1 (by decide); have g2 := h2 (by decide); have g3 := h3 (by decide); have g4 := h4 (by decide); have g5 := h5 (by decide)
  unfold next
  (repeat' split) <;> omega
/-- An int that tells a truth. -/
def b2i (b : Bool) : Int := if b then 1 else 0

theorem rend_no (w : World) (x sb db : Nat) (l : List (Int × Int)) (td pd : Bool) (h : RAt w x sb db l td pd) (t ev : Int) (hn : inB t l.length = false) :
    Calls Try.prog 110 #[.pointer (some ⟨x, 0, none⟩), .int .i64 t, .int .i64 ev] w fun e w' => e = .returned (.int .i64 0) ∧ w = w' := by
  obtain ⟨cs, cd, ht⟩ := h.top
  have h0 := ht.cell (i := 0) rfl
  clear h ht
  by_cases c1 : t < 0
  · go_enter Try.func110, Try.ntmps110
    go_wp2
    all_goals (go_ret; exact ⟨rfl, rfl⟩)
  have c2 : (l.length : Int) ≤ t := by simp [inB] at hn; omega
  go_enter Try.func110, Try.ntmps110
  go_wp2
  all_goals (go_ret; exact ⟨rfl, rfl⟩)

set_option maxHeartbeats 4000000 in
theorem rend_in (w : World) (x sb db : Nat) (l : List (Int × Int)) (td pd : Bool) (h : RAt w x sb db l td pd) (k : Nat) (hk : k < l.length) (ev : Int) :
    Calls Try.prog 110 #[.pointer (some ⟨x, 0, none⟩), .int .i64 k, .int .i64 ev] w fun e w' =>
      e = .returned (.int .i64 (b2i (fin l k ev).1)) ∧ RAt w' x sb db (fin l k ev).2 td pd ∧ Upd (fun i => i = sb ∨ i = db) w w' := by
  have i0 : ∀ W, (Instr.index 177 (.agg #[.int .i64 1, .int .i64 1, .int .i64 2, .int .i64 1, .int .i64 2, .int .i64 0, .int .i64 1, .int .i64 6, .int .i64 0, .int .i64 3, .int .i64 3, .int .i64 0, .int .i64 4, .int .i64 4, .int .i64 2, .int .i64 4, .int .i64 5, .int .i64 2]) (.int .i64 0)).run Try.prog W = .ok (.agg #[.int .i64 1, .int .i64 1, .int .i64 2]) W := fun _ => by kernel_rfl
  have i1 : ∀ W, (Instr.index 177 (.agg #[.int .i64 1, .int .i64 1, .int .i64 2, .int .i64 1, .int .i64 2, .int .i64 0, .int .i64 1, .int .i64 6, .int .i64 0, .int .i64 3, .int .i64 3, .int .i64 0, .int .i64 4, .int .i64 4, .int .i64 2, .int .i64 4, .int .i64 5, .int .i64 2]) (.int .i64 1)).run Try.prog W = .ok (.agg #[.int .i64 1, .int .i64 2, .int .i64 0]) W := fun _ => by kernel_rfl
  have i2 : ∀ W, (Instr.index 177 (.agg #[.int .i64 1, .int .i64 1, .int .i64 2, .int .i64 1, .int .i64 2, .int .i64 0, .int .i64 1, .int .i64 6, .int .i64 0, .int .i64 3, .int .i64 3, .int .i64 0, .int .i64 4, .int .i64 4, .int .i64 2, .int .i64 4, .int .i64 5, .int .i64 2]) (.int .i64 2)).run Try.prog W = .ok (.agg #[.int .i64 1, .int .i64 6, .int .i64 0]) W := fun _ => by kernel_rfl
  have i3 : ∀ W, (Instr.index 177 (.agg #[.int .i64 1, .int .i64 1, .int .i64 2, .int .i64 1, .int .i64 2, .int .i64 0, .int .i64 1, .int .i64 6, .int .i64 0, .int .i64 3, .int .i64 3, .int .i64 0, .int .i64 4, .int .i64 4, .int .i64 2, .int .i64 4, .int .i64 5, .int .i64 2]) (.int .i64 3)).run Try.prog W = .ok (.agg #[.int .i64 3, .int .i64 3, .int .i64 0]) W := fun _ => by kernel_rfl
  have i4 : ∀ W, (Instr.index 177 (.agg #[.int .i64 1, .int .i64 1, .int .i64 2, .int .i64 1, .int .i64 2, .int .i64 0, .int .i64 1, .int .i64 6, .int .i64 0, .int .i64 3, .int .i64 3, .int .i64 0, .int .i64 4, .int .i64 4, .int .i64 2, .int .i64 4, .int .i64 5, .int .i64 2]) (.int .i64 4)).run Try.prog W = .ok (.agg #[.int .i64 4, .int .i64 4, .int .i64 2]) W := fun _ => by kernel_rfl
  have i5 : ∀ W, (Instr.index 177 (.agg #[.int .i64 1, .int .i64 1, .int .i64 2, .int .i64 1, .int .i64 2, .int .i64 0, .int .i64 1, .int .i64 6, .int .i64 0, .int .i64 3, .int .i64 3, .int .i64 0, .int .i64 4, .int .i64 4, .int .i64 2, .int .i64 4, .int .i64 5, .int .i64 2]) (.int .i64 5)).run Try.prog W = .ok (.agg #[.int .i64 4, .int .i64 5, .int .i64 2]) W := fun _ => by kernel_rfl
  obtain ⟨cs, cd, ht⟩ := h.top
  have h0 := ht.cell (i := 0) rfl
  have hk' : (k : Int) < l.length := by omega
  obtain ⟨st, hst⟩ : ∃ a, (l.getD k (0, -1)).1 = a := ⟨_, rfl⟩
  obtain ⟨dl, hdl⟩ : ∃ a, (l.getD k (0, -1)).2 = a := ⟨_, rfl⟩
  have ES := Lib.hid (show state l k = st by unfold state; rw [inB_mk hk, if_pos rfl, Int.toNat_natCast]; exact hst)
  have n1 := h.ne1
  have n2 := h.ne2
  have n3 := h.ne3
  go_enter Try.func110, Try.ntmps110
  go_wp2
  clear h0 ht
  go_loopw [27] (fun i wr => ∃ j : Nat, j ≤ 6 ∧ i = .int .i64 j ∧ NoHit st ev j ∧ RAt wr x sb db l td pd ∧ Upd (fun i => i = sb ∨ i = db) w wr) (fun i _ => 6 - (intOf i).toNat)
  case atStart => exact ⟨0, by decide, rfl, NoHit.start _ _, h, Upd.refl _ _⟩
  case round =>
    obtain ⟨j, hj, rfl, hno, hat, hup⟩ := hrel
    obtain ⟨cs', cd', ht⟩ := hat.top
    have h0 := ht.cell (i := 0) rfl
    have h1 := ht.cell (i := 1) rfl
    have h3 := hat.st.cell (sts_get hk)
    have h4 := hat.dl.cell (dls_get hk)
    rw [hst] at h3
    rw [hdl] at h4
    have f3 := hat.st.frozen k
    have f4 := hat.dl.frozen k
    have p1 : x < wr.heap.size := ht.lt
    have p2 : sb < wr.heap.size := hat.st.lt
    have p3 : db < wr.heap.size := hat.dl.lt
    have hup2 := hup
    clear ht hst hdl h hup
    have hjc : j = 0 ∨ j = 1 ∨ j = 2 ∨ j = 3 ∨ j = 4 ∨ j = 5 ∨ j = 6 := by omega
    rcases hjc with rfl | rfl | rfl | rfl | rfl | rfl | rfl
    · clear i1 i2 i3 i4 i5
      by_cases c1 : st = 1
      · subst c1
        by_cases c2 : ev = 1
        · subst c2
          have E := Lib.hid (show fin l k 1 = (true, l.set k (2, -1)) by unfold fin; rw [ES.out]; rfl)
          clear hno
          go_wp2
          go_quiet (fail)
          go_wp2
          go_region
          all_goals
            go_wp2
            go_ret
            rw [E.out]
            exact ⟨rfl, ((hat.alloc _).drewN _).setBoth k hk 2 (-1), (((hup2.alloc _).drewN _).setCell (p := ⟨sb, k, none⟩) (.inl (.inl rfl)) _).setCell (p := ⟨db, k, none⟩) (.inl (.inr rfl)) _⟩
        · have c3 : (ev == 1) = false := by simpa using c2
          have N2 : NoHit 1 ev 1 := by unfold NoHit at hno ⊢; omega
          clear hno
          go_wp2
          go_quiet (fail)
          go_wp2
          go_roundw
          case rel => exact ⟨1, by decide, rfl, N2, (hat.alloc _).drewN _, ((hup2.alloc _).drewN _)⟩
          case measure => simp [intOf]
      · have c3 : (st == 1) = false := by simpa using c1
        have N2 : NoHit st ev 1 := by unfold NoHit at hno ⊢; omega
        clear hno
        go_wp2
        go_quiet (fail)
        go_wp2
        go_roundw
        case rel => exact ⟨1, by decide, rfl, N2, (hat.alloc _).drewN _, ((hup2.alloc _).drewN _)⟩
        case measure => simp [intOf]
    · clear i0 i2 i3 i4 i5
      by_cases c1 : st = 1
      · subst c1
        by_cases c2 : ev = 2
        · subst c2
          have E := Lib.hid (show fin l k 2 = (true, l.set k (0, -1)) by unfold fin; rw [ES.out]; rfl)
          clear hno
          go_wp2
          go_quiet (fail)
          go_wp2
          go_region
          all_goals
            go_wp2
            go_ret
            rw [E.out]
            exact ⟨rfl, ((hat.alloc _).drewN _).setBoth k hk 0 (-1), (((hup2.alloc _).drewN _).setCell (p := ⟨sb, k, none⟩) (.inl (.inl rfl)) _).setCell (p := ⟨db, k, none⟩) (.inl (.inr rfl)) _⟩
        · have c3 : (ev == 2) = false := by simpa using c2
          have N2 : NoHit 1 ev 2 := by unfold NoHit at hno ⊢; omega
          clear hno
          go_wp2
          go_quiet (fail)
          go_wp2
          go_roundw
          case rel => exact ⟨2, by decide, rfl, N2, (hat.alloc _).drewN _, ((hup2.alloc _).drewN _)⟩
          case measure => simp [intOf]
      · have c3 : (st == 1) = false := by simpa using c1
        have N2 : NoHit st ev 2 := by unfold NoHit at hno ⊢; omega
        clear hno
        go_wp2
        go_quiet (fail)
        go_wp2
        go_roundw
        case rel => exact ⟨2, by decide, rfl, N2, (hat.alloc _).drewN _, ((hup2.alloc _).drewN _)⟩
        case measure => simp [intOf]
    · clear i0 i1 i3 i4 i5
      by_cases c1 : st = 1
      · subst c1
        by_cases c2 : ev = 6
        · subst c2
          have E := Lib.hid (show fin l k 6 = (true, l.set k (0, -1)) by unfold fin; rw [ES.out]; rfl)
          clear hno
          go_wp2
          go_quiet (fail)
          go_wp2
          go_region
          all_goals
            go_wp2
            go_ret
            rw [E.out]
            exact ⟨rfl, ((hat.alloc _).drewN _).setBoth k hk 0 (-1), (((hup2.alloc _).drewN _).setCell (p := ⟨sb, k, none⟩) (.inl (.inl rfl)) _).setCell (p := ⟨db, k, none⟩) (.inl (.inr rfl)) _⟩
        · have c3 : (ev == 6) = false := by simpa using c2
          have N2 : NoHit 1 ev 3 := by unfold NoHit at hno ⊢; omega
          clear hno
          go_wp2
          go_quiet (fail)
          go_wp2
          go_roundw
          case rel => exact ⟨3, by decide, rfl, N2, (hat.alloc _).drewN _, ((hup2.alloc _).drewN _)⟩
          case measure => simp [intOf]
      · have c3 : (st == 1) = false := by simpa using c1
        have N2 : NoHit st ev 3 := by unfold NoHit at hno ⊢; omega
        clear hno
        go_wp2
        go_quiet (fail)
        go_wp2
        go_roundw
        case rel => exact ⟨3, by decide, rfl, N2, (hat.alloc _).drewN _, ((hup2.alloc _).drewN _)⟩
        case measure => simp [intOf]
    · clear i0 i1 i2 i4 i5
      by_cases c1 : st = 3
      · subst c1
        by_cases c2 : ev = 3
        · subst c2
          have E := Lib.hid (show fin l k 3 = (true, l.set k (0, -1)) by unfold fin; rw [ES.out]; rfl)
          clear hno
          go_wp2
          go_quiet (fail)
          go_wp2
          go_region
          all_goals
            go_wp2
            go_ret
            rw [E.out]
            exact ⟨rfl, ((hat.alloc _).drewN _).setBoth k hk 0 (-1), (((hup2.alloc _).drewN _).setCell (p := ⟨sb, k, none⟩) (.inl (.inl rfl)) _).setCell (p := ⟨db, k, none⟩) (.inl (.inr rfl)) _⟩
        · have c3 : (ev == 3) = false := by simpa using c2
          have N2 : NoHit 3 ev 4 := by unfold NoHit at hno ⊢; omega
          clear hno
          go_wp2
          go_quiet (fail)
          go_wp2
          go_roundw
          case rel => exact ⟨4, by decide, rfl, N2, (hat.alloc _).drewN _, ((hup2.alloc _).drewN _)⟩
          case measure => simp [intOf]
      · have c3 : (st == 3) = false := by simpa using c1
        have N2 : NoHit st ev 4 := by unfold NoHit at hno ⊢; omega
        clear hno
        go_wp2
        go_quiet (fail)
        go_wp2
        go_roundw
        case rel => exact ⟨4, by decide, rfl, N2, (hat.alloc _).drewN _, ((hup2.alloc _).drewN _)⟩
        case measure => simp [intOf]
    · clear i0 i1 i2 i3 i5
      by_cases c1 : st = 4
      · subst c1
        by_cases c2 : ev = 4
        · subst c2
          have E := Lib.hid (show fin l k 4 = (true, l.set k (2, -1)) by unfold fin; rw [ES.out]; rfl)
          clear hno
          go_wp2
          go_quiet (fail)
          go_wp2
          go_region
          all_goals
            go_wp2
            go_ret
            rw [E.out]
            exact ⟨rfl, ((hat.alloc _).drewN _).setBoth k hk 2 (-1), (((hup2.alloc _).drewN _).setCell (p := ⟨sb, k, none⟩) (.inl (.inl rfl)) _).setCell (p := ⟨db, k, none⟩) (.inl (.inr rfl)) _⟩
        · have c3 : (ev == 4) = false := by simpa using c2
          have N2 : NoHit 4 ev 5 := by unfold NoHit at hno ⊢; omega
          clear hno
          go_wp2
          go_quiet (fail)
          go_wp2
          go_roundw
          case rel => exact ⟨5, by decide, rfl, N2, (hat.alloc _).drewN _, ((hup2.alloc _).drewN _)⟩
          case measure => simp [intOf]
      · have c3 : (st == 4) = false := by simpa using c1
        have N2 : NoHit st ev 5 := by unfold NoHit at hno ⊢; omega
        clear hno
        go_wp2
        go_quiet (fail)
        go_wp2
        go_roundw
        case rel => exact ⟨5, by decide, rfl, N2, (hat.alloc _).drewN _, ((hup2.alloc _).drewN _)⟩
        case measure => simp [intOf]
    · clear i0 i1 i2 i3 i4
      by_cases c1 : st = 4
      · subst c1
        by_cases c2 : ev = 5
        · subst c2
          have E := Lib.hid (show fin l k 5 = (true, l.set k (2, -1)) by unfold fin; rw [ES.out]; rfl)
          clear hno
          go_wp2
          go_quiet (fail)
          go_wp2
          go_region
          all_goals
            go_wp2
            go_ret
            rw [E.out]
            exact ⟨rfl, ((hat.alloc _).drewN _).setBoth k hk 2 (-1), (((hup2.alloc _).drewN _).setCell (p := ⟨sb, k, none⟩) (.inl (.inl rfl)) _).setCell (p := ⟨db, k, none⟩) (.inl (.inr rfl)) _⟩
        · have c3 : (ev == 5) = false := by simpa using c2
          have N2 : NoHit 4 ev 6 := by unfold NoHit at hno ⊢; omega
          clear hno
          go_wp2
          go_quiet (fail)
          go_wp2
          go_roundw
          case rel => exact ⟨6, by decide, rfl, N2, (hat.alloc _).drewN _, ((hup2.alloc _).drewN _)⟩
          case measure => simp [intOf]
      · have c3 : (st == 4) = false := by simpa using c1
        have N2 : NoHit st ev 6 := by unfold NoHit at hno ⊢; omega
        clear hno
        go_wp2
        go_quiet (fail)
        go_wp2
        go_roundw
        case rel => exact ⟨6, by decide, rfl, N2, (hat.alloc _).drewN _, ((hup2.alloc _).drewN _)⟩
        case measure => simp [intOf]
    · have E := Lib.hid (show fin l k ev = (false, l) by unfold fin; rw [ES.out, hno.last]; rfl)
      clear hno
      go_wp2
      go_ret
      rw [E.out]
      exact ⟨rfl, hat, hup2⟩
theorem rend_all (w : World) (x sb db : Nat) (l : List (Int × Int)) (td pd : Bool) (h : RAt w x sb db l td pd) (t ev : Int) :
    Calls Try.prog 110 #[.pointer (some ⟨x, 0, none⟩), .int .i64 t, .int .i64 ev] w fun e w' =>
      e = .returned (.int .i64 (b2i (fin l t ev).1)) ∧ RAt w' x sb db (fin l t ev).2 td pd ∧ Upd (fun i => i = sb ∨ i = db) w w' := by
  cases hn : inB t l.length with
  | false =>
    have e : fin l t ev = (false, l) := by unfold fin state; rw [hn]; simp [next_zero]
    rw [e]
    exact (rend_no w x sb db l td pd h t ev hn).mono fun e w' ⟨he, hw⟩ => ⟨he, hw ▸ h, hw ▸ Upd.refl _ _⟩
  | true => obtain ⟨k, rfl, hk⟩ := inB_nat hn; exact rend_in w x sb db l td pd h k hk ev
end Go.Proofs.Ytlkpfdboagjaoaa.Ref09

namespace Go.Proofs.Ytlkpfdboagjaoaa.Ref09
open Go Go.RowKit Go.Proofs.Ytlkpfdboagjaoaa.Heap Go.Proofs.Ytlkpfdboagjaoaa.Seat

theorem info_int9 : (Try.prog.info? 3).map (fun i => (i.zero, i.size, i.bytes)) = some (some (.int .i64 0), 1, 8) := by kernel_rfl
/-- Two slices that are made side by side. -/
structure Two (w : World) (B x : Nat) (k : Nat) (vs vd : Value) (td pd : Bool) : Prop where
  top : Row w x [vs, vd, .bool td, .bool pd]
  s : w.ownsRow B 3 1 vs k (List.replicate k (.int .i64 0))
  d : w.ownsRow B 3 1 vd k (List.replicate k (.int .i64 (-1)))
  xB : x < B
  ne : ∀ b, vs.ownBlock = some b → vd.ownBlock ≠ some b

theorem own_ne {w : World} {B x : Nat} {e : TypeId} {size : Nat} {v : Value} {n : Nat} {xs : List Value} (h : w.ownsRow B e size v n xs) (hx : x < B) : ∀ k, v.ownBlock = some k → ¬ k = x := by
  intro k hk e; have := (own_lt h hk).2; omega

/-- The first slice is appended to. -/
theorem Two.first {w w1 : World} {B x k : Nat} {vs vd v' : Value} {td pd : Bool} {o : Obj} (h : Two w B x k vs vd td pd) 
    (hg : (w.alloc o).grownBy w1 vs.ownBlock) (hn : v'.ownBlock = vs.ownBlock ∨ ∃ g, (w.alloc o).heap.size ≤ g ∧ v'.ownBlock = some g) :
    Row w1 x [vs, vd, .bool td, .bool pd] ∧ w1.ownsRow B 3 1 vd k (List.replicate k (.int .i64 (-1))) ∧ (∀ b, v'.ownBlock = some b → vd.ownBlock ≠ some b) := by
  have hu := Upd.grown hg
  refine ⟨(h.top.alloc o).upd hu (fun e => ?_), own_upd (h.d.alloc o) hu (fun b hb e => h.ne b e hb), fun b hb e => ?_⟩
  · exact own_ne h.s h.xB x e rfl
  · rcases hn with hn | ⟨g, hg1, hg2⟩
    · rw [hn] at hb; exact h.ne b hb e
    · rw [hg2] at hb; simp at hb; subst hb
      have := (own_lt (h.d.alloc o) e).1
      omega

theorem r2f (w : World) (x : Nat) (v : Value) (B : Nat) {e : TypeId} {vd : Value} {k : Nat} {l : List Value} (h : w.ownsRow B e 1 vd k l) (hx : x < B) (o : Obj) : ((w.setCell ⟨x, 0, none⟩ v).alloc o).ownsRow B e 1 vd k l :=
  (own_upd h (Upd.one w x 0 v) (fun b hb => own_ne h hx b hb)).alloc o

theorem cell_new1s (w : World) (x i : Nat) (v' v : Value) (T : TypeId) : ∀ j u, [v][j]? = some u → ((w.setCell ⟨x, i, none⟩ v').alloc (.cells #[v] T)).cell? ((⟨w.heap.size, 0, none⟩ : Addr).add j) = some u := by
  have := cell_new1 (w.setCell ⟨x, i, none⟩ v') v T
  simpa using this
/-- The second slice is appended to: the row in between, and both behind the last store. -/
theorem Two.second {w1 w2 : World} {B x k : Nat} {vs vd v' v2 : Value} {td pd : Bool} {o : Obj} (hx : x < B) (r1 : Row w1 x [vs, vd, .bool td, .bool pd]) (r2 : w1.ownsRow B 3 1 vd k (List.replicate k (.int .i64 (-1))))
    (r3 : ∀ b, v'.ownBlock = some b → vd.ownBlock ≠ some b) (hown : w1.ownsRow B 3 1 v' (k + 1) (List.replicate k (.int .i64 0) ++ [.int .i64 0]))
    (hown2 : w2.ownsRow B 3 1 v2 (k + 1) (List.replicate k (.int .i64 (-1)) ++ [.int .i64 (-1)])) (hg : ((w1.setCell ⟨x, 0, none⟩ v').alloc o).grownBy w2 vd.ownBlock)
    (hn : v2.ownBlock = vd.ownBlock ∨ ∃ g, ((w1.setCell ⟨x, 0, none⟩ v').alloc o).heap.size ≤ g ∧ v2.ownBlock = some g) :
    Row w2 x [v', vd, .bool td, .bool pd] ∧ Two (w2.setCell ⟨x, 1, none⟩ v2) B x (k + 1) v' v2 td pd := by
  have hu := Upd.grown hg
  have t0 : Row (w1.setCell ⟨x, 0, none⟩ v') x [v', vd, .bool td, .bool pd] := by simpa using r1.set 0 v'
  have t1 : Row w2 x [v', vd, .bool td, .bool pd] := (t0.alloc o).upd hu (fun e => own_ne r2 hx x e rfl)
  have o1 : ((w1.setCell ⟨x, 0, none⟩ v').alloc o).ownsRow B 3 1 v' (k + 1) (List.replicate k (.int .i64 0) ++ [.int .i64 0]) := (own_upd hown (Upd.one w1 x 0 v') (own_ne hown hx)).alloc o
  have o2 : w2.ownsRow B 3 1 v' (k + 1) (List.replicate k (.int .i64 0) ++ [.int .i64 0]) := own_upd o1 hu (fun b hb e => r3 b hb e)
  refine ⟨t1, by simpa using t1.set 1 v2, ?_, ?_, hx, fun b hb e => ?_⟩
  · rw [List.replicate_succ']; exact own_upd o2 (Upd.one w2 x 1 v2) (own_ne o2 hx)
  · rw [List.replicate_succ']; exact own_upd hown2 (Upd.one w2 x 1 v2) (own_ne hown2 hx)
  · rcases hn with hn | ⟨g, hg1, hg2⟩
    · rw [hn] at e; exact r3 b hb e
    · rw [hg2] at e; simp at e; subst e
      have := (own_lt o1 hb).1
      omega

set_option maxHeartbeats 2000000 in
theorem rnew (w : World) (n : Nat) (td pd : Bool) (h1 : 1 ≤ n) (h2 : n ≤ 64) :
    Calls Try.prog 51 #[.int .i64 n, .bool td, .bool pd] w fun e w' => ∃ x sb db, e = .returned (.pointer (some ⟨x, 0, none⟩)) ∧
      RAt w' x sb db (List.replicate n (0, -1)) td pd ∧ w.heap.size ≤ x ∧ w.heap.size ≤ sb ∧ w.heap.size ≤ db ∧ Below w.heap.size w w' := by
  go_enter Try.func51, Try.ntmps51
  go_wp2
  go_loopw [8] (fun i wr => ∃ k : Nat, k ≤ n ∧ i = .int .i64 k ∧ ∃ vs vd, Two wr (w.heap.size + 1) w.heap.size k vs vd td pd ∧ Below w.heap.size w wr ∧ w.heap.size + 1 ≤ wr.heap.size) (fun i _ => n - (intOf i).toNat)
  case atStart =>
    exact ⟨0, Nat.zero_le _, rfl, .slice none 0 0, .slice none 0 0, ⟨Row.new' rfl, World.ownsRow_nil _ _ _ _, World.ownsRow_nil _ _ _ _, by omega, fun b hb => by simp [Value.ownBlock] at hb⟩, (Below.refl _ _).alloc (Nat.le_refl _) _, by simp⟩
  case round =>
    obtain ⟨k, hk, rfl, vs, vd, two, hbel, hsz⟩ := hrel
    by_cases hlt : k < n
    · have h0 := two.top.cell (i := 0) rfl
      have hx := two.top.lt
      go_wp2_with (first
        | (at_builtin; refine wpList_append_near rfl (.tmp 22) (.tmp 23) 22 rfl (w.heap.size + 1) 3 (.int .i64 0) 1 8 Try.underlying22 info_int9 rfl (by decide) vs k (List.replicate k (.int .i64 0)) rfl (two.s.alloc _) ⟨wr.heap.size, 0, none⟩ 1 1 [.int .i64 0] rfl rfl (cell_new1 _ _ _) (one_cell rfl) (by unfold maxLen; omega) (by omega) (by simp; omega) ?_; intro v' w1 hown hgr hnear; obtain ⟨g, cap, rfl, hgB, hrow⟩ := owned hown (by omega); obtain ⟨r1, r2, r3⟩ := two.first hgr hnear; have c0 := r1.cell (i := 0) rfl; have c1 := r1.cell (i := 1) rfl; have z0 := r1.frozen 0; have z1 := r1.frozen 1; have s1 := hgr.size; clear hrow hnear)
        | (at_builtin; refine wpList_append_near rfl (.tmp 31) (.tmp 32) 22 rfl (w.heap.size + 1) 3 (.int .i64 0) 1 8 Try.underlying22 info_int9 rfl (by decide) vd k (List.replicate k (.int .i64 (-1))) rfl (r2f _ _ _ _ r2 (Nat.lt_succ_self _) _) ⟨w1.heap.size, 0, none⟩ 1 1 [.int .i64 (-1)] rfl rfl (cell_new1s _ _ _ _ _ _) (one_cell rfl) (by unfold maxLen; omega) (by omega) (by simp at s1 ⊢; omega) ?_; intro v2 w2 hown2 hgr2 hnear2; obtain ⟨g2, cap2, rfl, hgB2, hrow2⟩ := owned hown2 (by omega); obtain ⟨q1, q2⟩ := Two.second (Nat.lt_succ_self _) r1 r2 r3 hown hown2 hgr2 hnear2; have c2 := q1.cell (i := 1) rfl; have z2 := q1.frozen 1; have B1 : Below w.heap.size w w1 := (hbel.alloc (by omega) _).grown hgr (by simp; omega) (fun b hb => by have := (own_lt two.s hb).2; omega); have B2 : Below w.heap.size w w2 := ((B1.setCell (p := ⟨w.heap.size, 0, none⟩) (Nat.le_refl _) _).alloc (by simp at s1 ⊢; omega) _).grown hgr2 (by simp at s1 ⊢; omega) (fun b hb => by have := (own_lt r2 hb).2; omega); have s2 := hgr2.size; clear hrow2 hnear2))
      go_roundw
      case rel => exact ⟨k + 1, by omega, by go_num, _, _, q2, B2.setCell (Nat.le_refl _) _, by simp at s1 s2 ⊢; omega⟩
      case measure => simp [intOf]; omega
    · obtain rfl : k = n := by omega
      obtain ⟨sb, cs, hvs, hsB, hrs⟩ := owned two.s (by omega)
      obtain ⟨db, cd, hvd, hdB, hrd⟩ := owned two.d (by omega)
      have hne : sb ≠ db := by
        rintro rfl
        exact two.ne sb (by rw [hvs]; rfl) (by rw [hvd]; rfl)
      have ht := two.top
      rw [hvs, hvd] at ht
      clear two
      go_wp2
      go_ret
      exact ⟨_, sb, db, rfl, ⟨⟨cs, cd, by simpa using ht⟩, by simpa [sts] using hrs, by simpa [dls] using hrd, by omega, by omega, hne⟩, Nat.le_refl _, by omega, by omega, hbel⟩
end Go.Proofs.Ytlkpfdboagjaoaa.Ref09
