/- The document's seats (reference of layer 9): what each function does to them. -/
import Derived.Test.YtgoaaijdlhhkkaaSeat
import Derived.Test.YtgoaaijdlhhkkaaVec
import Derived.Deep.QuietTactic
import Derived.BigRegion
namespace Go.Proofs.Ytgoaaijdlhhkkaa.Ref09
open Go Go.RowKit Go.Proofs.Ytgoaaijdlhhkkaa.Heap Go.Proofs.Ytgoaaijdlhhkkaa.Seat

def sts (l : List (Int × Int)) : List Value := l.map fun p => .int .i64 p.1
def dls (l : List (Int × Int)) : List Value := l.map fun p => .int .i64 p.2

/-- The document's seats: their block, that of the states, that of the deadlines. -/
structure RAt (w : World) (x sb db : Nat) (l : List (Int × Int)) (td pd : Bool) : Prop where
  top : ∃ cs cd, Row w x [.slice (some ⟨sb, 0, none⟩) l.length cs, .slice (some ⟨db, 0, none⟩) l.length cd, .bool td, .bool pd]
  st : RowP w sb (sts l)
  dl : RowP w db (dls l)
  ne1 : x ≠ sb
  ne2 : x ≠ db
  ne3 : sb ≠ db

theorem RAt.upd {S : Nat → Prop} {w w' : World} {x sb db : Nat} {l : List (Int × Int)} {td pd : Bool} (h : RAt w x sb db l td pd) (hu : Upd S w w') (h1 : ¬ S x) (h2 : ¬ S sb) (h3 : ¬ S db) : RAt w' x sb db l td pd := by
  obtain ⟨cs, cd, ht⟩ := h.top
  exact ⟨⟨cs, cd, ht.upd hu h1⟩, h.st.upd hu h2, h.dl.upd hu h3, h.ne1, h.ne2, h.ne3⟩
theorem RAt.alloc {w : World} {x sb db : Nat} {l : List (Int × Int)} {td pd : Bool} (h : RAt w x sb db l td pd) (o : Obj) : RAt (w.alloc o) x sb db l td pd := by
  obtain ⟨cs, cd, ht⟩ := h.top
  exact ⟨⟨cs, cd, ht.alloc o⟩, h.st.alloc o, h.dl.alloc o, h.ne1, h.ne2, h.ne3⟩
theorem RAt.drew {w : World} {x sb db : Nat} {l : List (Int × Int)} {td pd : Bool} (h : RAt w x sb db l td pd) : RAt w.drew x sb db l td pd := ⟨h.top, h.st, h.dl, h.ne1, h.ne2, h.ne3⟩
theorem RAt.drewN {w : World} {x sb db : Nat} {l : List (Int × Int)} {td pd : Bool} (h : RAt w x sb db l td pd) (n : Nat) : RAt (w.drewN n) x sb db l td pd := ⟨h.top, h.st, h.dl, h.ne1, h.ne2, h.ne3⟩
theorem sts_get {l : List (Int × Int)} {k : Nat} (h : k < l.length) : (sts l)[k]? = some (.int .i64 (l.getD k (0, -1)).1) := by simp [sts, List.getD, h]
theorem dls_get {l : List (Int × Int)} {k : Nat} (h : k < l.length) : (dls l)[k]? = some (.int .i64 (l.getD k (0, -1)).2) := by simp [dls, List.getD, h]
theorem sts_set (l : List (Int × Int)) (k : Nat) (a b : Int) : sts (l.set k (a, b)) = (sts l).set k (.int .i64 a) := by simp [sts, List.map_set]
theorem dls_set (l : List (Int × Int)) (k : Nat) (a b : Int) : dls (l.set k (a, b)) = (dls l).set k (.int .i64 b) := by simp [dls, List.map_set]
theorem RAt.setBoth {w : World} {x sb db : Nat} {l : List (Int × Int)} {td pd : Bool} (h : RAt w x sb db l td pd) (k : Nat) (hk : k < l.length) (a b : Int) :
    RAt ((w.setCell ⟨sb, k, none⟩ (.int .i64 a)).setCell ⟨db, k, none⟩ (.int .i64 b)) x sb db (l.set k (a, b)) td pd := by
  obtain ⟨cs, cd, ht⟩ := h.top
  refine ⟨⟨cs, cd, by simpa using (ht.set_ne h.ne1 _ _).set_ne h.ne2 _ _⟩, ?_, ?_, h.ne1, h.ne2, h.ne3⟩
  · rw [sts_set]; exact (h.st.set k (by simpa [sts] using hk) _).set_ne h.ne3 _ _
  · rw [dls_set]; exact (h.dl.set_ne h.ne3.symm _ _).set k (by simpa [dls] using hk) _
theorem RAt.setSt {w : World} {x sb db : Nat} {l : List (Int × Int)} {td pd : Bool} (h : RAt w x sb db l td pd) (k : Nat) (hk : k < l.length) (a : Int) :
    RAt (w.setCell ⟨sb, k, none⟩ (.int .i64 a)) x sb db (l.set k (a, (l.getD k (0, -1)).2)) td pd := by
  obtain ⟨cs, cd, ht⟩ := h.top
  refine ⟨⟨cs, cd, by simpa using ht.set_ne h.ne1 _ _⟩, ?_, ?_, h.ne1, h.ne2, h.ne3⟩
  · rw [sts_set]; exact h.st.set k (by simpa [sts] using hk) _
  · have e : dls (l.set k (a, (l.getD k (0, -1)).2)) = dls l := by
      rw [dls_set]
      apply List.ext_getElem?
      intro j
      by_cases e : k = j
      · subst e; rw [List.getElem?_set_self (by simpa [dls] using hk), dls_get hk]
      · rw [List.getElem?_set_ne e]
    rw [e]; exact h.dl.set_ne h.ne3.symm _ _

/-- The number of the error is that of the program's own Lock. -/
theorem rlock_no (w : World) (x sb db : Nat) (l : List (Int × Int)) (td pd : Bool) (h : RAt w x sb db l td pd) (t d : Int) (hn : inB t l.length = false ∨ d < -1 ∨ (0 ≤ d ∧ td = false)) :
    Calls Try.prog 59 #[.pointer (some ⟨x, 0, none⟩), .int .i64 t, .int .i64 d] w fun e w' => e = .returned (.int .i64 1) ∧ w = w' := by
  obtain ⟨cs, cd, ht⟩ := h.top
  have h0 := ht.cell (i := 0) rfl
  have h2 := ht.cell (i := 2) rfl
  clear h ht
  by_cases c1 : t < 0
  · go_enter Try.func59, Try.ntmps59
    go_wp2
    all_goals (go_ret; exact ⟨rfl, rfl⟩)
  by_cases c2 : (l.length : Int) ≤ t
  · go_enter Try.func59, Try.ntmps59
    go_wp2
    all_goals (go_ret; exact ⟨rfl, rfl⟩)
  have hin : inB t l.length = true := by simp [inB]; omega
  rw [hin] at hn
  have c1' : 0 ≤ t := by omega
  have c2' : t < (l.length : Int) := by omega
  clear hin c1 c2
  by_cases c3 : d < -1
  · clear hn
    go_enter Try.func59, Try.ntmps59
    go_wp2
    all_goals (go_ret; exact ⟨rfl, rfl⟩)
  have c4 : 0 ≤ d ∧ td = false := by
    rcases hn with e | e | e
    · exact Bool.noConfusion e
    · exact absurd e c3
    · exact e
  obtain ⟨c4, rfl⟩ := c4
  have c5 : -1 < d := by omega
  clear hn c3
  go_enter Try.func59, Try.ntmps59
  go_wp2
  all_goals (go_ret; exact ⟨rfl, rfl⟩)

set_option maxHeartbeats 2000000 in
theorem rlock_yes (w : World) (x sb db : Nat) (l : List (Int × Int)) (td pd : Bool) (h : RAt w x sb db l td pd) (k : Nat) (hk : k < l.length) (d : Int) (hd : -1 ≤ d) (htd : 0 ≤ d → td = true) :
    Calls Try.prog 59 #[.pointer (some ⟨x, 0, none⟩), .int .i64 k, .int .i64 d] w fun e w' =>
      e = .returned (.int .i64 (if (l.getD k (0, -1)).1 = 0 then 0 else 2)) ∧ RAt w' x sb db (if (l.getD k (0, -1)).1 = 0 then l.set k (1, d) else l) td pd ∧ Upd (fun i => i = sb ∨ i = db) w w' := by
  obtain ⟨cs, cd, ht⟩ := h.top
  have h0 := ht.cell (i := 0) rfl
  have h1 := ht.cell (i := 1) rfl
  have h2 := ht.cell (i := 2) rfl
  have h3 := h.st.cell (sts_get hk)
  have h4 := h.dl.cell (dls_get hk)
  have f3 := h.st.frozen k
  have f4 := h.dl.frozen k
  have n1 := h.ne1
  have n2 := h.ne2
  have n3 := h.ne3
  obtain ⟨a, ha⟩ : ∃ a, (l.getD k (0, -1)).1 = a := ⟨_, rfl⟩
  obtain ⟨b, hb⟩ : ∃ b, (l.getD k (0, -1)).2 = b := ⟨_, rfl⟩
  rw [ha] at h3 ⊢
  rw [hb] at h4
  have HB := Lib.hid hb
  have hk' : (k : Int) < l.length := by omega
  clear ha hb ht
  by_cases c : a = 0
  · rw [if_pos c, if_pos c]
    subst c
    have key : (0 ≤ d ∧ td = true) ∨ d = -1 := by
      by_cases z : 0 ≤ d
      · exact .inl ⟨z, htd z⟩
      · exact .inr (by omega)
    clear htd hd
    rcases key with ⟨c1, rfl⟩ | rfl
    · have c2 : -1 < d := by omega
      go_enter Try.func59, Try.ntmps59
      go_wp2
      go_region
      all_goals
        go_wp2
        go_ret
        exact ⟨rfl, (h.setBoth k hk 1 d).drew, (((Upd.refl _ _).setCell (p := ⟨sb, k, none⟩) (.inl (.inl rfl)) _).setCell (p := ⟨db, k, none⟩) (.inl (.inr rfl)) _).drew⟩
    · go_enter Try.func59, Try.ntmps59
      go_wp2
      go_region
      all_goals
        go_wp2
        go_ret
        exact ⟨rfl, (h.setBoth k hk 1 (-1)).drew, (((Upd.refl _ _).setCell (p := ⟨sb, k, none⟩) (.inl (.inl rfl)) _).setCell (p := ⟨db, k, none⟩) (.inl (.inr rfl)) _).drew⟩
  · rw [if_neg c, if_neg c]
    have c' : (a != 0) = true := by simpa using c
    have key : (0 ≤ d ∧ td = true) ∨ d = -1 := by
      by_cases z : 0 ≤ d
      · exact .inl ⟨z, htd z⟩
      · exact .inr (by omega)
    clear htd hd
    rcases key with ⟨c1, rfl⟩ | rfl
    · have c2 : -1 < d := by omega
      go_enter Try.func59, Try.ntmps59
      go_wp2
      all_goals (go_ret; exact ⟨rfl, h, Upd.refl _ _⟩)
    · go_enter Try.func59, Try.ntmps59
      go_wp2
      all_goals (go_ret; exact ⟨rfl, h, Upd.refl _ _⟩)
theorem rlock_all (w : World) (x sb db : Nat) (l : List (Int × Int)) (td pd : Bool) (h : RAt w x sb db l td pd) (t d : Int) :
    Calls Try.prog 59 #[.pointer (some ⟨x, 0, none⟩), .int .i64 t, .int .i64 d] w fun e w' =>
      e = .returned (.int .i64 (lock l td t d).1) ∧ RAt w' x sb db (lock l td t d).2 td pd ∧ Upd (fun i => i = sb ∨ i = db) w w' := by
  by_cases c : inB t l.length = false ∨ d < -1 ∨ (0 ≤ d ∧ td = false)
  · have e : lock l td t d = (1, l) := by
      unfold lock
      rcases c with c | c | c
      · rw [c]; rfl
      · simp only [if_pos c]; split <;> rfl
      · simp only [if_pos c]; split
        · split <;> rfl
        · rfl
    rw [e]
    exact (rlock_no w x sb db l td pd h t d c).mono fun e w' ⟨he, hw⟩ => ⟨he, hw ▸ h, hw ▸ Upd.refl _ _⟩
  · have hin : inB t l.length = true := by
      cases hb : inB t l.length
      · exact absurd (.inl hb) c
      · rfl
    obtain ⟨k, rfl, hk⟩ := inB_nat hin
    have c2 : ¬ d < -1 := fun z => c (.inr (.inl z))
    have c3 : ¬ (0 ≤ d ∧ td = false) := fun z => c (.inr (.inr z))
    have e : lock l td k d = (if (l.getD k (0, -1)).1 = 0 then 0 else 2, if (l.getD k (0, -1)).1 = 0 then l.set k (1, d) else l) := by
      unfold lock
      rw [hin, if_pos rfl, if_neg c2, if_neg c3, Int.toNat_natCast]
      by_cases z : (l.getD k (0, -1)).1 = 0
      · rw [if_neg (fun y => y z), if_pos z, if_pos z]
      · rw [if_pos z, if_neg z, if_neg z]
    rw [e]
    exact rlock_yes w x sb db l td pd h k hk d (by omega) (fun z => by cases td; exact absurd ⟨z, rfl⟩ c3; rfl)

set_option maxHeartbeats 1000000 in
/-- What should hold, of one that there is. -/
theorem rturn_in (w : World) (x sb db : Nat) (l : List (Int × Int)) (td pd : Bool) (h : RAt w x sb db l td pd) (k : Nat) (hk : k < l.length) (st : Int) (hst : st = 3 ∨ (st = 4 ∧ pd = true)) :
    Calls Try.prog 60 #[.pointer (some ⟨x, 0, none⟩), .int .i64 k, .int .i64 st] w fun e w' =>
      e = .returned (.int .i64 (turn l k st).1) ∧ RAt w' x sb db (turn l k st).2 td pd ∧ Upd (fun i => i = sb ∨ i = db) w w' := by
  obtain ⟨cs, cd, ht⟩ := h.top
  have h0 := ht.cell (i := 0) rfl
  have h1 := ht.cell (i := 1) rfl
  have h2 := ht.cell (i := 3) rfl
  have h3 := h.st.cell (sts_get hk)
  have f3 := h.st.frozen k
  have n1 := h.ne1
  have hin := inB_mk hk
  obtain ⟨a, ha⟩ : ∃ a, (l.getD k (0, -1)).1 = a := ⟨_, rfl⟩
  rw [ha] at h3
  have ET := Lib.hid (show turn l k st = (if a = 0 then 3 else if a = 2 then 0 else 2, if a = 2 then l.set k (st, (l.getD k (0, -1)).2) else l) by
    unfold turn holds
    rw [hin, if_pos rfl, Int.toNat_natCast, ha]
    by_cases z : a = 0
    · subst z; rfl
    · by_cases y : a = 2
      · subst y; rfl
      · rw [if_neg z, if_neg y, if_neg y]; rfl)
  have hk' : (k : Int) < l.length := by omega
  clear ha ht hin
  by_cases z : a = 0
  · subst z
    rcases hst with rfl | ⟨rfl, rfl⟩
    all_goals
      go_enter Try.func60, Try.ntmps60
      go_wp2
      all_goals (go_ret; rw [ET.out]; exact ⟨rfl, h, Upd.refl _ _⟩)
  have z' : (a == 0) = false := by simpa using z
  by_cases y : a = 2
  · subst y
    rcases hst with rfl | ⟨rfl, rfl⟩
    all_goals
      go_enter Try.func60, Try.ntmps60
      go_wp2
      all_goals (go_ret; rw [ET.out]; exact ⟨rfl, h.setSt k hk _, Upd.setCell (p := ⟨sb, k, none⟩) (Upd.refl _ _) (.inl (.inl rfl)) _⟩)
  have y' : (a != 2) = true := by simpa using y
  rw [if_neg z, if_neg y, if_neg y] at ET
  rcases hst with rfl | ⟨rfl, rfl⟩
  all_goals
    go_enter Try.func60, Try.ntmps60
    go_wp2
    all_goals (go_ret; rw [ET.out]; exact ⟨rfl, h, Upd.refl _ _⟩)

theorem rturn_no (w : World) (x sb db : Nat) (l : List (Int × Int)) (td pd : Bool) (h : RAt w x sb db l td pd) (t st : Int) (hn : inB t l.length = false ∨ (st = 4 ∧ pd = false)) :
    Calls Try.prog 60 #[.pointer (some ⟨x, 0, none⟩), .int .i64 t, .int .i64 st] w fun e w' => e = .returned (.int .i64 1) ∧ w = w' := by
  obtain ⟨cs, cd, ht⟩ := h.top
  have h0 := ht.cell (i := 0) rfl
  have h2 := ht.cell (i := 3) rfl
  clear h ht
  by_cases c1 : t < 0
  · go_enter Try.func60, Try.ntmps60
    go_wp2
    all_goals (go_ret; exact ⟨rfl, rfl⟩)
  by_cases c2 : (l.length : Int) ≤ t
  · go_enter Try.func60, Try.ntmps60
    go_wp2
    all_goals (go_ret; exact ⟨rfl, rfl⟩)
  have hin : inB t l.length = true := by simp [inB]; omega
  have c1' : 0 ≤ t := by omega
  have c2' : t < (l.length : Int) := by omega
  rcases hn with e | ⟨rfl, rfl⟩
  · rw [hin] at e; exact Bool.noConfusion e
  · clear hin c1 c2
    go_enter Try.func60, Try.ntmps60
    go_wp2
    all_goals (go_ret; exact ⟨rfl, rfl⟩)

theorem turn_out {l : List (Int × Int)} {t st : Int} (h : inB t l.length = false) : turn l t st = (1, l) := by
  unfold turn holds; rw [h]; rfl
theorem rturn3 (w : World) (x sb db : Nat) (l : List (Int × Int)) (td pd : Bool) (h : RAt w x sb db l td pd) (t : Int) :
    Calls Try.prog 60 #[.pointer (some ⟨x, 0, none⟩), .int .i64 t, .int .i64 3] w fun e w' =>
      e = .returned (.int .i64 (turn l t 3).1) ∧ RAt w' x sb db (turn l t 3).2 td pd ∧ Upd (fun i => i = sb ∨ i = db) w w' := by
  cases hn : inB t l.length with
  | false => rw [turn_out hn]; exact (rturn_no w x sb db l td pd h t 3 (.inl hn)).mono fun e w' ⟨he, hw⟩ => ⟨he, hw ▸ h, hw ▸ Upd.refl _ _⟩
  | true => obtain ⟨k, rfl, hk⟩ := inB_nat hn; exact rturn_in w x sb db l td pd h k hk 3 (.inl rfl)
theorem rturn4 (w : World) (x sb db : Nat) (l : List (Int × Int)) (td pd : Bool) (h : RAt w x sb db l td pd) (t : Int) :
    Calls Try.prog 60 #[.pointer (some ⟨x, 0, none⟩), .int .i64 t, .int .i64 4] w fun e w' =>
      e = .returned (.int .i64 (probe l pd t).1) ∧ RAt w' x sb db (probe l pd t).2 td pd ∧ Upd (fun i => i = sb ∨ i = db) w w' := by
  cases pd with
  | false => exact (rturn_no w x sb db l td false h t 4 (.inr ⟨rfl, rfl⟩)).mono fun e w' ⟨he, hw⟩ => ⟨he, hw ▸ h, hw ▸ Upd.refl _ _⟩
  | true =>
    have e : probe l true t = turn l t 4 := rfl
    rw [e]
    cases hn : inB t l.length with
    | false => rw [turn_out hn]; exact (rturn_no w x sb db l td true h t 4 (.inl hn)).mono fun e w' ⟨he, hw⟩ => ⟨he, hw ▸ h, hw ▸ Upd.refl _ _⟩
    | true => obtain ⟨k, rfl, hk⟩ := inB_nat hn; exact rturn_in w x sb db l td true h k hk 4 (.inr ⟨rfl, rfl⟩)
end Go.Proofs.Ytgoaaijdlhhkkaa.Ref09
