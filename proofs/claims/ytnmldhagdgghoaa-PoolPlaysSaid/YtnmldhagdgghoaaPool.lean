/- Package pool: what each function does to a pool that is known whole. -/
import Derived.Test.YtnmldhagdgghoaaSl
import Derived.BigQuiet
import Derived.BigRegion
import Derived.Deep.QuietTactic
import Derived.Deep.RegionHeld3
namespace Go.Proofs.Ytnmldhagdgghoaa.Pool
open Go Go.RowKit Go.Proofs.Ytnmldhagdgghoaa.Heap Go.Proofs.Ytnmldhagdgghoaa.Open Go.Proofs.Ytnmldhagdgghoaa.Sl

def nilv : Value := .slice none 0 0
/-- A pool at block p: its rows' slices vs, whose blocks are S's. -/
structure At (w : World) (p rb ob : Nat) (vs : List Value) (S : Nat → Prop) (rows : List (List Int)) (out : List Bool) : Prop where
  top : Row w p [.slice (some ⟨rb, 0, none⟩) rows.length rows.length, .slice (some ⟨ob, 0, none⟩) out.length out.length]
  row : Row w rb vs
  vl : vs.length = rows.length
  outs : Row w ob (out.map .bool)
  own : ∀ t, t < rows.length → w.ownsRow 0 3 1 (vs.getD t nilv) (rows.getD t []).length (ints .i64 (rows.getD t []))
  sep : ∀ t t' b, t < rows.length → t' < rows.length → (vs.getD t nilv).ownBlock = some b → (vs.getD t' nilv).ownBlock = some b → t = t'
  off : ∀ t b, t < rows.length → (vs.getD t nilv).ownBlock = some b → b ≠ p ∧ b ≠ rb ∧ b ≠ ob ∧ S b
  ne1 : p ≠ rb
  ne2 : p ≠ ob
  ne3 : rb ≠ ob
  sp : S p
  sr : S rb
  so : S ob
  lt : ∀ b, S b → b < w.heap.size
  ids : ∀ r ∈ rows, r.length ≤ 100000 ∧ ∀ x ∈ r, 1 ≤ x ∧ x < (out.length : Int)
  size : rows.length ≤ 64 ∧ 1 ≤ out.length ∧ out.length ≤ 100000
/-- A pool at block p with the footprint S. -/
def O (w : World) (p : Nat) (S : Nat → Prop) (rows : List (List Int)) (out : List Bool) : Prop := ∃ rb ob vs, At w p rb ob vs S rows out

theorem At.keep {w w' : World} {p rb ob : Nat} {vs : List Value} {S T : Nat → Prop} {rows : List (List Int)} {out : List Bool} (h : At w p rb ob vs S rows out) (hu : Upd T w w') (hs : ∀ b, S b → ¬ T b) : At w' p rb ob vs S rows out :=
  ⟨h.top.upd hu (hs _ h.sp), h.row.upd hu (hs _ h.sr), h.vl, h.outs.upd hu (hs _ h.so), fun t ht => own_upd (h.own t ht) hu (fun b hb => hs b (h.off t b ht hb).2.2.2), h.sep, h.off, h.ne1, h.ne2, h.ne3, h.sp, h.sr, h.so,
    fun b hb => Nat.lt_of_lt_of_le (h.lt b hb) hu.size, h.ids, h.size⟩
theorem O.keep {w w' : World} {p : Nat} {S T : Nat → Prop} {rows : List (List Int)} {out : List Bool} (h : O w p S rows out) (hu : Upd T w w') (hs : ∀ b, S b → ¬ T b) : O w' p S rows out := by
  obtain ⟨rb, ob, vs, h⟩ := h
  exact ⟨rb, ob, vs, h.keep hu hs⟩
theorem O.below {w w' : World} {p : Nat} {S : Nat → Prop} {rows : List (List Int)} {out : List Bool} (h : O w p S rows out) (hb : Below w.heap.size w w') : O w' p S rows out := h.keep (Upd.of_below (S := fun _ => False) hb) (fun _ _ => id)
theorem O.alloc {w : World} {p : Nat} {S : Nat → Prop} {rows : List (List Int)} {out : List Bool} (h : O w p S rows out) (o : Obj) : O (w.alloc o) p S rows out := h.below ((Below.refl _ _).alloc (Nat.le_refl _) o)
theorem O.drewN {w : World} {p : Nat} {S : Nat → Prop} {rows : List (List Int)} {out : List Bool} (h : O w p S rows out) (n : Nat) : O (w.drewN n) p S rows out := h.below (below_drewN (Below.refl _ _) n)
theorem At.below {w w' : World} {p rb ob : Nat} {vs : List Value} {S : Nat → Prop} {rows : List (List Int)} {out : List Bool} (h : At w p rb ob vs S rows out) (hb : Below w.heap.size w w') : At w' p rb ob vs S rows out := h.keep (Upd.of_below (S := fun _ => False) hb) (fun _ _ => id)
theorem O.lt {w : World} {p : Nat} {S : Nat → Prop} {rows : List (List Int)} {out : List Bool} (h : O w p S rows out) : ∀ b, S b → b < w.heap.size := by
  obtain ⟨_, _, _, h⟩ := h
  exact h.lt
theorem O.size {w : World} {p : Nat} {S : Nat → Prop} {rows : List (List Int)} {out : List Bool} (h : O w p S rows out) : rows.length ≤ 64 ∧ 1 ≤ out.length ∧ out.length ≤ 100000 := by
  obtain ⟨_, _, _, h⟩ := h
  exact h.size
theorem O.ids {w : World} {p : Nat} {S : Nat → Prop} {rows : List (List Int)} {out : List Bool} (h : O w p S rows out) : ∀ r ∈ rows, r.length ≤ 100000 ∧ ∀ x ∈ r, 1 ≤ x ∧ x < (out.length : Int) := by
  obtain ⟨_, _, _, h⟩ := h
  exact h.ids
theorem mem_getD {α : Type} {l : List α} {i : Nat} {d : α} (h : i < l.length) : l.getD i d ∈ l := by rw [getD_lt _ _ _ h]; exact List.getElem_mem h
theorem At.src {w : World} {p rb ob : Nat} {vs : List Value} {S : Nat → Prop} {rows : List (List Int)} {out : List Bool} (h : At w p rb ob vs S rows out) {t : Nat} (ht : t < rows.length) : Src1 w (vs.getD t nilv) .i64 (rows.getD t []) := Src1.of_owned (h.own t ht)
theorem At.vcell {w : World} {p rb ob : Nat} {vs : List Value} {S : Nat → Prop} {rows : List (List Int)} {out : List Bool} (h : At w p rb ob vs S rows out) {t : Nat} (ht : t < rows.length) : w.cell? ⟨rb, t, none⟩ = some (vs.getD t nilv) :=
  h.row.cell (by have := h.vl; simp [List.getD, show t < vs.length by omega])
theorem bools_get {out : List Bool} {i : Nat} (h : i < out.length) : (out.map Value.bool)[i]? = some (.bool (out.getD i false)) := by simp [List.getD, h]
theorem At.ocell {w : World} {p rb ob : Nat} {vs : List Value} {S : Nat → Prop} {rows : List (List Int)} {out : List Bool} (h : At w p rb ob vs S rows out) {i : Nat} (hi : i < out.length) : w.cell? ⟨ob, i, none⟩ = some (.bool (out.getD i false)) := h.outs.cell (bools_get hi)
/-- What is out turns. -/
theorem At.setOut {w : World} {p rb ob : Nat} {vs : List Value} {S : Nat → Prop} {rows : List (List Int)} {out : List Bool} (h : At w p rb ob vs S rows out) (i : Nat) (b : Bool) : At (w.setCell ⟨ob, i, none⟩ (.bool b)) p rb ob vs S rows (out.set i b) := by
  have hu := Upd.one w ob i (.bool b)
  refine ⟨by simpa using h.top.upd hu h.ne2, h.row.upd hu h.ne3, h.vl, by rw [List.map_set]; exact h.outs.set _ _, fun t ht => own_upd (h.own t ht) hu (fun b hb => (h.off t b ht hb).2.2.1), h.sep, h.off, h.ne1, h.ne2, h.ne3, h.sp, h.sr, h.so, fun b hb => Nat.lt_of_lt_of_le (h.lt b hb) hu.size, by simpa using h.ids, by simpa using h.size⟩

/-- Is there such a node? -/
def isNode (id : Int) (n : Nat) : Bool := decide (1 ≤ id) && decide (id < n)
theorem isNode_nat {t : Int} {n : Nat} (h : isNode t n = true) : ∃ k : Nat, t = k ∧ 1 ≤ k ∧ k < n := by
  simp [isNode] at h; exact ⟨t.toNat, by omega, by omega, by omega⟩
theorem isNode_mk {k n : Nat} (h1 : 1 ≤ k) (h : k < n) : isNode (k : Int) n = true := by simp [isNode]; omega
theorem there (w : World) (p : Nat) (S : Nat → Prop) (rows : List (List Int)) (out : List Bool) (h : O w p S rows out) (id : Int) :
    Calls Try.prog 23 #[.pointer (some ⟨p, 0, none⟩), .int .i64 id] w fun e w' => e = .returned (.bool (isNode id out.length)) ∧ w = w' := by
  obtain ⟨rb, ob, vs, h⟩ := h
  have h0 := h.top.cell (i := 1) rfl
  clear h
  go_enter Try.func23, Try.ntmps23
  go_wp2
  all_goals
    go_ret
    exact ⟨ret_bool (by simp [isNode, *] <;> omega), rfl⟩
theorem there_is (w : World) (p : Nat) (S : Nat → Prop) (rows : List (List Int)) (out : List Bool) (h : O w p S rows out) (id : Int) (b : Bool) (hb : isNode id out.length = b) :
    Calls Try.prog 23 #[.pointer (some ⟨p, 0, none⟩), .int .i64 id] w fun e w' => e = .returned (.bool b) ∧ w = w' :=
  (there w p S rows out h id).mono fun e w' ⟨he, hw⟩ => ⟨by rw [he, hb], hw⟩
theorem len_all (w : World) (p : Nat) (S : Nat → Prop) (rows : List (List Int)) (out : List Bool) (h : O w p S rows out) :
    Calls Try.prog 11 #[.pointer (some ⟨p, 0, none⟩)] w fun e w' => e = .returned (.int .i64 ((out.length : Int) - 1)) ∧ w = w' := by
  obtain ⟨rb, ob, vs, h⟩ := h
  have h0 := h.top.cell (i := 1) rfl
  have h1 := h.size.2.1
  have h2 := h.size.2.2
  clear h
  go_enter Try.func11, Try.ntmps11
  go_wp2
  go_ret
  exact ⟨rfl, rfl⟩
/-- Is a node out? -/
def isOut (out : List Bool) (id : Int) : Bool := isNode id out.length && out.getD id.toNat false
theorem out_all (w : World) (p : Nat) (S : Nat → Prop) (rows : List (List Int)) (out : List Bool) (h : O w p S rows out) (id : Int) :
    Calls Try.prog 9 #[.pointer (some ⟨p, 0, none⟩), .int .i64 id] w fun e w' => e = .returned (.bool (isOut out id)) ∧ w = w' := by
  cases hn : isNode id out.length with
  | false =>
    have E := Lib.hid (show isOut out id = false by unfold isOut; rw [hn]; rfl)
    have HN := Lib.hid hn
    clear hn
    go_enter Try.func9, Try.ntmps9
    go_wp2_with (go_at_call 23; refine (there_is _ _ _ _ _ h _ _ HN.out).mono ?_; rintro e w' ⟨rfl, rfl⟩)
    go_ret
    exact ⟨ret_bool (by rw [E.out]), rfl⟩
  | true =>
    obtain ⟨k, rfl, hk1, hk⟩ := isNode_nat hn
    have E := Lib.hid (show isOut out k = out.getD k false by unfold isOut; rw [hn]; rfl)
    have HN := Lib.hid hn
    obtain ⟨rb, ob, vs, ha⟩ := id h
    have h0 := ha.top.cell (i := 1) rfl
    have h1 := ha.ocell hk
    obtain ⟨x, hx⟩ : ∃ x, out.getD k false = x := ⟨_, rfl⟩
    rw [hx] at h1 E
    clear hx hn ha
    go_enter Try.func9, Try.ntmps9
    go_wp2_with (go_at_call 23; refine (there_is _ _ _ _ _ h _ _ HN.out).mono ?_; rintro e w' ⟨rfl, rfl⟩)
    go_ret
    exact ⟨ret_bool (by rw [E.out]), rfl⟩
/-- A node comes back: the error, what is out then. -/
def back (out : List Bool) (id : Int) : Int × List Bool := if isNode id out.length then (if out.getD id.toNat false then (0, out.set id.toNat false) else (6, out)) else (1, out)
theorem back_all (w : World) (p : Nat) (S : Nat → Prop) (rows : List (List Int)) (out : List Bool) (h : O w p S rows out) (id : Int) :
    Calls Try.prog 10 #[.pointer (some ⟨p, 0, none⟩), .int .i64 id] w fun e w' => e = .returned (.int .i64 (back out id).1) ∧ O w' p S rows (back out id).2 ∧ Upd S w w' := by
  cases hn : isNode id out.length with
  | false =>
    have E := Lib.hid (show back out id = (1, out) by unfold back; rw [hn]; rfl)
    have HN := Lib.hid hn
    clear hn
    go_enter Try.func10, Try.ntmps10
    go_wp2_with (go_at_call 23; refine (there_is _ _ _ _ _ h _ _ HN.out).mono ?_; rintro e w' ⟨rfl, rfl⟩)
    go_ret
    rw [E.out]
    exact ⟨rfl, h, Upd.refl _ _⟩
  | true =>
    obtain ⟨k, rfl, hk1, hk⟩ := isNode_nat hn
    have HN := Lib.hid hn
    obtain ⟨rb, ob, vs, ha⟩ := id h
    have h0 := ha.top.cell (i := 1) rfl
    have h1 := ha.ocell hk
    have f1 := ha.outs.frozen k
    cases hx : out.getD k false with
    | true =>
      have E := Lib.hid (show back out k = (0, out.set k false) by unfold back; rw [hn, Int.toNat_natCast, hx]; rfl)
      rw [hx] at h1
      clear hx hn
      go_enter Try.func10, Try.ntmps10
      go_wp2_with (go_at_call 23; refine (there_is _ _ _ _ _ h _ _ HN.out).mono ?_; rintro e w' ⟨rfl, rfl⟩)
      go_ret
      rw [E.out]
      exact ⟨rfl, ⟨rb, ob, vs, ha.setOut k false⟩, (Upd.one _ _ _ _).mono (by rintro i _ rfl; exact ha.so)⟩
    | false =>
      have E := Lib.hid (show back out k = (6, out) by unfold back; rw [hn, Int.toNat_natCast, hx]; rfl)
      rw [hx] at h1
      clear hx hn ha
      go_enter Try.func10, Try.ntmps10
      go_wp2_with (go_at_call 23; refine (there_is _ _ _ _ _ h _ _ HN.out).mono ?_; rintro e w' ⟨rfl, rfl⟩)
      go_ret
      rw [E.out]
      exact ⟨rfl, h, Upd.refl _ _⟩
/-- A thread's nodes. -/
def rowOf (rows : List (List Int)) (t : Int) : List Int := if 0 ≤ t ∧ t < rows.length then rows.getD t.toNat [] else []
theorem rowOf_len {rows : List (List Int)} {n m : Nat} (h : ∀ r ∈ rows, r.length ≤ n ∧ ∀ x ∈ r, 1 ≤ x ∧ x < (m : Int)) (t : Int) : (rowOf rows t).length ≤ n ∧ ∀ x ∈ rowOf rows t, 1 ≤ x ∧ x < (m : Int) := by
  unfold rowOf
  split
  · rename_i ht; exact h _ (mem_getD (by omega))
  · exact ⟨Nat.zero_le _, fun x hx => by simp at hx⟩
theorem row_all (w : World) (p : Nat) (S : Nat → Prop) (rows : List (List Int)) (out : List Bool) (h : O w p S rows out) (t : Int) :
    Calls Try.prog 14 #[.pointer (some ⟨p, 0, none⟩), .int .i64 t] w fun e w' => ∃ v, e = .returned v ∧ w'.ownsRow w.heap.size 3 1 v (rowOf rows t).length (ints .i64 (rowOf rows t)) ∧ Below w.heap.size w w' := by
  obtain ⟨rb, ob, vs, ha⟩ := id h
  have h0 := ha.top.cell (i := 0) rfl
  by_cases ht : 0 ≤ t ∧ t < rows.length
  · obtain ⟨k, rfl⟩ := Int.eq_ofNat_of_zero_le ht.1
    have hk : k < rows.length := by omega
    have E := Lib.hid (show rowOf rows (k : Int) = rows.getD k [] by unfold rowOf; rw [if_pos ht]; rfl)
    have h1 := ha.vcell hk
    have KC := clone_all w _ _ (ha.src hk) (by have := (ha.ids _ (mem_getD (d := []) hk)).1; omega)
    have HK := Lib.hid KC
    obtain ⟨v, hv⟩ : ∃ v, vs.getD k nilv = v := ⟨_, rfl⟩
    rw [hv] at h1 HK
    have hk2 : (k : Int) < (rows.length : Int) := by omega
    clear KC ha ht hv
    go_enter Try.func14, Try.ntmps14
    go_wp2_with (go_at_call 26; refine HK.out.mono ?_; rintro e w' ⟨v', rfl, ho, hb⟩)
    go_ret
    rw [E.out]
    exact ⟨_, rfl, by assumption, by assumption⟩
  · have E := Lib.hid (show rowOf rows t = [] by unfold rowOf; rw [if_neg ht])
    by_cases c1 : t < 0
    · go_enter Try.func14, Try.ntmps14
      go_wp2_with fail
      go_ret
      rw [E.out]
      exact ⟨_, rfl, World.ownsRow_nil _ _ _ _, Below.refl _ _⟩
    · have c2 : (rows.length : Int) ≤ t := by omega
      clear ht
      go_enter Try.func14, Try.ntmps14
      go_wp2_with fail
      go_ret
      rw [E.out]
      exact ⟨_, rfl, World.ownsRow_nil _ _ _ _, Below.refl _ _⟩
end Go.Proofs.Ytnmldhagdgghoaa.Pool
