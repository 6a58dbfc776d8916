/- Package pool: Give, New. -/
import Derived.Test.YtnmldhagdgghoaaPool3
import Derived.Test.YtnmldhagdgghoaaSrcS
import Derived.Deep.CutRange
import Derived.Deep.CutBlock
namespace Go.Proofs.Ytnmldhagdgghoaa.Pool
open Go Go.RowKit Go.Proofs.Ytnmldhagdgghoaa.Heap Go.Proofs.Ytnmldhagdgghoaa.Open Go.Proofs.Ytnmldhagdgghoaa.Sl

/-- A row's slice turns: another value that owns another row, in the same block or in a new one. -/
theorem At.setVal {w w' : World} {p rb ob : Nat} {vs : List Value} {S S' : Nat → Prop} {rows : List (List Int)} {out : List Bool} (h : At w p rb ob vs S rows out) (t : Nat) (ht : t < rows.length) (v' : Value) (xs' : List Int)
    (hu : Upd (fun k => (vs.getD t nilv).ownBlock = some k) w w') (ho : w'.ownsRow 0 3 1 v' xs'.length (ints .i64 xs'))
    (hl : ∀ b, v'.ownBlock = some b → (vs.getD t nilv).ownBlock = some b ∨ w.heap.size ≤ b) (hS : ∀ b, S b ∨ v'.ownBlock = some b → S' b) (hl2 : ∀ b, S' b → b < w'.heap.size)
    (hx : xs'.length ≤ 100000 ∧ ∀ x ∈ xs', 1 ≤ x ∧ x < (out.length : Int)) :
    At (w'.setCell ⟨rb, t, none⟩ v') p rb ob (vs.set t v') S' (rows.set t xs') out := by
  have hvl := h.vl
  have ne : ∀ b, b = p ∨ b = rb ∨ b = ob → ¬ (vs.getD t nilv).ownBlock = some b := fun b hb e => by
    have := h.off t b ht e
    rcases hb with rfl | rfl | rfl
    · exact this.1 rfl
    · exact this.2.1 rfl
    · exact this.2.2.1 rfl
  have hu2 := Upd.one w' rb t v'
  have hsr := h.lt _ h.sr
  have hvne : ∀ b, v'.ownBlock = some b → b ≠ p ∧ b ≠ rb ∧ b ≠ ob := fun b hb => by
    rcases hl b hb with e | e
    · have := h.off t b ht e; exact ⟨this.1, this.2.1, this.2.2.1⟩
    · have h1 := h.lt _ h.sp; have h2 := h.lt _ h.sr; have h3 := h.lt _ h.so
      exact ⟨by omega, by omega, by omega⟩
  have gv : ∀ u, (vs.set t v').getD u nilv = if u = t then v' else vs.getD u nilv := fun u => by
    by_cases e : u = t
    · subst e; simp [List.getD, List.getElem?_set_self (show u < vs.length by omega)]
    · rw [if_neg e, List.getD, List.getElem?_set_ne (fun z => e z.symm)]; rfl
  have gr : ∀ u, (rows.set t xs').getD u [] = if u = t then xs' else rows.getD u [] := fun u => by
    by_cases e : u = t
    · subst e; simp [List.getD, List.getElem?_set_self ht]
    · rw [if_neg e, List.getD, List.getElem?_set_ne (fun z => e z.symm)]; rfl
  refine ⟨?_, ?_, by simpa using h.vl, ?_, ?_, ?_, ?_, h.ne1, h.ne2, h.ne3, hS _ (.inl h.sp), hS _ (.inl h.sr), hS _ (.inl h.so), ?_, ?_, by simpa using h.size⟩
  · rw [List.length_set]; exact (h.top.upd hu (ne _ (.inl rfl))).upd hu2 h.ne1
  · exact (h.row.upd hu (ne _ (.inr (.inl rfl)))).set _ _
  · exact (h.outs.upd hu (ne _ (.inr (.inr rfl)))).upd hu2 (fun e => h.ne3 e.symm)
  · intro u hu'
    rw [List.length_set] at hu'
    rw [gv, gr]
    by_cases e : u = t
    · rw [if_pos e, if_pos e]; exact own_upd ho hu2 (fun b hb => (hvne b hb).2.1)
    · rw [if_neg e, if_neg e]
      exact own_upd (own_upd (h.own u hu') hu (fun b hb e2 => e (h.sep u t b hu' ht hb e2))) hu2 (fun b hb => (h.off u b hu' hb).2.1)
  · intro u u' b hu1 hu2
    rw [List.length_set] at hu1 hu2
    rw [gv, gv]
    by_cases e : u = t
    · by_cases e' : u' = t
      · intro _ _; rw [e, e']
      · rw [if_pos e, if_neg e']
        intro h1 h2
        rcases hl b h1 with h3 | h3
        · exact absurd (h.sep u' t b hu2 ht h2 h3) e'
        · have := h.lt b (h.off u' b hu2 h2).2.2.2; omega
    · by_cases e' : u' = t
      · rw [if_neg e, if_pos e']
        intro h1 h2
        rcases hl b h2 with h3 | h3
        · exact absurd (h.sep u t b hu1 ht h1 h3) e
        · have := h.lt b (h.off u b hu1 h1).2.2.2; omega
      · rw [if_neg e, if_neg e']; exact h.sep u u' b hu1 hu2
  · intro u b hu1
    rw [List.length_set] at hu1
    rw [gv]
    by_cases e : u = t
    · rw [if_pos e]; intro h1; have := hvne b h1; exact ⟨this.1, this.2.1, this.2.2, hS _ (.inr h1)⟩
    · rw [if_neg e]; intro h1; have := h.off u b hu1 h1; exact ⟨this.1, this.2.1, this.2.2.1, hS _ (.inl this.2.2.2)⟩
  · intro b hb
    show b < (w'.setCell _ _).heap.size
    simp only [World.setCell, Array.size_modify]
    exact hl2 b hb
  · intro r hr
    rcases List.mem_or_eq_of_mem_set hr with hr | rfl
    · exact h.ids r hr
    · exact hx

/-- What is left of the rows when a node is struck. -/
def strike (rows : List (List Int)) (id : Int) : List (List Int) := if 0 ≤ whose rows id then rows.set (whose rows id).toNat ((rows.getD (whose rows id).toNat []).filter (· != id)) else rows
def put (rows : List (List Int)) (id dt : Int) : List (List Int) := if 0 ≤ dt then rows.set dt.toNat (rows.getD dt.toNat [] ++ [id]) else rows
/-- A node is given away: the error, the rows then. -/
def give (rows : List (List Int)) (n : Nat) (id dt : Int) : Int × List (List Int) := if isNode id n = true ∧ -1 ≤ dt ∧ dt < rows.length then (0, put (strike rows id) id dt) else (1, rows)
theorem strike_len (rows : List (List Int)) (id : Int) : (strike rows id).length = rows.length := by unfold strike; split <;> simp

theorem give_no (w : World) (p : Nat) (S : Nat → Prop) (rows : List (List Int)) (out : List Bool) (h : O w p S rows out) (id dt : Int) (hn : ¬ (isNode id out.length = true ∧ -1 ≤ dt ∧ dt < rows.length)) :
    Calls Try.prog 13 #[.pointer (some ⟨p, 0, none⟩), .int .i64 id, .int .i64 dt] w fun e w' => e = .returned (.int .i64 1) ∧ Below w.heap.size w w' := by
  have O1 := h.alloc (.cells #[.int .i64 id] 3)
  obtain ⟨rb, ob, vs, ha⟩ := _root_.id O1
  have h0 := ha.top.cell (i := 0) rfl
  clear ha
  obtain ⟨b, hb⟩ : ∃ b, isNode id out.length = b := ⟨_, rfl⟩
  have HB := Lib.hid hb
  cases b with
  | false =>
    clear hb hn
    go_enter Try.func13, Try.ntmps13
    go_wp2_with (go_at_call 23; refine (there_is _ _ _ _ _ O1 _ _ HB.out).mono ?_; rintro e w' ⟨rfl, rfl⟩)
    all_goals
      go_ret
      exact ⟨rfl, (Below.refl _ _).alloc (Nat.le_refl _) _⟩
  | true =>
    by_cases c1 : dt < -1
    · clear hb hn
      go_enter Try.func13, Try.ntmps13
      go_wp2_with (go_at_call 23; refine (there_is _ _ _ _ _ O1 _ _ HB.out).mono ?_; rintro e w' ⟨rfl, rfl⟩)
      all_goals
        go_ret
        exact ⟨rfl, (Below.refl _ _).alloc (Nat.le_refl _) _⟩
    · have c2 : (rows.length : Int) ≤ dt := by
        rcases Int.lt_or_le dt rows.length with h1 | h1
        · exact absurd ⟨hb, by omega, h1⟩ hn
        · exact h1
      clear hb hn
      go_enter Try.func13, Try.ntmps13
      go_wp2_with (go_at_call 23; refine (there_is _ _ _ _ _ O1 _ _ HB.out).mono ?_; rintro e w' ⟨rfl, rfl⟩)
      all_goals
        go_ret
        exact ⟨rfl, (Below.refl _ _).alloc (Nat.le_refl _) _⟩
set_option maxHeartbeats 2000000 in
theorem give_yes (w : World) (p : Nat) (S : Nat → Prop) (rows : List (List Int)) (out : List Bool) (h : O w p S rows out) (id dt : Int) (hn : isNode id out.length = true) (h1 : -1 ≤ dt) (h2 : dt < rows.length)
    (hx : ∀ r ∈ rows, r.length < 90000) :
    Calls Try.prog 13 #[.pointer (some ⟨p, 0, none⟩), .int .i64 id, .int .i64 dt] w fun e w' => e = .returned (.int .i64 0) ∧ ∃ S', O w' p S' (put (strike rows id) id dt) out ∧ Upd S w w' ∧ (∀ b, S' b → S b ∨ w.heap.size ≤ b) := by
  have hmf : ∀ (fn : Fn) (first cap : Array Value) (w : World), (Instr.makeFunc fn first cap).run Try.prog w = .ok (.func fn first cap) w := fun _ _ _ _ => rfl
  have O1 := h.alloc (.cells #[.int .i64 id] 3)
  have R1 : Row (w.alloc (.cells #[.int .i64 id] 3)) w.heap.size [.int .i64 id] := Row.new' rfl
  have U1 : Upd S w (w.alloc (.cells #[.int .i64 id] 3)) := (Upd.refl _ _).alloc _
  have hlt0 := h.lt
  obtain ⟨rb0, ob0, vs0, ha0⟩ := _root_.id O1
  have h0 := ha0.top.cell (i := 0) rfl
  have HN := Lib.hid hn
  clear ha0 hn
  go_enter Try.func13, Try.ntmps13
  go_wp2_with (go_at_call 23; refine (there_is _ _ _ _ _ O1 _ _ HN.out).mono ?_; rintro e w' ⟨rfl, rfl⟩)
  refine (of_all _ _ _ _ _ O1 id).mono ?_
  rintro e w1 ⟨rfl, hb1⟩
  have O2 := O1.below hb1
  have R2 := R1.below hb1 R1.lt
  have U2 := U1.trans (Upd.of_below (S := S) hb1)
  have hB : w.heap.size < w1.heap.size := R2.lt
  obtain ⟨B, hBB⟩ : ∃ B, w.heap.size = B := ⟨_, rfl⟩
  rw [hBB] at R2 hB hlt0 ⊢
  have HBB := Lib.hid hBB
  obtain ⟨y, hy⟩ : ∃ y, whose rows id = y := ⟨_, rfl⟩
  rw [hy]
  have HY := Lib.hid hy
  clear h0 hy hb1 O1 R1 U1 hBB
  go_upto_if 29 with (fail)
  go_cut [] from 30 to 44 (fun wx => O wx p S (strike rows id) out ∧ Upd S w wx ∧ Row wx B [.int .i64 id])
  case first =>
    rcases whose_cases rows id with ⟨e1, _⟩ | ⟨k, e1, hk, hc, _⟩
    · rw [HY.out] at e1
      subst e1
      have E := Lib.hid (show strike rows id = rows by unfold strike; rw [HY.out]; rfl)
      go_wp2_with fail
      go_meet
      case rel => rw [E.out]; exact ⟨O2, U2, R2⟩
    · rw [HY.out] at e1
      subst e1
      have E := Lib.hid (show strike rows id = rows.set k ((rows.getD k []).filter (· != id)) by unfold strike; rw [HY.out]; simp)
      obtain ⟨rb, ob, vs, ha⟩ := _root_.id O2
      have c0 := ha.top.cell (i := 0) rfl
      have c1 := ha.vcell hk
      have c2 := R2.cell (i := 0) rfl
      have f1 := ha.row.frozen k
      have hvb := fun b hb => ha.off k b hk hb
      have hvb2 : (vs.getD k nilv).ownBlock ≠ some B := fun e => by have := hlt0 _ (hvb _ e).2.2.2; omega
      have hkl : (k : Int) < (rows.length : Int) := by omega
      have KD := delete_all w1.drew _ _ B id ((ha.below (below_drewN (Below.refl _ _) 1)).own k hk) (by have := (ha.ids _ (mem_getD (d := []) hk)).1; omega) c2 hvb2 hc
      obtain ⟨v, hv⟩ : ∃ v, vs.getD k nilv = v := ⟨_, rfl⟩
      have HV := Lib.hid hv
      rw [hv] at c1 KD hvb hvb2
      have HD := Lib.hid KD
      have HS := Lib.hid ha.size.1
      have HVB := Lib.hid hvb
      have T0 := ha.top.drew
      have T1 := ha.row.drew
      have t1 : vs[k]? = some v := by have h3 := ha.vl; rw [← hv, List.getD, List.getElem?_eq_getElem (show k < vs.length by omega)]; rfl
      have HT1 := Lib.hid t1
      have hk0 : (0 : Int) ≤ (k : Int) := by omega
      clear t1
      obtain ⟨xs, hxx⟩ : ∃ xs, rows.getD k [] = xs := ⟨_, rfl⟩
      rw [hxx] at E HD
      have strike' : ∀ (va : Option Addr) (vcap : Nat) (w5 : World), w5.ownsRow 0 3 1 (.slice va (xs.filter (· != id)).length vcap) (xs.filter (· != id)).length (ints .i64 (xs.filter (· != id))) →
          (Value.slice va (xs.filter (· != id)).length vcap).ownBlock = v.ownBlock → Upd (fun k => v.ownBlock = some k) w1.drew w5 →
          O (w5.setCell ⟨rb, k, none⟩ (.slice va (xs.filter (· != id)).length vcap)) p S (strike rows id) out ∧ Upd S w (w5.setCell ⟨rb, k, none⟩ (.slice va (xs.filter (· != id)).length vcap)) ∧ Row (w5.setCell ⟨rb, k, none⟩ (.slice va (xs.filter (· != id)).length vcap)) B [.int .i64 id] := by
        intro va vcap w5 ho hvv hu
        have ha1 := ha.below (below_drewN (Below.refl _ _) 1)
        have hids := ha.ids _ (mem_getD (d := []) hk)
        rw [hxx] at hids
        rw [E.out]
        refine ⟨⟨rb, ob, _, ha1.setVal (S' := S) k hk _ _ (by rw [hv]; exact hu) ho (fun b hb => .inl (by rw [hv, ← hvv]; exact hb)) ?_ (fun b hb => Nat.lt_of_lt_of_le (ha.lt b hb) hu.size) ⟨Nat.le_trans (List.length_filter_le _ _) hids.1, fun x hx => hids.2 x (List.mem_filter.1 hx).1⟩⟩, ?_, ?_⟩
        · rintro b (hb | hb)
          · exact hb
          · rw [hvv] at hb; exact (hvb b hb).2.2.2
        · exact Upd.setCell (p := ⟨rb, k, none⟩) ((U2.drew).trans (hu.mono (fun i _ e => (hvb i e).2.2.2))) (.inl ha.sr) _
        · exact (R2.drew.upd hu (fun e => hvb2 e)).upd (Upd.one _ _ _ _) (fun e => by have := hlt0 _ ha.sr; omega)
      have STRIKE := Lib.hid strike'
      clear KD hv ha hvb hc strike' hxx
      go_wp2_with fail
      go_region_with ((first
          | (go_at_call 24; refine HD.out.mono ?_; rintro e w5 ⟨v', rfl, ho5, hv5, u5⟩; obtain ⟨va, vcap, rfl⟩ := owned_len1 ho5; have d0 := (T0.upd u5 (fun e => (HVB.out _ e).1 rfl)).cell (i := 0) rfl; have d1 := (T1.upd u5 (fun e => (HVB.out _ e).2.1 rfl)).cell (i := k) HT1.out; have g1 := (T1.upd u5 (fun e => (HVB.out _ e).2.1 rfl)).frozen k)))
      all_goals
        go_wp2_with fail
        go_meet
        case rel => exact STRIKE.out _ _ _ ho5 hv5 u5
  case rest =>
    obtain ⟨O3, U3, R3⟩ := hcut
    obtain ⟨w3, hw3⟩ : ∃ w3, wc = w3 := ⟨_, rfl⟩
    rw [hw3] at O3 U3 R3 ⊢
    have hsl := strike_len rows id
    have hxs : ∀ r ∈ strike rows id, r.length < 90000 := by
      intro r hr
      unfold strike at hr
      split at hr
      · rcases List.mem_or_eq_of_mem_set hr with hr | rfl
        · exact hx r hr
        · rename_i h0
          rcases whose_cases rows id with ⟨e1, _⟩ | ⟨k, e1, hk, _, _⟩
          · omega
          · rw [e1]
            exact Nat.lt_of_le_of_lt (List.length_filter_le _ _) (hx _ (mem_getD (by simpa using hk)))
      · exact hx r hr
    have HIN := Lib.hid (show 1 ≤ id ∧ id < (out.length : Int) by obtain ⟨j, rfl, a, b⟩ := isNode_nat HN.out; omega)
    obtain ⟨rows3, hr3⟩ : ∃ r, strike rows id = r := ⟨_, rfl⟩
    rw [hr3] at O3 hsl hxs
    have HR3 := Lib.hid hr3
    clear hw3 O2 U2 R2 HY HN hr3
    by_cases hto : dt < 0
    · obtain rfl : dt = -1 := by omega
      have E := Lib.hid (show put rows3 id (-1) = rows3 by unfold put; rfl)
      go_wp2_with fail
      go_ret
      rw [HR3.out, E.out]
      exact ⟨rfl, S, O3, U3, fun b hb => .inl hb⟩
    · obtain ⟨k, rfl⟩ := Int.eq_ofNat_of_zero_le (show 0 ≤ dt by omega)
      have hk : k < rows3.length := by omega
      have E := Lib.hid (show put rows3 id (k : Int) = rows3.set k (rows3.getD k [] ++ [id]) by unfold put; simp)
      obtain ⟨rb, ob, vs, ha⟩ := _root_.id O3
      have c0 := ha.top.cell (i := 0) rfl
      have c1 := ha.vcell hk
      have c2 := R3.cell (i := 0) rfl
      have hvb := fun b hb => ha.off k b hk hb
      have hkl : (k : Int) < (rows3.length : Int) := by omega
      have hk0 : (0 : Int) ≤ (k : Int) := by omega
      have hown := ha.own k hk
      obtain ⟨v, hv⟩ : ∃ v, vs.getD k nilv = v := ⟨_, rfl⟩
      rw [hv] at c1 hvb hown
      obtain ⟨xs, hxx⟩ : ∃ xs, rows3.getD k [] = xs := ⟨_, rfl⟩
      have hids := ha.ids _ (mem_getD (d := []) hk)
      rw [hxx] at hown hids E
      have HXX := Lib.hid hxx
      have hxl := hids.1
      have T0 := (ha.top.alloc (.cells #[.int .i64 id] 3)).drew
      have T1 := (ha.row.alloc (.cells #[.int .i64 id] 3)).drew
      have t1 : vs[k]? = some v := by have h3 := ha.vl; rw [← hv, List.getD, List.getElem?_eq_getElem (show k < vs.length by omega)]; rfl
      have HT1 := Lib.hid t1
      have HVB := Lib.hid hvb
      have HS := Lib.hid ha.size.1
      have b0 := T0.cell (i := 0) rfl
      have b1 := T1.cell HT1.out
      have hown2 : ((w3.alloc (.cells #[.int .i64 id] 3)).drew).ownsRow 0 3 1 v xs.length (ints .i64 xs) := own_upd hown (((Upd.refl (fun _ => False) _).alloc _).drew) (fun _ _ => _root_.id)
      have n7 : Row ((w3.alloc (.cells #[.int .i64 id] 3)).drew) w3.heap.size [.int .i64 id] := (Row.new' rfl).drew
      obtain ⟨ti, i1, i2, i3, i4⟩ := info_parts info_i64
      have put' : ∀ (g gc : Nat) (w8 : World), w8.ownsRow 0 3 1 (.slice (some ⟨g, 0, none⟩) (xs.length + 1) gc) (xs.length + 1) (ints .i64 xs ++ [.int .i64 id]) → Upd (fun k => v.ownBlock = some k) ((w3.alloc (.cells #[.int .i64 id] 3)).drew) w8 → (v.ownBlock = some g ∨ g = ((w3.alloc (.cells #[.int .i64 id] 3)).drew).heap.size) → g < w8.heap.size →
          ∃ S', O (w8.setCell ⟨rb, k, none⟩ (.slice (some ⟨g, 0, none⟩) (xs.length + 1) gc)) p S' (put (strike rows id) id (k : Int)) out ∧ Upd S w (w8.setCell ⟨rb, k, none⟩ (.slice (some ⟨g, 0, none⟩) (xs.length + 1) gc)) ∧ (∀ b, S' b → S b ∨ w.heap.size ≤ b) := by
        intro g gc w8 ho hu hat hlt
        rw [HR3.out, E.out]
        have ha1 := (ha.below ((Below.refl _ _).alloc (Nat.le_refl _) (.cells #[.int .i64 id] 3))).below (below_drewN (Below.refl _ _) 1)
        rw [ints_snoc] at ho
        have hs3 := U3.size
        have hu0 : Upd S w w8 := ((U3.alloc _).drew).trans (hu.mono (fun i _ e => (hvb i e).2.2.2))
        refine ⟨fun b => S b ∨ b = g, ⟨rb, ob, _, ha1.setVal k hk _ _ (by rw [hv]; exact hu) (by simpa using ho) ?_ ?_ ?_ ⟨?_, ?_⟩⟩, ?_, ?_⟩
        · intro b hb
          simp [Value.ownBlock] at hb
          subst hb
          rcases hat with e | e
          · exact .inl (by rw [hv]; exact e)
          · right
            exact Nat.le_of_eq e.symm
        · intro b hb
          rcases hb with hb | hb
          · exact .inl hb
          · simp [Value.ownBlock] at hb; exact .inr hb.symm
        · rintro b (hb | rfl)
          · exact Nat.lt_of_lt_of_le (ha1.lt b hb) hu.size
          · exact hlt
        · have := hxs _ (mem_getD (d := []) hk); rw [hxx] at this; simp; omega
        · intro x hx2
          rcases List.mem_append.1 hx2 with hx2 | hx2
          · exact hids.2 x hx2
          · simp at hx2; subst hx2; exact HIN.out
        · exact Upd.setCell (p := ⟨rb, k, none⟩) hu0 (.inl ha.sr) _
        · rintro b (hb | rfl)
          · exact .inl hb
          · rcases hat with e | e
            · exact .inl (hvb _ e).2.2.2
            · have e2 : b = (w3.alloc (.cells #[.int .i64 id] 3)).heap.size := e
              simp at e2
              exact .inr (by omega)
      have PUT := Lib.hid put'
      clear t1 hvb ha hv hown h1 h2 put'
      go_wp2_with fail
      go_region_law (refine step_append_lies _ rfl (.tmp 58) (.tmp 60) 26 rfl 0 3 ti (.int .i64 0) 1 8 Try.underlying26 i1 i2 i3 i4 rfl (by decide) v xs.length (ints .i64 xs) rfl hown2 ⟨w3.heap.size, 0, none⟩ 1 1 [.int .i64 id] rfl rfl (row_news n7) (one_cell rfl) (by decide) (by unfold maxLen; omega) (by omega) (Nat.zero_le _) _ rfl ?_; intro g gc w8 hown8 hgrow hat hlt8; have u8 := Upd.grown hgrow; have e7 := (T0.upd u8 (fun e => (HVB.out _ e).1 rfl)).cell (i := 0) rfl; have e8 := (T1.upd u8 (fun e => (HVB.out _ e).2.1 rfl)).cell HT1.out; have f8 := (T1.upd u8 (fun e => (HVB.out _ e).2.1 rfl)).frozen k)
      all_goals
        go_wp2_with fail
        go_ret
        exact ⟨rfl, PUT.out _ _ _ hown8 u8 hat hlt8⟩
end Go.Proofs.Ytnmldhagdgghoaa.Pool
