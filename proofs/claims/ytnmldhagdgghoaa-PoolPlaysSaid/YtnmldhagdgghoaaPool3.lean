/- Package pool: whose a node is; Take, Give. -/
import Derived.Test.YtnmldhagdgghoaaPool2
namespace Go.Proofs.Ytnmldhagdgghoaa.Pool
open Go Go.RowKit Go.Proofs.Ytnmldhagdgghoaa.Heap Go.Proofs.Ytnmldhagdgghoaa.Open Go.Proofs.Ytnmldhagdgghoaa.Sl

/-- Whose a node is; -1: nobody's. -/
def whose : List (List Int) → Int → Int
  | [], _ => -1
  | r :: rs, x => if r.contains x = true then 0 else if whose rs x < 0 then -1 else whose rs x + 1
/-- It is in none of the first k rows. -/
def Nobody (rows : List (List Int)) (x : Int) (k : Nat) : Prop := ∀ j, j < k → (rows.getD j []).contains x = false
theorem whose_hit : ∀ (rows : List (List Int)) (x : Int) (k : Nat), Nobody rows x k → k < rows.length → (rows.getD k []).contains x = true → whose rows x = k
  | [], _, _, _, h, _ => by simp at h
  | y :: r, x, 0, _, _, h => by
    have h : y.contains x = true := h
    unfold whose; rw [if_pos h]; rfl
  | y :: r, x, k + 1, hb, hk, h => by
    have h0 : y.contains x = false := hb 0 (by omega)
    have := whose_hit r x k (fun j hj => hb (j + 1) (by omega)) (by simpa using hk) h
    unfold whose
    rw [if_neg (by rw [h0]; simp), this, if_neg (by omega)]; omega
theorem whose_miss : ∀ (rows : List (List Int)) (x : Int), Nobody rows x rows.length → whose rows x = -1
  | [], _, _ => rfl
  | y :: r, x, hb => by
    have h0 : y.contains x = false := hb 0 (by simp)
    have := whose_miss r x (fun j hj => hb (j + 1) (by simpa using hj))
    unfold whose
    rw [if_neg (by rw [h0]; simp), this, if_pos (by omega)]
theorem whose_cases (rows : List (List Int)) (x : Int) : (whose rows x = -1 ∧ Nobody rows x rows.length) ∨ ∃ k : Nat, whose rows x = k ∧ k < rows.length ∧ (rows.getD k []).contains x = true ∧ Nobody rows x k := by
  induction rows with
  | nil => exact .inl ⟨rfl, fun j hj => by simp at hj⟩
  | cons r rs ih =>
    by_cases h : r.contains x = true
    · exact .inr ⟨0, by unfold whose; rw [if_pos h]; rfl, by simp, h, fun j hj => absurd hj (Nat.not_lt_zero _)⟩
    · have h' : r.contains x = false := by simpa using h
      rcases ih with ⟨h1, h2⟩ | ⟨k, h1, h2, h3, h4⟩
      · refine .inl ⟨by unfold whose; rw [if_neg h, h1]; rfl, fun j hj => ?_⟩
        cases j with
        | zero => exact h'
        | succ j => exact h2 j (by simpa using hj)
      · refine .inr ⟨k + 1, by unfold whose; rw [if_neg h, h1, if_neg (by omega)]; omega, by simpa using h2, h3, fun j hj => ?_⟩
        cases j with
        | zero => exact h'
        | succ j => exact h4 j (by omega)
theorem Nobody.zero (rows : List (List Int)) (x : Int) : Nobody rows x 0 := fun _ h => absurd h (Nat.not_lt_zero _)
theorem Nobody.next {rows : List (List Int)} {x : Int} {k : Nat} (h : Nobody rows x k) (hk : (rows.getD k []).contains x = false) : Nobody rows x (k + 1) := fun j hj => by
  by_cases e : j = k
  · subst e; exact hk
  · exact h j (by omega)

theorem of1 (w : World) (b : Nat) (v : Value) (xs : List Int) (id : Int) (h : Src1 w v .i64 xs) (hl : xs.length ≤ 1000000) (hb : w.cell? ⟨b, 0, none⟩ = some (.int .i64 id)) :
    Calls Try.prog 21 #[v, .pointer (some ⟨b, 0, none⟩)] w fun e w' => e = .returned (.bool (xs.contains id)) ∧ w = w' := by
  have KC := contains_all w v xs id h hl
  obtain ⟨y, hy⟩ : ∃ y, xs.contains id = y := ⟨_, rfl⟩
  rw [hy] at KC ⊢
  have HC := Lib.hid KC
  clear KC hy h
  go_enter Try.func21, Try.ntmps21
  go_wp2_with (go_at_call 22; refine HC.out.mono ?_; rintro e w' ⟨rfl, rfl⟩)
  go_ret
  exact ⟨rfl, rfl⟩
theorem index_rows (w : World) (p rb ob : Nat) (vs : List Value) (S : Nat → Prop) (rows : List (List Int)) (out : List Bool) (h : At w p rb ob vs S rows out) (b : Nat) (id : Int) (hb : w.cell? ⟨b, 0, none⟩ = some (.int .i64 id)) :
    Calls Try.prog 20 #[.slice (some ⟨rb, 0, none⟩) rows.length rows.length, .func (.func 21) #[] #[.pointer (some ⟨b, 0, none⟩)]] w fun e w' => e = .returned (.int .i64 (whose rows id)) ∧ w = w' := by
  have hs := h.size.1
  go_enter Try.func20, Try.ntmps20
  go_wp2
  go_loop [8] (fun i => ∃ k : Nat, k ≤ rows.length ∧ i = .int .i64 k ∧ Nobody rows id k) (fun i => rows.length - (intOf i).toNat)
  case atStart => exact ⟨0, Nat.zero_le _, rfl, Nobody.zero _ _⟩
  case round =>
    obtain ⟨k, hk, rfl, hB⟩ := hrel
    have HB := Lib.hid hB
    clear hB
    by_cases hlt : k < rows.length
    · have c0 := h.vcell hlt
      have KG := of1 w b _ _ id (h.src hlt) (by have := (h.ids _ (mem_getD (d := []) hlt)).1; omega) hb
      obtain ⟨v, hv⟩ : ∃ v, vs.getD k nilv = v := ⟨_, rfl⟩
      rw [hv] at c0 KG
      have hkl : (k : Int) < (rows.length : Int) := by omega
      cases hc : (rows.getD k []).contains id with
      | true =>
        rw [hc] at KG
        have HI := Lib.hid (whose_hit rows id k HB.out hlt hc)
        have HG := Lib.hid KG
        clear KG hc hv
        go_wp2_with (go_at_call 21; refine HG.out.mono ?_; rintro e w' ⟨rfl, rfl⟩)
        go_ret
        exact ⟨ret_int (by rw [HI.out]), rfl⟩
      | false =>
        rw [hc] at KG
        have HI := Lib.hid (HB.out.next hc)
        have HG := Lib.hid KG
        clear KG hc hv
        go_wp2_with (go_at_call 21; refine HG.out.mono ?_; rintro e w' ⟨rfl, rfl⟩)
        go_round
        case rel => exact ⟨k + 1, by omega, by go_num, HI.out⟩
        case measure => simp [intOf]; omega
    · obtain rfl : k = rows.length := by omega
      go_wp2
      go_ret
      exact ⟨ret_int (by rw [whose_miss rows id HB.out]), rfl⟩
theorem of_all (w : World) (p : Nat) (S : Nat → Prop) (rows : List (List Int)) (out : List Bool) (h : O w p S rows out) (id : Int) :
    Calls Try.prog 8 #[.pointer (some ⟨p, 0, none⟩), .int .i64 id] w fun e w' => e = .returned (.int .i64 (whose rows id)) ∧ Below w.heap.size w w' := by
  have hmf : ∀ (fn : Fn) (first cap : Array Value) (w : World), (Instr.makeFunc fn first cap).run Try.prog w = .ok (.func fn first cap) w := fun _ _ _ _ => rfl
  obtain ⟨rb, ob, vs, ha⟩ := h.alloc (.cells #[.int .i64 id] 3)
  have h0 := ha.top.cell (i := 0) rfl
  have KI := index_rows _ p rb ob vs S rows out ha w.heap.size id (by simp)
  obtain ⟨y, hy⟩ : ∃ y, whose rows id = y := ⟨_, rfl⟩
  rw [hy] at KI ⊢
  have HK := Lib.hid KI
  clear KI hy ha h
  go_enter Try.func8, Try.ntmps8
  go_wp2_with (go_at_call 20; refine HK.out.mono ?_; rintro e w' ⟨rfl, rfl⟩)
  go_ret
  exact ⟨rfl, (Below.refl _ _).alloc (Nat.le_refl _) _⟩
/-- The first of some nodes that isn't out: it, the error, what is out then. -/
def take (out : List Bool) : List Int → (Int × Int) × List Bool
  | [] => ((0, 6), out)
  | x :: r => if out.getD x.toNat false then take out r else ((x, 0), out.set x.toNat true)
theorem take_drop (out : List Bool) : ∀ (xs : List Int) (k : Nat), k < xs.length → out.getD (xs.getD k 0).toNat false = true → take out (xs.drop k) = take out (xs.drop (k + 1)) := by
  intro xs k hk h
  rw [List.drop_eq_getElem_cons hk]
  rw [getD_lt _ _ _ hk] at h
  rw [take, if_pos h]
theorem take_free (out : List Bool) : ∀ (xs : List Int) (k : Nat), k < xs.length → out.getD (xs.getD k 0).toNat false = false → take out (xs.drop k) = ((xs.getD k 0, 0), out.set (xs.getD k 0).toNat true) := by
  intro xs k hk h
  rw [List.drop_eq_getElem_cons hk]
  rw [getD_lt _ _ _ hk] at h ⊢
  rw [take, if_neg (by rw [h]; simp)]
set_option maxHeartbeats 1000000 in
theorem take_all (w : World) (p : Nat) (S : Nat → Prop) (rows : List (List Int)) (out : List Bool) (h : O w p S rows out) (t : Int) :
    Calls Try.prog 7 #[.pointer (some ⟨p, 0, none⟩), .int .i64 t] w fun e w' =>
      e = .returned (.tuple #[.int .i64 (take out (rowOf rows t)).1.1, .int .i64 (take out (rowOf rows t)).1.2]) ∧ O w' p S rows (take out (rowOf rows t)).2 ∧ Upd S w w' := by
  have hro := rowOf_len h.ids t
  obtain ⟨xs, hxs⟩ : ∃ xs, rowOf rows t = xs := ⟨_, rfl⟩
  have KR := row_all w p S rows out h t
  rw [hxs] at KR hro ⊢
  clear hxs
  obtain ⟨hxl, hxin⟩ := hro
  have HX := Lib.hid hxin
  clear hxin
  have hsz := h.size.2.2
  go_enter Try.func7, Try.ntmps7
  go_wp2_with fail
  refine KR.mono ?_
  rintro e w1 ⟨v, rfl, ho, hb⟩
  have O1 := h.below hb
  have hsrc := Src1.of_owned ho
  clear KR ho
  obtain ⟨a, cap, rfl, hn, hc⟩ := hsrc
  obtain ⟨W, hW⟩ : ∃ W, w1 = W := ⟨_, rfl⟩
  rw [hW] at hb O1 hc ⊢
  clear hW hn
  go_wp2_with fail
  go_loop [12] (fun i => ∃ k : Nat, k ≤ xs.length ∧ i = .int .i64 k ∧ take out xs = take out (xs.drop k)) (fun i => xs.length - (intOf i).toNat)
  case atStart => exact ⟨0, Nat.zero_le _, rfl, rfl⟩
  case round =>
    obtain ⟨k, hk, rfl, hT⟩ := hrel
    have HT := Lib.hid hT
    clear hT
    by_cases hlt : k < xs.length
    · obtain ⟨b, off, rfl, hbb, hcell⟩ := hc (by omega)
      have c0 := hcell k hlt
      have hi := HX.out _ (mem_getD (d := 0) hlt)
      have T1 := take_drop out xs k hlt
      have T2 := take_free out xs k hlt
      obtain ⟨y, hy⟩ : ∃ y, xs.getD k 0 = y := ⟨_, rfl⟩
      rw [hy] at c0 hi T1 T2
      clear hcell hy
      obtain ⟨n, rfl⟩ := Int.eq_ofNat_of_zero_le (show 0 ≤ y by omega)
      have hn : n < out.length := by omega
      obtain ⟨rb, ob, vs, ha⟩ := id O1
      have g0 := ha.top.cell (i := 1) rfl
      have g1 := ha.ocell hn
      have f1 := ha.outs.frozen n
      rw [Int.toNat_natCast] at T1 T2
      cases ho : out.getD n false with
      | true =>
        rw [ho] at g1
        have HT1 := Lib.hid (T1 ho)
        clear T1 T2 ho hi ha
        go_wp2_with fail
        go_round
        case rel => exact ⟨k + 1, by omega, by go_num, by rw [HT.out, HT1.out]⟩
        case measure => simp [intOf]; omega
      | false =>
        rw [ho] at g1
        have HT2 := Lib.hid (T2 ho)
        clear T1 T2 ho hi
        go_wp2_with fail
        go_ret2
        rw [HT.out, HT2.out]
        exact ⟨rfl, ⟨rb, ob, vs, ha.setOut n true⟩, Upd.setCell (p := ⟨ob, n, none⟩) (Upd.of_below hb) (.inl ha.so) _⟩
    · obtain rfl : k = xs.length := by omega
      have HT3 := Lib.hid (show take out xs = ((0, 6), out) by rw [HT.out, List.drop_length]; rfl)
      clear hc HT
      go_wp2_with fail
      go_ret2
      rw [HT3.out]
      exact ⟨rfl, O1, Upd.of_below hb⟩
end Go.Proofs.Ytnmldhagdgghoaa.Pool
