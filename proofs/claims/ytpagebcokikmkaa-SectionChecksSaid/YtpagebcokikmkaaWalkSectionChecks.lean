/- The law SectionChecks, walked: whether any deeds are a section, and if they aren't, where, is what the document says. -/
import Derived.Test.YtpagebcokikmkaaSecO
namespace Go.Proofs.Ytpagebcokikmkaa.WalkSectionChecks
open Go Go.RowKit Go.Deep Go.Proofs.Ytpagebcokikmkaa.Heap Go.Proofs.Ytpagebcokikmkaa.Open Go.Proofs.Ytpagebcokikmkaa.Sec

/-- Where deeds stop being a section, and why. -/
def chk : List D → Nat → Int × Int
  | [], i => (i, 0)
  | d :: r, i => if 64 ≤ i then (i, 5) else if d.may then chk r (i + 1) else (i, 4)
theorem chk_drop (xs : List D) (k : Nat) (h : k < xs.length) : chk (xs.drop k) k = if 64 ≤ k then ((k : Int), 5) else if (xs.getD k default).may then chk (xs.drop (k + 1)) (k + 1) else ((k : Int), 4) := by
  rw [List.drop_eq_getElem_cons h, getD_lt _ _ _ h]; rfl

theorem right_all (w : World) (x : D) : Calls Try.prog 19 #[.agg #[.int .i64 x.k, .int .i64 x.c, .int .u32 x.n]] w fun e w' => e = .returned (.bool x.may) ∧ Upd (fun _ => False) w w' := by
  obtain ⟨k, c, n⟩ := x
  unfold D.may
  by_cases c1 : k = 1 ∨ k = 4
  · have hif : ¬ (k = 2 ∨ k = 3) := by omega
    rw [if_neg hif]
    by_cases c4 : 0 ≤ c
    · by_cases c5 : c < 16
      · rcases c1 with rfl | rfl
        all_goals
          clear hif
          go_enter Try.func19, Try.ntmps19
          go_wp2
          go_ret
          exact ⟨by simp <;> omega, (Upd.refl _ _).alloc _⟩
      · rcases c1 with rfl | rfl
        all_goals
          clear hif
          go_enter Try.func19, Try.ntmps19
          go_wp2
          go_ret
          exact ⟨by simp <;> omega, (Upd.refl _ _).alloc _⟩
    · rcases c1 with rfl | rfl
      all_goals
        clear hif
        go_enter Try.func19, Try.ntmps19
        go_wp2
        go_ret
        exact ⟨by simp <;> omega, (Upd.refl _ _).alloc _⟩
  · have t1 : (k == 1) = false := by simp; omega
    have t4 : (k == 4) = false := by simp; omega
    by_cases c2 : k = 2
    · subst c2
      clear t1 t4 c1
      go_enter Try.func19, Try.ntmps19
      go_wp2
      go_ret
      exact ⟨by simp, (Upd.refl _ _).alloc _⟩
    · by_cases c3 : k = 3
      · subst c3
        clear t1 t4 c1 c2
        go_enter Try.func19, Try.ntmps19
        go_wp2
        go_ret
        exact ⟨by simp, (Upd.refl _ _).alloc _⟩
      · have t2 : (k == 2) = false := by simpa using c2
        have t3 : (k == 3) = false := by simpa using c3
        rw [if_neg (show ¬ (k = 2 ∨ k = 3) by omega)]
        go_enter Try.func19, Try.ntmps19
        go_wp2
        go_ret
        exact ⟨by simp <;> omega, (Upd.refl _ _).alloc _⟩

set_option maxHeartbeats 1000000 in
theorem check_all (w : World) (v : Value) (xs : List D) (h : Deeds w v xs) : Calls Try.prog 16 #[v] w fun e w' => e = .returned (.tuple #[.int .i64 (chk xs 0).1, .int .i64 (chk xs 0).2]) ∧ Upd (fun _ => False) w w' := by
  have hfit := h.fit
  obtain ⟨aa, ca, rfl⟩ : ∃ a c, v = .slice a xs.length c := by obtain ⟨⟨ao, cap, rfl, _⟩, _, _⟩ := h; exact ⟨_, _, rfl⟩
  go_enter Try.func16, Try.ntmps16
  go_wp2_with fail
  go_loopw [8] (fun i wr => ∃ k : Nat, k ≤ xs.length ∧ i = .int .i64 k ∧ chk xs 0 = chk (xs.drop k) k ∧ Below w.heap.size w wr) (fun i _ => xs.length - (intOf i).toNat)
  case atStart => exact ⟨0, Nat.zero_le _, rfl, rfl, Below.refl _ _⟩
  case round =>
    obtain ⟨k, hk, rfl, hc, B1⟩ := hrel
    have hz := B1.size
    by_cases hlt : k < xs.length
    · obtain ⟨b, off, rfl, hbl, hcell⟩ := h.row (by omega)
      obtain ⟨c0, c1, c2⟩ := hcell _ B1 k hlt
      rw [chk_drop xs k hlt] at hc
      obtain ⟨x, hx⟩ : ∃ x, xs.getD k default = x := ⟨_, rfl⟩
      rw [hx] at c0 c1 c2 hc
      have B2 := B1.alloc hz (.cells #[.int .i64 x.k, .int .i64 x.c, .int .u32 x.n] 30)
      have HC := Lib.hid hc
      clear hx hcell hc h
      by_cases h64 : 64 ≤ k
      · have h64' : (64 : Int) ≤ k := by omega
        go_wp2_with fail
        go_ret2
        exact ⟨by rw [HC.out, if_pos h64]; rfl, Upd.of_below B2⟩
      · have h64' : (k : Int) < 64 := by omega
        go_wp2_with fail
        refine (right_all _ x).mono ?_
        rintro e w2 ⟨rfl, u2⟩
        have B3 := B2.trans (u2.none.mono (by simp; omega))
        cases hm : x.may
        · have HM := Lib.hid hm
          clear hm
          go_wp2_with fail
          go_ret2
          exact ⟨by rw [HC.out, if_neg h64, HM.out]; rfl, Upd.of_below B3⟩
        · have HM := Lib.hid hm
          clear hm
          go_wp2_with fail
          go_roundw
          case rel => exact ⟨k + 1, by omega, by go_num, by rw [HC.out, if_neg h64, HM.out]; rfl, B3⟩
          case measure => simp [intOf]; omega
    · obtain rfl : k = xs.length := by omega
      have HC := Lib.hid hc
      clear hc
      go_wp2_with fail
      go_ret2
      exact ⟨by rw [HC.out, List.drop_length]; rfl, Upd.of_below B1⟩

set_option maxHeartbeats 1000000 in
theorem walk (v : Value) (xs : List D) (w : World) (hx : DeedsIn w v xs) : Calls Try.prog 6 #[v] w fun e w' => e = .returned (.bool true) ∧ Below w.heap.size w w' := by
  obtain ⟨aa, ca, rfl⟩ := hx.src.len
  have h := hx.1
  clear hx
  by_cases hlong : 80 < xs.length
  · have hl : (80 : Int) < xs.length := by omega
    clear h
    go_enter Try.func6, Try.ntmps6
    go_wp2_with fail
    refine (awake _).mono ?_
    rintro e w4 ⟨rfl, u4⟩
    go_wp2
    go_ret
    exact ⟨rfl, u4⟩
  have hl : (xs.length : Int) ≤ 80 := by omega
  go_enter Try.func6, Try.ntmps6
  go_wp2_with fail
  refine (check_all _ _ xs h).mono ?_
  rintro e w1 ⟨rfl, u1⟩
  have B1 : Below w.heap.size w w1 := u1.none
  go_wp2_with fail
  refine (ref_all _ _ xs (h.below B1)).mono ?_
  rintro e w2 ⟨u, rfl, hown, u2⟩
  have B2 : Below w.heap.size w w2 := B1.trans (u2.none.mono B1.size)
  have hcells : 0 < xs.length → ∃ g cap, u = .slice (some ⟨g, 0, none⟩) xs.length cap ∧ g < w2.heap.size ∧ ∀ k, k < xs.length → ∀ w', Below w2.heap.size w2 w' → w'.cell? ⟨g, k * 3, none⟩ = some (.int .i64 (xs.getD k default).k) ∧ w'.cell? ⟨g, k * 3 + 1, none⟩ = some (.int .i64 (xs.getD k default).c) ∧ w'.cell? ⟨g, k * 3 + 2, none⟩ = some (.int .u32 (xs.getD k default).n) := by
    intro hp
    obtain ⟨g, cap, hv, _, hg, hc⟩ := owned_flat hown hp
    exact ⟨g, cap, hv, hg, fun k hk w' hw => ⟨(hw.cell (p := ⟨g, k * 3, none⟩) hg).trans (hc k hk).1, (hw.cell (p := ⟨g, k * 3 + 1, none⟩) hg).trans (hc k hk).2.1, (hw.cell (p := ⟨g, k * 3 + 2, none⟩) hg).trans (hc k hk).2.2⟩⟩
  obtain ⟨ua, ucap, rfl⟩ := owned_len hown
  obtain ⟨cn, hcn⟩ : ∃ cn, (chk xs 0).1 = cn := ⟨_, rfl⟩
  obtain ⟨ce, hce⟩ : ∃ ce, (chk xs 0).2 = ce := ⟨_, rfl⟩
  rw [hcn, hce]
  have hz2 := B2.size
  clear u1 u2 hown h B1
  go_wp2_with fail
  go_loopw [19] (fun i wr => ∃ k : Nat, k ≤ xs.length ∧ i = .int .i64 k ∧ chk xs 0 = chk (xs.drop k) k ∧ Below w.heap.size w wr ∧ Below w2.heap.size w2 wr) (fun i _ => xs.length - (intOf i).toNat)
  case atStart => exact ⟨0, Nat.zero_le _, rfl, rfl, B2, Below.refl _ _⟩
  case round =>
    obtain ⟨k, hk, rfl, hc, B3, B4⟩ := hrel
    have hz3 := B3.size
    have hz4 := B4.size
    by_cases hlt : k < xs.length
    · obtain ⟨g, cap, hu, hg, hcell⟩ := hcells (by omega)
      simp only [Value.slice.injEq] at hu
      obtain ⟨rfl, -, rfl⟩ := hu
      obtain ⟨c0, c1, c2⟩ := hcell k hlt _ B4
      rw [chk_drop xs k hlt] at hc
      obtain ⟨x, hx⟩ : ∃ x, xs.getD k default = x := ⟨_, rfl⟩
      rw [hx] at c0 c1 c2 hc
      have B5 := B3.alloc hz3 (.cells #[.int .i64 x.k, .int .i64 x.c, .int .u32 x.n] 45)
      have B6 := B4.alloc hz4 (.cells #[.int .i64 x.k, .int .i64 x.c, .int .u32 x.n] 45)
      have hz5 := B5.size
      have hz6 := B6.size
      clear hx hcell hcells
      by_cases h64 : 64 ≤ k
      · have h64' : (64 : Int) ≤ k := by omega
        rw [if_pos h64] at hc
        rw [hc] at hcn hce
        simp only at hcn hce
        subst hcn hce
        clear hc
        go_wp2_with fail
        refine (awake _).mono ?_
        rintro e w4 ⟨rfl, u4⟩
        go_wp2
        go_ret
        exact ⟨rfl, B5.trans (u4.mono hz5)⟩
      · have h64' : (k : Int) < 64 := by omega
        rw [if_neg h64] at hc
        have HC := Lib.hid hc
        have HN := Lib.hid hcn
        have HE := Lib.hid hce
        clear hc hcn hce
        go_wp2_with fail
        refine (may_all _ x).mono ?_
        rintro e w5 ⟨rfl, u5⟩
        have B7 := B5.trans (u5.none.mono hz5)
        have B8 := B6.trans (u5.none.mono hz6)
        cases hm : x.may
        · have hc := HC.out
          have hcn := HN.out
          have hce := HE.out
          rw [hm] at hc
          rw [hc] at hcn hce
          simp only [Bool.false_eq_true, if_false] at hcn hce
          subst hcn hce
          clear hc hm HC HN HE
          go_wp2_with fail
          refine (awake _).mono ?_
          rintro e w6 ⟨rfl, u6⟩
          go_wp2
          go_ret
          exact ⟨rfl, B7.trans (u6.mono B7.size)⟩
        · have HM := Lib.hid hm
          clear hm
          go_wp2_with fail
          go_roundw
          case rel => exact ⟨k + 1, by omega, by go_num, by rw [HC.out, HM.out]; rfl, B7, B8⟩
          case measure => simp [intOf]; omega
    · obtain rfl : k = xs.length := by omega
      rw [List.drop_length] at hc
      have e : chk [] xs.length = ((xs.length : Int), 0) := rfl
      rw [hc, e] at hcn hce
      simp only at hcn hce
      subst hcn hce
      clear hc e hcells
      go_wp2_with fail
      refine (awake _).mono ?_
      rintro e w6 ⟨rfl, u6⟩
      go_wp2
      go_ret
      exact ⟨rfl, B3.trans (u6.mono B3.size)⟩
end Go.Proofs.Ytpagebcokikmkaa.WalkSectionChecks
