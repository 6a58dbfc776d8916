/- The law AbortNews, walked. -/
import Derived.Test.YtlkpfdboagjaoaaLaw14
import Derived.Test.YtlkpfdboagjaoaaOps10
namespace Go.Proofs.Ytlkpfdboagjaoaa.WalkAbortNews
open Go Go.RowKit Go.Proofs.Ytlkpfdboagjaoaa.Heap Go.Proofs.Ytlkpfdboagjaoaa.Open Go.Proofs.Ytlkpfdboagjaoaa.Seat Go.Proofs.Ytlkpfdboagjaoaa.Mach Go.Proofs.Ytlkpfdboagjaoaa.Has Go.Proofs.Ytlkpfdboagjaoaa.Lk Go.Proofs.Ytlkpfdboagjaoaa.Abort Go.Proofs.Ytlkpfdboagjaoaa.StepU Go.Proofs.Ytlkpfdboagjaoaa.Law14

set_option maxHeartbeats 8000000 in
theorem walk (v : Value) (hs : List Int) (n a : Int) (w : World) (h0 : Src1 w v .i64 hs) (ha8 : (Lit.int .u8 a).wf = true) :
    Calls Try.prog 3 #[v, .int .i64 n, .int .u8 a] w fun e w' => e = .returned (.bool true) ∧ Below w.heap.size w w' := by
  have ha := bounds_u8 ha8
  clear ha8
  have HSRC := Lib.hid h0
  have hown : ∀ b, v.ownBlock = some b → 1 ≤ hs.length → b < w.heap.size := by
    intro b hb h1
    obtain ⟨_, _, rfl, -, hcell⟩ := h0
    obtain ⟨b', off, rfl, hbw, -⟩ := hcell (by omega)
    simp [Value.ownBlock] at hb
    omega
  have HOWN := Lib.hid hown
  obtain ⟨ao, cp, rfl, -, -⟩ := h0
  clear hown
  by_cases h80 : 80 < hs.length
  · have d1 : (80 : Int) < (hs.length : Int) := by omega
    go_enter Try.func3, Try.ntmps3
    go_wp2_with fail
    refine (awake _).mono ?_
    rintro e w4 ⟨rfl, u4⟩
    go_wp2_with fail
    go_ret
    exact ⟨rfl, u4⟩
  have d1 : (hs.length : Int) ≤ 80 := by omega
  go_enter Try.func3, Try.ntmps3
  go_wp2_with fail
  refine (Plan.newPl _ 2).mono ?_
  rintro e w1 ⟨pl, rfl, hpl, hB1⟩
  have hz1 := hB1.size
  go_wp2_with fail
  refine (Plan.rowPl _ pl _ 2 [] [] hpl (by decide) a 0 3).mono ?_
  rintro e w2 ⟨rfl, S2, hp2, hu2, hS2⟩
  have hB2 : Below w.heap.size w w2 := hu2.below hB1 hz1 (fun i hi => hi.1)
  have hz2 := hB2.size
  have hS2' : ∀ b, S2 b → w.heap.size ≤ b := fun b hb => by rcases hS2 b hb with h | h; exact h.1; omega
  obtain ⟨m, hm⟩ : ∃ m : Nat, (m : Int) = a := ⟨a.toNat, by omega⟩
  have hcm : Plan.cnt a = m := by unfold Plan.cnt; omega
  rw [hcm] at hp2
  obtain ⟨hs0, ehs⟩ : ∃ x, [] ++ List.replicate m (0 : Int) = x := ⟨_, rfl⟩
  obtain ⟨xs0, exs⟩ : ∃ x, [] ++ List.replicate m (3 : Int) = x := ⟨_, rfl⟩
  have hxl : xs0.length = m := by rw [← exs]; simp
  rw [ehs, exs] at hp2
  clear ehs exs hpl hu2 hB1 hcm hS2
  by_cases hbad : hs.length < 1 ∨ 64 < hs.length ∨ Mem.homesOk hs = false
  · have KN := Abort.new_no w2 pl (.slice ao hs.length cp) hs n (HSRC.out.below hB2) (by omega) hbad
    have HKN := Lib.hid KN
    have hplt := hp2.lt
    clear KN
    go_wp2_with fail
    refine HKN.out.mono ?_
    rintro e w3 ⟨rfl, hB3⟩
    have hp3 := hp2.below hB3
    have hB4 := hB2.trans (hB3.mono hz2)
    have KL := Plan.lenPl w3 pl _ _ _ _ hp3
    rw [hxl, hm] at KL
    have HKL := Lib.hid KL
    have KH := Mem.homes_all w3 (.slice ao hs.length cp) hs (HSRC.out.below hB4) (by omega)
    have fin : Calls Try.prog 9 #[] w3 fun e w' => e = .returned (.bool true) ∧ Below w3.heap.size w3 w' := awake w3
    have HF := Lib.hid fin
    clear fin KL
    by_cases c1 : hs.length < 1
    · have d2 : (hs.length : Int) < 1 := by omega
      clear KH hbad
      go_wp2_with fail
      refine HKL.out.mono ?_
      rintro e w' ⟨rfl, rfl⟩
      go_wp2_with fail
      refine HF.out.mono ?_
      rintro e w5 ⟨rfl, u5⟩
      go_wp2_with fail
      go_ret
      exact ⟨rfl, hB4.trans (u5.mono hB4.size)⟩
    · have d2 : (1 : Int) ≤ (hs.length : Int) := by omega
      by_cases c2 : 64 < hs.length
      · have d3 : (64 : Int) < (hs.length : Int) := by omega
        clear KH hbad
        go_wp2_with fail
        refine HKL.out.mono ?_
        rintro e w' ⟨rfl, rfl⟩
        go_wp2_with fail
        refine HF.out.mono ?_
        rintro e w5 ⟨rfl, u5⟩
        go_wp2_with fail
        go_ret
        exact ⟨rfl, hB4.trans (u5.mono hB4.size)⟩
      · have d3 : (hs.length : Int) ≤ 64 := by omega
        have hb : Mem.homesOk hs = false := by rcases hbad with h | h | h; exact absurd h c1; exact absurd h c2; exact h
        rw [hb] at KH
        have HKH := Lib.hid KH
        clear KH hbad hb
        go_wp2_with fail
        refine HKH.out.mono ?_
        rintro e w' ⟨rfl, rfl⟩
        go_wp2_with fail
        refine HKL.out.mono ?_
        rintro e w' ⟨rfl, rfl⟩
        go_wp2_with fail
        refine HF.out.mono ?_
        rintro e w5 ⟨rfl, u5⟩
        go_wp2_with fail
        go_ret
        exact ⟨rfl, hB4.trans (u5.mono hB4.size)⟩
  · have n1 : 1 ≤ hs.length := by omega
    have n2 : hs.length ≤ 64 := by omega
    have hok : Mem.homesOk hs = true := by cases h : Mem.homesOk hs with | true => rfl | false => exact absurd (.inr (.inr h)) hbad
    have d2 : (1 : Int) ≤ (hs.length : Int) := by omega
    have d3 : (hs.length : Int) ≤ 64 := by omega
    by_cases hcf : n < 1 ∨ 8 < n
    · have KN := Abort.new_cfg w2 pl (.slice ao hs.length cp) hs n (HSRC.out.below hB2) n1 n2 hok hcf
      have HKN := Lib.hid KN
      clear KN
      by_cases e1 : n < 1
      · have d4 : n < 1 := e1
        clear hcf
        go_wp2_with fail
        refine HKN.out.mono ?_
        rintro e w3 ⟨rfl, hB3⟩
        have hp3 := hp2.below hB3
        have hB4 := hB2.trans (hB3.mono hz2)
        have KL := Plan.lenPl w3 pl _ _ _ _ hp3
        rw [hxl, hm] at KL
        have HKL := Lib.hid KL
        have KH := Mem.homes_all w3 (.slice ao hs.length cp) hs (HSRC.out.below hB4) (by omega)
        rw [hok] at KH
        have HKH := Lib.hid KH
        have HF := Lib.hid (awake w3)
        clear KL KH hbad
        go_wp2_with fail
        refine HKH.out.mono ?_
        rintro e w' ⟨rfl, rfl⟩
        go_wp2_with fail
        refine HKL.out.mono ?_
        rintro e w' ⟨rfl, rfl⟩
        go_wp2_with fail
        refine HF.out.mono ?_
        rintro e w5 ⟨rfl, u5⟩
        go_wp2_with fail
        go_ret
        exact ⟨rfl, hB4.trans (u5.mono hB4.size)⟩
      · have d4 : 1 ≤ n := by omega
        have d4' : decide (n < 1) = false := by simpa using e1
        have d5 : 8 < n := by omega
        clear hcf
        go_wp2_with fail
        refine HKN.out.mono ?_
        rintro e w3 ⟨rfl, hB3⟩
        have hp3 := hp2.below hB3
        have hB4 := hB2.trans (hB3.mono hz2)
        have KL := Plan.lenPl w3 pl _ _ _ _ hp3
        rw [hxl, hm] at KL
        have HKL := Lib.hid KL
        have KH := Mem.homes_all w3 (.slice ao hs.length cp) hs (HSRC.out.below hB4) (by omega)
        rw [hok] at KH
        have HKH := Lib.hid KH
        have HF := Lib.hid (awake w3)
        clear KL KH hbad
        go_wp2_with fail
        refine HKH.out.mono ?_
        rintro e w' ⟨rfl, rfl⟩
        go_wp2_with fail
        refine HKL.out.mono ?_
        rintro e w' ⟨rfl, rfl⟩
        go_wp2_with fail
        refine HF.out.mono ?_
        rintro e w5 ⟨rfl, u5⟩
        go_wp2_with fail
        go_ret
        exact ⟨rfl, hB4.trans (u5.mono hB4.size)⟩
    have e1 : 1 ≤ n := by omega
    have e2 : n ≤ 8 := by omega
    obtain ⟨c, rfl⟩ : ∃ c : Nat, (c : Int) = n := ⟨n.toNat, by omega⟩
    have hc1 : 1 ≤ c := by omega
    have hc8 : c ≤ 8 := by omega
    have KN := Abort.new_yes w2 pl S2 2 hs0 xs0 hp2 (by omega) (.slice ao hs.length cp) hs c (HSRC.out.below hB2) n1 n2 hok (fun b hb h => by
      have := HOWN.out b hb n1
      have := hS2' b h
      omega) hc1 hc8
    have HKN := Lib.hid KN
    clear KN
    go_wp2_with fail
    refine HKN.out.mono ?_
    rintro e w3 ⟨l, s, lb, pb, q, SQ, S', rfl, hP⟩
    have hB4 : Below w.heap.size w w3 := hP.upd.below hB2 hz2 hS2'
    have KL := Plan.lenPl w3 pl _ _ _ _ hP.plan
    have hnc : hs.length * (3 * c) ≤ 64 * 24 := Nat.mul_le_mul n2 (by omega)
    obtain ⟨y, hy⟩ : ∃ y : Int, ((xs0 ++ [0] ++ List.replicate (hs.length * (3 * c)) 0 : List Int).length : Int) = y := ⟨_, rfl⟩
    obtain ⟨z, hz⟩ : ∃ z : Nat, hs.length * (3 * c) = z := ⟨_, rfl⟩
    have hy2 : y = a + 1 + z := by rw [← hy, List.length_append, List.length_append, List.length_replicate, List.length_singleton, hz]; push_cast; omega
    rw [hy, hy2] at KL
    have HKL := Lib.hid KL
    have hw1 : IntKind.i64.wrap (a + 1) = a + 1 := IntWalk.i64_in _ (by omega)
    have hw2 : IntKind.i64.wrap (3 * (c : Int)) = 3 * (c : Int) := IntWalk.i64_in _ (by omega)
    have hzi : 3 * (c : Int) * (hs.length : Int) = (z : Int) := by rw [← hz]; push_cast; rw [Int.mul_comm]
    have hw3 : IntKind.i64.wrap (3 * (c : Int) * (hs.length : Int)) = (z : Int) := by rw [hzi]; exact IntWalk.i64_in _ (by omega)
    have hw4 : IntKind.i64.wrap (a + 1 + (z : Int)) = a + 1 + (z : Int) := IntWalk.i64_in _ (by omega)
    have KH := Mem.homes_all w3 (.slice ao hs.length cp) hs (HSRC.out.below hB4) (by omega)
    rw [hok] at KH
    have HKH := Lib.hid KH
    have KS := len_all w3 s lb _ _ _ hP.at_.seat
    rw [List.length_replicate] at KS
    have HKS := Lib.hid KS
    have c0 := hP.at_.top.cell (i := 0) rfl
    have HF := Lib.hid (awake w3)
    clear KL KH KS hy hy2 hP HKN hbad hz hzi hnc
    go_wp2_with fail
    refine HKH.out.mono ?_
    rintro e w' ⟨rfl, rfl⟩
    go_wp2_with fail
    refine HKS.out.mono ?_
    rintro e w' ⟨rfl, rfl⟩
    go_wp2_with fail
    refine HKL.out.mono ?_
    rintro e w' ⟨rfl, rfl⟩
    go_wp2_with fail
    refine HF.out.mono ?_
    rintro e w5 ⟨rfl, u5⟩
    go_wp2_with fail
    go_ret
    exact ⟨rfl, hB4.trans (u5.mono hB4.size)⟩
end Go.Proofs.Ytlkpfdboagjaoaa.WalkAbortNews
