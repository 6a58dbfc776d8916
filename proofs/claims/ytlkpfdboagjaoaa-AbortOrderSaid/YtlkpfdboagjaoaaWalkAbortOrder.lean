/- The law AbortOrder, walked. -/
import Derived.Test.YtlkpfdboagjaoaaLaw14
import Derived.Test.YtlkpfdboagjaoaaAbortO
import Derived.Test.YtlkpfdboagjaoaaOps10
namespace Go.Proofs.Ytlkpfdboagjaoaa.WalkAbortOrder
open Go Go.RowKit Go.Proofs.Ytlkpfdboagjaoaa.Heap Go.Proofs.Ytlkpfdboagjaoaa.Open Go.Proofs.Ytlkpfdboagjaoaa.Seat Go.Proofs.Ytlkpfdboagjaoaa.Mach Go.Proofs.Ytlkpfdboagjaoaa.Has Go.Proofs.Ytlkpfdboagjaoaa.Lk Go.Proofs.Ytlkpfdboagjaoaa.StepU Go.Proofs.Ytlkpfdboagjaoaa.Abort Go.Proofs.Ytlkpfdboagjaoaa.Law14

set_option maxHeartbeats 16000000 in
set_option maxRecDepth 20000 in
theorem walk (v : Value) (hs : List Int) (n : Int) (v2 : Value) (xs : List (List Int)) (w : World) (h0 : Src1 w v .i64 hs) (h2 : I64s w v2 4 xs) :
    Calls Try.prog 7 #[v, .int .i64 n, v2] w fun e w' => e = .returned (.bool true) ∧ Below w.heap.size w w' := by
  have h2k := h2
  obtain ⟨⟨ao, ocap, rfl, hlc, -, -⟩, -⟩ := h2
  have KF := fine w v hs h0 ao xs.length ocap
  by_cases hbad : fineB hs xs.length = false ∨ n < 1 ∨ 8 < n
  · obtain ⟨a, cv, rfl, -, -⟩ := h0
    clear h2k
    cases hf : fineB hs xs.length with
    | false =>
      rw [hf] at KF
      have HF := Lib.hid KF
      clear KF hf hbad
      go_enter Try.func7, Try.ntmps7
      go_wp2_with fail
      refine HF.out.mono ?_
      rintro e w' ⟨rfl, rfl⟩
      go_wp2_with fail
      refine (awake _).mono ?_
      rintro e w4 ⟨rfl, u4⟩
      go_wp2_with fail
      go_ret
      exact ⟨rfl, u4⟩
    | true =>
      rw [hf] at KF hbad
      have HF := Lib.hid KF
      by_cases e1 : n < 1
      · clear KF hf hbad
        go_enter Try.func7, Try.ntmps7
        go_wp2_with fail
        refine HF.out.mono ?_
        rintro e w' ⟨rfl, rfl⟩
        go_wp2_with fail
        refine (awake _).mono ?_
        rintro e w4 ⟨rfl, u4⟩
        go_wp2_with fail
        go_ret
        exact ⟨rfl, u4⟩
      · have e1' : decide (n < 1) = false := by simpa using e1
        have e2 : 8 < n := by rcases hbad with h | h | h; exact absurd h (by decide); exact absurd h e1; exact h
        clear KF hf hbad
        go_enter Try.func7, Try.ntmps7
        go_wp2_with fail
        refine HF.out.mono ?_
        rintro e w' ⟨rfl, rfl⟩
        go_wp2_with fail
        refine (awake _).mono ?_
        rintro e w4 ⟨rfl, u4⟩
        go_wp2_with fail
        go_ret
        exact ⟨rfl, u4⟩
  · have hf : fineB hs xs.length = true := by cases h : fineB hs xs.length with | true => rfl | false => exact absurd (.inl h) hbad
    rw [hf] at KF
    obtain ⟨n1, n8, hok, hl⟩ := fineB_true hf
    have d1 : 1 ≤ n := by omega
    have d2 : n ≤ 8 := by omega
    obtain ⟨c, rfl⟩ : ∃ c : Nat, (c : Int) = n := ⟨n.toNat, by omega⟩
    have HF := Lib.hid KF
    have HOPS := Lib.hid h2k
    have KM := madeC w v hs c h0 n1 (by omega) hok (by omega) (by omega)
    have HKM := Lib.hid KM
    obtain ⟨⟨_, _, hv2, -, -, hcells⟩, hwf⟩ := h2k
    simp at hv2
    obtain ⟨rfl, rfl⟩ := hv2
    clear KF hf KM hbad
    obtain ⟨a, cv, rfl, -, hcell⟩ := h0
    clear hcell
    go_enter Try.func7, Try.ntmps7
    go_wp2_with fail
    refine HF.out.mono ?_
    rintro e w' ⟨rfl, rfl⟩
    go_wp2_with fail
    refine HKM.out.mono ?_
    rintro e w4 ⟨l, s, lb, pb, cap, q, SQ, p, SP, rfl, hM⟩
    have KU : Calls Try.prog 37 #[.pointer (some ⟨l, 0, none⟩), .pointer (some ⟨p, 0, none⟩)] w4 fun e w' => e = .returned (.tuple #[]) ∧ (O l s lb pb cap q SQ c p SP hs.length (hh c hs) 0 w' 0 (st0 hs.length (wz c hs.length)) ∧ RR c (st0 hs.length (wz c hs.length)).pls ∧ (st0 hs.length (wz c hs.length)).seats.length = hs.length) ∧ Upd (ft l s lb pb SP SQ) w4 w' := by
      refine (useO hM.obj.at_ hM.obj.port hM.obj.sep).mono ?_
      rintro e w' ⟨he, ho, hu⟩
      exact ⟨he, ⟨ho, zeros_rr _ (by omega), by simp [st0]⟩, hu⟩
    have KO := ordered (mach hs.length) n8 (AbortO.keeps hs.length c) p (st0 hs.length (wz c hs.length)) (AbortO.inv0 hs.length c n8 (by omega)) _ xs hl w w4 HOPS.out hM.bel hM.ge KU
    have HKO := Lib.hid KO
    clear KO KU hM HKM hcells hwf
    unfold val at HKO
    go_wp2_with fail
    refine HKO.out.mono ?_
    rintro e w5 ⟨rfl, hB5⟩
    go_wp2_with fail
    refine (awake _).mono ?_
    rintro e w6 ⟨rfl, u6⟩
    go_wp2_with fail
    go_ret
    exact ⟨rfl, hB5.trans (u6.mono hB5.size)⟩
end Go.Proofs.Ytlkpfdboagjaoaa.WalkAbortOrder
