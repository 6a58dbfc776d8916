/- The law AbortTurns, walked. -/
import Derived.Test.YtlkpfdboagjaoaaServW
import Derived.Test.YtlkpfdboagjaoaaAbortT
import Derived.Test.YtlkpfdboagjaoaaLaw14
import Derived.Test.YtlkpfdboagjaoaaOps10
namespace Go.Proofs.Ytlkpfdboagjaoaa.WalkAbortTurns
open Go Go.RowKit Go.Proofs.Ytlkpfdboagjaoaa.Heap Go.Proofs.Ytlkpfdboagjaoaa.Open Go.Proofs.Ytlkpfdboagjaoaa.Seat Go.Proofs.Ytlkpfdboagjaoaa.Mach Go.Proofs.Ytlkpfdboagjaoaa.Has Go.Proofs.Ytlkpfdboagjaoaa.Lk Go.Proofs.Ytlkpfdboagjaoaa.StepU Go.Proofs.Ytlkpfdboagjaoaa.Abort Go.Proofs.Ytlkpfdboagjaoaa.Law14

/-- None is out. -/
theorem cnt0 (ws : List Int) (c t : Nat) (h : ∀ x, 1 ≤ x → AbortP.gU ws x = 0) : ∀ j, cntO 0 ws c t j = 0
  | 0 => rfl
  | j + 1 => by
    unfold cntO
    rw [cnt0 ws c t h j]
    have h0 : 0 ≤ (t : Int) * c := Int.natCast_mul t c ▸ Int.natCast_nonneg _
    have hx := h ((t : Int) * c + j + 1) (by omega)
    unfold AbortP.gU at hx
    rw [if_pos (by omega), show stA 0 ((t : Int) * c + j + 1) + 2 = 3 * ((t : Int) * c + j + 1) by unfold stA; omega] at hx
    have e : ws.getD (0 + 3 * ((t : Int) * c + j + 1)).toNat 0 = 0 := by
      rw [Int.zero_add]
      by_cases q : (3 * ((t : Int) * c + j + 1)).toNat < ws.length
      · rw [← Mem.get_in (k := (3 * ((t : Int) * c + j + 1)).toNat) (a := 3 * ((t : Int) * c + j + 1)) (by omega) (by simp [Mem.inB]; omega)]; exact hx
      · rw [List.getD, List.getElem?_eq_none (by omega)]; rfl
    rw [e]; rfl
set_option maxHeartbeats 16000000 in
set_option maxRecDepth 20000 in
theorem walk (v : Value) (hs : List Int) (n cc : Int) (w : World) (h0 : Src1 w v .i64 hs) (hn8 : (Lit.int .u8 n).wf = true) (hc8 : (Lit.int .u8 cc).wf = true) :
    Calls Try.prog 6 #[v, .int .u8 n, .int .u8 cc] w fun e w' => e = .returned (.bool true) ∧ Below w.heap.size w w' := by
  have hc := bounds_u8 hc8
  have hnb := bounds_u8 hn8
  clear hc8 hn8
  have KF : Calls Try.prog 16 #[v, .slice none 0 0] w fun e w' => e = .returned (.bool (fineB hs 0)) ∧ w = w' := fine w v hs h0 none 0 0
  cases hf : fineB hs 0 with
  | false =>
    rw [hf] at KF
    have HF := Lib.hid KF
    clear KF hf
    obtain ⟨a, c, rfl, -, -⟩ := h0
    go_enter Try.func6, Try.ntmps6
    go_wp2_with fail
    refine HF.out.mono ?_
    rintro e w' ⟨rfl, rfl⟩
    go_wp2_with fail
    refine (awake _).mono ?_
    rintro e w4 ⟨rfl, u4⟩
    go_wp2_with fail
    go_ret
    exact ⟨rfl, u4⟩
  | true =>
    rw [hf] at KF
    obtain ⟨n1, n8, hok, -⟩ := fineB_true hf
    have HF := Lib.hid KF
    obtain ⟨cl, hcl, hcl2⟩ : ∃ cl : Nat, (cl : Int) = cc % 21 ∧ cl ≤ 20 := ⟨(cc % 21).toNat, by omega, by omega⟩
    have hcm : Int.tmod cc 21 = cc % 21 := Int.tmod_eq_emod_of_nonneg hc.1
    obtain ⟨c, hcc, hc1, hc8⟩ : ∃ c : Nat, (c : Int) = 1 + n % 8 ∧ 1 ≤ c ∧ c ≤ 8 := ⟨(1 + n % 8).toNat, by omega, by omega, by omega⟩
    have hnm : Int.tmod n 8 = n % 8 := Int.tmod_eq_emod_of_nonneg hnb.1
    have hnw : IntKind.i64.wrap (1 + n % 8) = 1 + n % 8 := IntWalk.i64_in _ (by omega)
    have KM := madeC w v hs c h0 n1 (by omega) hok hc1 hc8
    rw [hcc] at KM
    have HKM := Lib.hid KM
    have HC := Lib.hid hcc
    clear KF hf KM hcc
    obtain ⟨a, cv, rfl, -, -⟩ := h0
    go_enter Try.func6, Try.ntmps6
    go_wp2_with fail
    refine HF.out.mono ?_
    rintro e w' ⟨rfl, rfl⟩
    go_wp2_with fail
    refine HKM.out.mono ?_
    rintro e w4 ⟨l, s, lb, pb, cap, q, SQ, p, SP, rfl, hM⟩
    have KU : Calls Try.prog 37 #[.pointer (some ⟨l, 0, none⟩), .pointer (some ⟨p, 0, none⟩)] w4 fun e w' => e = .returned (.tuple #[]) ∧ (O l s lb pb cap q SQ c p SP hs.length (hh c hs) 0 w' 0 (st0 hs.length (wz c hs.length)) ∧ RR c (st0 hs.length (wz c hs.length)).pls ∧ (st0 hs.length (wz c hs.length)).seats.length = hs.length) ∧ Upd (ft l s lb pb SP SQ) w4 w' := by
      refine (useO hM.obj.at_ hM.obj.port hM.obj.sep).mono ?_
      rintro e w' ⟨he, ho, hu⟩
      exact ⟨he, ⟨ho, zeros_rr _ (by omega), by simp [st0]⟩, hu⟩
    have hg := AbortT.start hs.length c n8 hc1
    have g2 : ∀ t : Nat, SeatP.stt (st0 hs.length (wz c hs.length)).seats t = 0 := AbortO.stt0 hs.length
    have g0 : ∀ t : Nat, t < hs.length → state (st0 hs.length (wz c hs.length)).seats t = 0 := fun t _ => by rw [SeatP.state_nat]; exact g2 t
    have g1 : ∀ t, t < hs.length → AbortT.ph (st0 hs.length (wz c hs.length)) t = 0 := fun t _ => by
      unfold AbortT.ph
      rw [g2]; rfl
    have KO := Mach.servedO (mach hs.length) n1 n8 cl hcl2 ((AbortT.gear hs.length c).serves n8 cl hcl2) p (st0 hs.length (wz c hs.length)) (GInv.start n8 cl _ hg g0) (gμ_start 15 (by decide) _ cl _ g1) w w4 hM.bel hM.ge KU
    rw [hcl] at KO
    have HKO := Lib.hid KO
    have hft := hM.ge
    clear KO KU hM HKM hg g2 g0 g1
    unfold val at HKO
    go_wp2_with fail
    refine HKO.out.mono ?_
    rintro e w5 ⟨rfl, hB5, hH⟩
    obtain ⟨b, st, lf, gr, ⟨hO5, -, hsl⟩, hI, hz⟩ := hH.ex
    obtain ⟨g, f, -⟩ := hI.1.1
    obtain ⟨-, hU0⟩ := AbortT.back f (fun t ht => by rw [← SeatP.state_nat]; exact hz t ht)
    have hwl : (st.ws.length : Int) = 0 + 1 + 3 * ((st.seats.length * c : Nat) : Int) := by rw [hsl]; have := AbortP.wlen f.wl; omega
    have hw40 : st.ws.length ≤ 4096 := by
      rw [f.wl]
      have : hs.length * (3 * c) ≤ 8 * 24 := Nat.mul_le_mul n8 (by omega)
      omega
    have HOUT := Lib.hid (fun (w9 : World) (hO9 : O l s lb pb cap q SQ c p SP hs.length (hh c hs) 0 w9 b st) (t : Nat) (ht : t < hs.length) => (outC hO9 hwl hw40 t (by rw [hsl]; exact ht)).mono (fun e w' h => (⟨by rw [h.1, cnt0 _ _ _ hU0], h.2⟩ : e = .returned (.int .i64 0) ∧ Below w9.heap.size w9 w')))
    clear hI f hU0 hwl hw40 HKO hz
    go_wp2_with fail
    go_loopw [39] (fun i wr => ∃ t : Nat, t ≤ hs.length ∧ i = .int .i64 t ∧ O l s lb pb cap q SQ c p SP hs.length (hh c hs) 0 wr b st ∧ Below w.heap.size w wr) (fun i _ => hs.length - (intOf i).toNat)
    case atStart => exact ⟨0, Nat.zero_le _, rfl, hO5, hB5⟩
    case round =>
      obtain ⟨t, ht, rfl, hO9, hB9⟩ := hrel
      clear hO5 hB5
      by_cases hlt : t < hs.length
      · have hlt' : (t : Int) < (hs.length : Int) := by omega
        have HK := Lib.hid (HOUT.out wr hO9 t hlt)
        go_wp2_with fail
        refine HK.out.mono ?_
        rintro e w6 ⟨rfl, u6⟩
        go_wp2_with fail
        go_roundw
        case rel => exact ⟨t + 1, by omega, by go_num, hO9.keep (Upd.of_below (S := fun _ => False) u6) (fun _ _ => id), hB9.trans (u6.mono hB9.size)⟩
        case measure => simp [intOf]; omega
      · obtain rfl : t = hs.length := by omega
        go_wp2_with fail
        refine (awake _).mono ?_
        rintro e w6 ⟨rfl, u6⟩
        go_wp2_with fail
        go_ret
        exact ⟨rfl, hB9.trans (u6.mono hB9.size)⟩
end Go.Proofs.Ytlkpfdboagjaoaa.WalkAbortTurns
