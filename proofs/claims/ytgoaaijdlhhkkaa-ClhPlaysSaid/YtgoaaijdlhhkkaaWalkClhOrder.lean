/- The law ClhOrder, walked. -/
import Derived.Test.YtgoaaijdlhhkkaaOrd
import Derived.Test.YtgoaaijdlhhkkaaClhP
import Derived.Test.YtgoaaijdlhhkkaaLaw12
import Derived.Test.YtgoaaijdlhhkkaaOps10
namespace Go.Proofs.Ytgoaaijdlhhkkaa.WalkClhOrder
open Go Go.RowKit Go.Proofs.Ytgoaaijdlhhkkaa.Heap Go.Proofs.Ytgoaaijdlhhkkaa.Open Go.Proofs.Ytgoaaijdlhhkkaa.Seat Go.Proofs.Ytgoaaijdlhhkkaa.Mach Go.Proofs.Ytgoaaijdlhhkkaa.Has Go.Proofs.Ytgoaaijdlhhkkaa.Lk Go.Proofs.Ytgoaaijdlhhkkaa.Clh Go.Proofs.Ytgoaaijdlhhkkaa.StepU Go.Proofs.Ytgoaaijdlhhkkaa.Law12

theorem home2 (hs : List Int) (n1 : 1 ≤ hs.length) (h : Mem.homesOk hs = true) : Mem.homesOk ([] ++ [hs.getD 0 0, hs.getD 0 0] ++ hs) = true := by
  have h9 := h
  cases hs with
  | nil => simp at n1
  | cons a r =>
    unfold Mem.homesOk at h ⊢
    rw [List.all_cons, Bool.and_eq_true] at h
    unfold Mem.homesOk at h9
    show ((a :: a :: a :: r).all _) = true
    rw [List.all_cons, List.all_cons, h.1, h9]; rfl
set_option maxHeartbeats 4000000 in
theorem walk (v : Value) (hs : List Int) (v2 : Value) (xs : List (List Int)) (w : World) (h0 : Src1 w v .i64 hs) (h2 : I64s w v2 4 xs) :
    Calls Try.prog 6 #[v, v2] w fun e w' => e = .returned (.bool true) ∧ Below w.heap.size w w' := by
  have h2k := h2
  obtain ⟨⟨ao, cap, rfl, hlc, -, -⟩, -⟩ := h2
  have KF := fine w v hs h0 ao xs.length cap
  cases hf : fineB hs xs.length with
  | false =>
    rw [hf] at KF
    have HF := Lib.hid KF
    clear KF hf h2k
    obtain ⟨a, c, rfl, -, -⟩ := h0
    go_enter Try.func6, Try.ntmps6
    go_wp2_with fail
    refine HF.out.mono ?_
    rintro e w' ⟨rfl, rfl⟩
    go_wp2_with fail
    refine (awake _).mono ?_
    rintro e w4 ⟨rfl, u4⟩
    go_wp2_with fail
    go_ret
    exact ⟨rfl, u4⟩
  | true =>
    rw [hf] at KF
    obtain ⟨n1, n8, hok, hl⟩ := fineB_true hf
    have HF := Lib.hid KF
    have HOPS := Lib.hid h2k
    have HSRC := Lib.hid h0
    clear KF hf h2k
    obtain ⟨a, c, rfl, -, -⟩ := h0
    go_enter Try.func6, Try.ntmps6
    go_wp2_with fail
    refine HF.out.mono ?_
    rintro e w' ⟨rfl, rfl⟩
    go_wp2_with fail
    refine (Plan.newPl _ hs.length).mono ?_
    rintro e w1 ⟨pl, rfl, hpl, hB1⟩
    have hz1 := hB1.size
    go_wp2_with fail
    refine (Clh.new_yes _ pl (Mem.Btw w w1) hs.length [] [] hpl (by decide) _ hs (HSRC.out.below hB1) n1 (by omega) hok (by
      intro b hb h
      obtain ⟨_, _, hv, -, hcell⟩ := HSRC.out
      simp at hv
      obtain ⟨rfl, rfl⟩ := hv
      obtain ⟨b', off, rfl, hbw, -⟩ := hcell (by omega)
      simp [Value.ownBlock] at hb
      have := h.1; omega)).mono ?_
    rintro e w2 ⟨l, s, lb, pb, cap, rfl, ha, ⟨S', hp2, hS', s1, s2, s3, s4⟩, b1, b2, b3, b4, hu2⟩
    have hB2 : Below w.heap.size w w2 := hu2.below hB1 hz1 (fun i hi => hi.1)
    have hz2 := hB2.size
    go_wp2_with fail
    refine (Plan.portPl _ pl S' hs.length _ _ hp2 (by simp; omega) (home2 hs n1 hok) (by intro y hy; simp at hy; omega) n1 (by omega)).mono ?_
    rintro e w3 ⟨p, rfl, hpo, hB3⟩
    have ha3 := ha.keep (Upd.of_below (S := fun _ => False) hB3) id id id id
    have hB4 := hB2.trans (hB3.mono hz2)
    have sep : ¬ Mem.Btw w2 w3 l ∧ ¬ Mem.Btw w2 w3 s ∧ ¬ Mem.Btw w2 w3 lb ∧ ¬ Mem.Btw w2 w3 pb :=
      ⟨fun h => by have := ha.top.lt; have := h.1; omega, fun h => by have := ha.seat.top.lt; have := h.1; omega, fun h => by have := ha.seat.row.lt; have := h.1; omega, fun h => by have := ha.plc.lt; have := h.1; omega⟩
    have hft : ∀ i, ft l s lb pb (Mem.Btw w2 w3) i → w.heap.size ≤ i := by
      intro i hi
      rcases hi with hi | rfl | rfl | rfl | rfl
      · have := hi.1; omega
      all_goals omega
    have KU : Calls Try.prog 18 #[.pointer (some ⟨l, 0, none⟩), .pointer (some ⟨p, 0, none⟩)] w3 fun e w' => e = .returned (.tuple #[]) ∧ (O l s lb pb cap p (Mem.Btw w2 w3) hs.length ([] ++ [hs.getD 0 0, hs.getD 0 0] ++ hs) 0 w' 0 (st0 hs.length ([] ++ [0, 0] ++ List.replicate hs.length 0)) ∧ (st0 hs.length ([] ++ [0, 0] ++ List.replicate hs.length 0)).seats.length = hs.length) ∧ Upd (ft l s lb pb (Mem.Btw w2 w3)) w3 w' := by
      refine (useO ha3 hpo sep).mono ?_
      rintro e w' ⟨he, ho, hu⟩
      exact ⟨he, ⟨ho, by simp [st0]⟩, hu⟩
    have KO := ordered (mach hs.length) n8 ((ClhP.ql hs.length).keeps true) p (st0 hs.length ([] ++ [0, 0] ++ List.replicate hs.length 0)) ⟨none, ClhP.start hs.length n8⟩ _ xs hl w w3 HOPS.out hB4 hft KU
    have HKO := Lib.hid KO
    clear KO KU ha ha3 hpo hp2 hpl hu2 hB1
    unfold val at HKO
    go_wp2_with fail
    refine HKO.out.mono ?_
    rintro e w4 ⟨rfl, hB5⟩
    go_wp2_with fail
    refine (awake _).mono ?_
    rintro e w5 ⟨rfl, u5⟩
    go_wp2_with fail
    go_ret
    exact ⟨rfl, hB5.trans (u5.mono hB5.size)⟩
end Go.Proofs.Ytgoaaijdlhhkkaa.WalkClhOrder
