/- The law HierOrder, walked. -/
import Derived.Test.YtmiidiijhhjabaaWalkHierLeads
import Derived.Test.YtmiidiijhhjabaaSrcS
import Derived.Deep.RegionLaw
import Derived.Deep.CutRange
namespace Go.Proofs.Ytmiidiijhhjabaa.WalkHierOrder
open Go Go.RowKit Go.Proofs.Ytmiidiijhhjabaa.Heap Go.Proofs.Ytmiidiijhhjabaa.Open Go.Proofs.Ytmiidiijhhjabaa.Seat Go.Proofs.Ytmiidiijhhjabaa.Mach Go.Proofs.Ytmiidiijhhjabaa.Has Go.Proofs.Ytmiidiijhhjabaa.Lk Go.Proofs.Ytmiidiijhhjabaa.StepU Go.Proofs.Ytmiidiijhhjabaa.Hier Go.Proofs.Ytmiidiijhhjabaa.Law15 Go.Proofs.Ytmiidiijhhjabaa.HierQ Go.Proofs.Ytmiidiijhhjabaa.HierP Go.Proofs.Ytmiidiijhhjabaa.HierO Go.Proofs.Ytmiidiijhhjabaa.WalkHierLeads Go.Proofs.Ytmiidiijhhjabaa.SeatP

/-- The clusters' queues, as an array of slices. -/
structure Arr (w : World) (A B : Nat) (Q : Int → List Nat) (qs : List Value) : Prop where
  row : Row w A qs
  len : qs.length = 8
  win : ∀ c : Nat, c < 8 → Win w B (qs.getD c undef) (rowv (Q c))
  sep : ∀ c d : Nat, c < 8 → d < 8 → c ≠ d → ∀ i, (qs.getD c undef).ownBlock = some i → (qs.getD d undef).ownBlock ≠ some i
theorem Arr.upd {S : Nat → Prop} {w w' : World} {A B : Nat} {Q : Int → List Nat} {qs : List Value} (h : Arr w A B Q qs) (hu : Upd S w w') (hA : ¬ S A) (hB : ∀ i, B ≤ i → i < w.heap.size → ¬ S i) : Arr w' A B Q qs :=
  ⟨h.row.upd hu hA, h.len, fun c hc => (h.win c hc).upd hu (fun k hk => hB k ((h.win c hc).own hk).2 ((h.win c hc).own hk).1), h.sep⟩
theorem qs_set (qs : List Value) (c : Nat) (hc : c < qs.length) (v : Value) (d : Nat) : (qs.set c v).getD d undef = if d = c then v else qs.getD d undef := by
  by_cases e : d = c
  · subst e; rw [if_pos rfl]; simp [List.getD, List.getElem?_set_self hc]
  · rw [if_neg e, List.getD, List.getElem?_set_ne (fun z => e z.symm)]; rfl
/-- One queue is another one now: behind an append, or a cut, and its store. -/
theorem Arr.set {w w' : World} {A B : Nat} {Q : Int → List Nat} {qs : List Value} (h : Arr w A B Q qs) (hAB : A < B) (c : Nat) (hc : c < 8) (l : List Nat) (v' : Value) (hu : Upd (fun k => (qs.getD c undef).ownBlock = some k) w w') (hw : Win w' B v' (rowv l)) (hn : v'.ownBlock = (qs.getD c undef).ownBlock ∨ ∃ g, w.heap.size ≤ g ∧ v'.ownBlock = some g) :
    Arr (w'.setCell ⟨A, c, none⟩ v') A B (upQ Q (c : Int) l) (qs.set c v') := by
  have hcl : c < qs.length := by rw [h.len]; exact hc
  have hAw : ∀ k, (qs.getD c undef).ownBlock = some k → k ≠ A := fun k hk => by have := ((h.win c hc).own hk).2; omega
  have U := Upd.one w' A c v'
  refine ⟨(h.row.upd hu (fun e => hAw A e rfl)).set _ _, by simpa using h.len, fun d hd => ?_, fun d e hd he hde i hi => ?_⟩
  · rw [qs_set qs c hcl]
    unfold upQ
    by_cases e : d = c
    · subst e
      rw [if_pos rfl, if_pos rfl]
      exact hw.upd U (fun k hk e => by have := (hw.own hk).2; omega)
    · rw [if_neg e, if_neg (by omega)]
      have h1 := (h.win d hd).upd hu (fun k hk e2 => h.sep c d hc hd (fun z => e z.symm) k e2 hk)
      exact h1.upd U (fun k hk e => by have := (h1.own hk).2; omega)
  · rw [qs_set qs c hcl] at hi ⊢
    by_cases e1 : d = c
    · rw [if_pos e1] at hi
      rw [if_neg (fun z => hde (by omega))]
      subst e1
      rcases hn with e2 | ⟨g, hg, e2⟩
      · rw [e2] at hi; exact h.sep d e hd he hde i hi
      · rw [e2] at hi
        simp only [Option.some.injEq] at hi
        subst hi
        exact fun e3 => by have := ((h.win e he).own e3).1; omega
    · rw [if_neg e1] at hi
      by_cases e2 : e = c
      · rw [if_pos e2]
        subst e2
        rcases hn with e3 | ⟨g, hg, e3⟩
        · rw [e3]; exact h.sep d e hd he hde i hi
        · rw [e3]
          exact fun e4 => by
            simp only [Option.some.injEq] at e4
            have := ((h.win d hd).own hi).1; omega
      · rw [if_neg e2]; exact h.sep d e hd he hde i hi
theorem Arr.at_ {w : World} {A B : Nat} {Q : Int → List Nat} {qs : List Value} (h : Arr w A B Q qs) (c : Nat) (hc : c < 8) : ∃ va vc, qs.getD c undef = .slice va (Q c).length vc ∧ w.cell? ⟨A, c, none⟩ = some (.slice va (Q c).length vc) ∧ Win w B (.slice va (Q c).length vc) (rowv (Q c)) := by
  obtain ⟨va, vc, e⟩ := (h.win c hc).len
  rw [rowv_len] at e
  have hw := h.win c hc
  rw [e] at hw
  refine ⟨va, vc, e, h.row.cell ?_, hw⟩
  have hl : c < qs.length := by rw [h.len]; exact hc
  rw [List.getElem?_eq_getElem hl, ← getD_lt _ _ undef hl, e]
/-- Where the loop stands. -/
structure Lq (w wr : World) (l s lb pb cap p : Nat) (SP : Nat → Prop) (hs : List Int) (A B b : Nat) (st : St) (Q : Int → List Nat) (qs : List Value) (j : Nat) : Prop where
  obj : O l s lb pb cap p SP hs.length (hh hs) 0 wr b st ∧ st.seats.length = hs.length
  few : b ≤ j
  keeps : JO hs.length hs st Q
  len : ∀ c, (Q c).length ≤ j
  arr : Arr wr A B Q qs
  bel : Below w.heap.size w wr
  big : B ≤ wr.heap.size
theorem JO.facts {n : Nat} {hs : List Int} {st : St} {Q : Int → List Nat} (h : JO n hs st Q) : st.seats.length = n ∧ st.pls.length = n ∧ (∀ t, t < n → 1 ≤ (st.pls.getD t p0).n ∧ (st.pls.getD t p0).n ≤ n + 1) ∧ (∀ t u, t < n → u < n → (st.pls.getD t p0).n = (st.pls.getD u p0).n → t = u) ∧ (∀ t u, t < n → u < n → stt st.seats t = 2 → stt st.seats u = 2 → t = u) := by
  obtain ⟨g, f, _⟩ := h
  refine ⟨f.sl, f.pl, f.hi.ndr, f.hi.inj, fun t u ht hu h1 h2 => ?_⟩
  have a := f.hi.s2 t ht h1
  have b := f.hi.s2 u hu h2
  exact f.hi.jO t u ht hu a.1 b.1 (by omega)
theorem upQ_len {Q : Int → List Nat} {j : Nat} (h : ∀ c, (Q c).length ≤ j) (c : Int) (l : List Nat) (hl : l.length ≤ j + 1) : ∀ d, (upQ Q c l d).length ≤ j + 1 := fun d => by
  unfold upQ
  split
  · exact hl
  · have := h d; omega
set_option maxHeartbeats 16000000 in
set_option maxRecDepth 20000 in
theorem walk (v : Value) (hs : List Int) (v2 : Value) (xs : List (List Int)) (w : World) (h0 : Src1 w v .i64 hs) (h2 : I64s w v2 4 xs) :
    Calls Try.prog 5 #[v, v2] w fun e w' => e = .returned (.bool true) ∧ Below w.heap.size w w' := by
  have h2k := h2
  obtain ⟨⟨ao, ocap, rfl, hlc, -, -⟩, -⟩ := h2
  have KF := fine w v hs h0 ao xs.length ocap
  cases hf : fineB hs xs.length with
  | false =>
    rw [hf] at KF
    have HF := Lib.hid KF
    clear KF hf h2k
    obtain ⟨a, c, rfl, -, -⟩ := h0
    go_enter Try.func5, Try.ntmps5
    go_wp2_with fail
    refine HF.out.mono ?_
    rintro e w' ⟨rfl, rfl⟩
    go_wp2_with fail
    refine (awake _).mono ?_
    rintro e w4 ⟨rfl, u4⟩
    go_wp2_with fail
    go_ret
    exact ⟨rfl, u4⟩
  | true =>
    rw [hf] at KF
    obtain ⟨n1, n8, hok, hl⟩ := fineB_true hf
    have HF := Lib.hid KF
    have HOPS := Lib.hid h2k
    have KM := madeC w v hs h0 n1 (by omega) hok
    have HKM := Lib.hid KM
    obtain ⟨⟨_, _, hv2, -, -, hcells⟩, hwf⟩ := h2k
    simp at hv2
    obtain ⟨rfl, rfl⟩ := hv2
    clear KF hf KM
    obtain ⟨a, c, rfl, -, hcell⟩ := h0
    obtain ⟨hb, hoff, rfl, hbw0, hcell⟩ := hcell (by omega)
    have HHC := Lib.hid hcell
    clear hcell
    go_enter Try.func5, Try.ntmps5
    go_wp2_with fail
    refine HF.out.mono ?_
    rintro e w' ⟨rfl, rfl⟩
    go_wp2_with fail
    refine HKM.out.mono ?_
    rintro e w4 ⟨l, s, lb, pb, cap, p, SP, rfl, hM⟩
    obtain ⟨A, hAA⟩ : ∃ A, w4.heap.size = A := ⟨_, rfl⟩
    have M := mach (l := l) (s := s) (lb := lb) (pb := pb) (cap := cap) (p := p) (SP := SP) (k := hs.length) (hs := hh hs) (tl := 0) hs.length
    have hft := hM.ge
    have hfB : ∀ i, ft l s lb pb SP i → i < A := fun i hi => by rw [← hAA]; exact hM.obj.lt i hi
    have hwB : w.heap.size ≤ A := by rw [← hAA]; exact hM.bel.size
    have hAR0 : Arr (w4.alloc (.cells #[.slice none 0 0, .slice none 0 0, .slice none 0 0, .slice none 0 0, .slice none 0 0, .slice none 0 0, .slice none 0 0, .slice none 0 0] 52)) A (A + 1) (fun _ => []) [.slice none 0 0, .slice none 0 0, .slice none 0 0, .slice none 0 0, .slice none 0 0, .slice none 0 0, .slice none 0 0, .slice none 0 0] := by
      refine ⟨by rw [← hAA]; exact Row.new' rfl, rfl, fun c hc => .inl ⟨?_, rfl⟩, fun c d hc hd hcd i hi => ?_⟩
      · rcases (show c = 0 ∨ c = 1 ∨ c = 2 ∨ c = 3 ∨ c = 4 ∨ c = 5 ∨ c = 6 ∨ c = 7 by omega) with rfl | rfl | rfl | rfl | rfl | rfl | rfl | rfl <;> rfl
      · rcases (show c = 0 ∨ c = 1 ∨ c = 2 ∨ c = 3 ∨ c = 4 ∨ c = 5 ∨ c = 6 ∨ c = 7 by omega) with rfl | rfl | rfl | rfl | rfl | rfl | rfl | rfl <;> cases hi
    have hLq : Lq w (w4.alloc (.cells #[.slice none 0 0, .slice none 0 0, .slice none 0 0, .slice none 0 0, .slice none 0 0, .slice none 0 0, .slice none 0 0, .slice none 0 0] 52)) l s lb pb cap p SP hs A (A + 1) 0 (st0 hs ([] ++ [(hs.length : Int) + 1] ++ List.replicate 8 0 ++ List.replicate hs.length 0 ++ [4294967292])) (fun _ => []) [.slice none 0 0, .slice none 0 0, .slice none 0 0, .slice none 0 0, .slice none 0 0, .slice none 0 0, .slice none 0 0, .slice none 0 0] 0 :=
      ⟨M.keep ⟨hM.obj, by simp [st0]⟩ ((Upd.refl (fun _ => False) w4).alloc _) (fun _ _ => id), Nat.le_refl _, startO hs n8 hok, fun _ => Nat.le_refl _, hAR0, hM.bel.alloc hM.bel.size _, by simp; omega⟩
    have hl150 : (xs.length : Int) ≤ 150 := by omega
    obtain ⟨B, hB1⟩ : ∃ B, A + 1 = B := ⟨_, rfl⟩
    rw [hB1] at hLq
    have hAB : A < B := by omega
    have HAA := Lib.hid hAA
    have HHOK := Lib.hid hok
    clear hAR0 hM HKM HF hAA hB1 hok
    go_wp2_with fail
    rw [HAA.out]
    go_loopw [34] (fun i wr => ∃ j : Nat, j ≤ xs.length ∧ i = .int .i64 j ∧ ∃ b st Q qs, Lq w wr l s lb pb cap p SP hs A B b st Q qs j) (fun i _ => xs.length - (intOf i).toNat)
    case atStart => exact ⟨0, Nat.zero_le _, rfl, 0, _, _, _, hLq⟩
    case round =>
      clear hLq
      obtain ⟨j, hj, rfl, b, st, Q, qs, hL⟩ := hrel
      by_cases hlt : j < xs.length
      · obtain ⟨bo, off, rfl, hbw, hcell⟩ := hcells (by omega)
        have hy := hwf (xs.getD j []) (by rw [getD_lt _ _ _ hlt]; exact List.getElem_mem hlt)
        obtain ⟨y, hyy⟩ : ∃ y, xs.getD j [] = y := ⟨_, rfl⟩
        rw [hyy] at hy
        obtain ⟨hy3, hyw⟩ := hy
        match y, hy3 with
        | [k, t, N, lt], _ =>
          have hB := hL.bel
          have c0 := (hB.cell (p := ⟨bo, off + j * 4, none⟩) hbw).trans (hcell j hlt 0 (.int .i64 k) (by decide) (by rw [hyy]; rfl))
          have c1 := (hB.cell (p := ⟨bo, off + j * 4 + 1, none⟩) hbw).trans (hcell j hlt 1 (.int .i64 t) (by decide) (by rw [hyy]; rfl))
          have c2 := (hB.cell (p := ⟨bo, off + j * 4 + 2, none⟩) hbw).trans (hcell j hlt 2 (.int .i64 N) (by decide) (by rw [hyy]; rfl))
          have c3 := (hB.cell (p := ⟨bo, off + j * 4 + 3, none⟩) hbw).trans (hcell j hlt 3 (.int .i64 lt) (by decide) (by rw [hyy]; rfl))
          have hO2 := M.keep hL.obj ((Upd.refl (fun _ => False) wr).alloc (.cells #[.int .i64 k, .int .i64 t, .int .i64 N, .int .i64 lt] 46)) (fun _ _ => id)
          have hB2 := hB.alloc hB.size (.cells #[.int .i64 k, .int .i64 t, .int .i64 N, .int .i64 lt] 46)
          have hR : Row (wr.alloc (.cells #[.int .i64 k, .int .i64 t, .int .i64 N, .int .i64 lt] 46)) wr.heap.size [.int .i64 k, .int .i64 t, .int .i64 N, .int .i64 lt] := Row.new' rfl
          have hAr := hL.arr.upd ((Upd.refl (fun _ => False) wr).alloc (.cells #[.int .i64 k, .int .i64 t, .int .i64 N, .int .i64 lt] 46)) id (fun _ _ _ => id)
          have hBM := hL.big
          have hown : ∀ c k, c < 8 → (qs.getD c undef).ownBlock = some k → k < wr.heap.size := fun c k hc hk => ((hL.arr.win c hc).own hk).1
          have hJ := hL.keeps
          have hlen := hL.len
          have hfew := hL.few
          clear hyy hcell hyw hL hB
          have hlt' : (j : Int) < (xs.length : Int) := by omega
          go_upto_block 2 with (fail)
          have hzr : B ≤ (wr.alloc (.cells #[.int .i64 k, .int .i64 t, .int .i64 N, .int .i64 lt] 46)).heap.size := by simp; omega
          obtain ⟨W2, hW2⟩ : ∃ W, wr.alloc (.cells #[.int .i64 k, .int .i64 t, .int .i64 N, .int .i64 lt] 46) = W := ⟨_, rfl⟩
          obtain ⟨X, hX⟩ : ∃ X, wr.heap.size = X := ⟨_, rfl⟩
          rw [hW2] at hO2 hB2 hR hAr hzr ⊢
          rw [hX] at hR hBM hown ⊢
          have HOWN := Lib.hid hown
          clear hown
          clear hW2 hX c0 c1 c2 c3
          have hAf : ∀ i, ft l s lb pb SP i → i ≠ X := fun i hi e => by have := hfB i hi; omega
          have hsepA : ∀ i, ft l s lb pb SP i → ¬ i = A ∧ ¬ B ≤ i := fun i hi => ⟨fun e => by have := hfB i hi; omega, fun e => by have := hfB i hi; omega⟩
          have HJ := Lib.hid hJ
          have HAR := Lib.hid hAr
          have HLEN := Lib.hid hlen
          have hkeepA : ∀ (w5 w6 : World) (qs : List Value) (Q : Int → List Nat), Arr w5 A B Q qs → Upd (ft l s lb pb SP) w5 w6 → Arr w6 A B Q qs := fun w5 w6 qs Q ha hu => ha.upd hu (fun h => (hsepA A h).1 rfl) (fun i h1 _ h => (hsepA i h).2 h1)
          have HKA := Lib.hid hkeepA
          clear hJ hAr hlen hsepA hkeepA
          have p0 := hR.cell (i := 0) rfl
          have p1 := hR.cell (i := 1) rfl
          have p2 := hR.cell (i := 2) rfl
          have mp := M.ptr hO2
          by_cases e1 : k = 1
          · subst e1
            have KL := M.lockC (M.keep hO2 ((Upd.refl (fun _ => False) W2).drewN 1) (fun _ _ => id)) t N
            have HKL := Lib.hid KL
            clear KL
            go_wp2_with fail
            go_region_held3 (fun w' => w'.cell? ⟨l, 0, none⟩ = some (.pointer (some ⟨s, 0, none⟩)) ∧ w'.cell? ⟨X, 0, none⟩ = some (.int .i64 1) ∧ w'.cell? ⟨X, 1, none⟩ = some (.int .i64 t) ∧ w'.cell? ⟨X, 2, none⟩ = some (.int .i64 N)) ((first | exact ⟨mp, p0, p1, p2⟩ | exact ⟨q1, q0, q2, q3⟩))
              ((first | (go_at_call 18; refine HKL.out.mono ?_; rintro e w5 ⟨rfl, hO5, u5⟩; have q1 := M.ptr hO5; have q0 := cell_upd u5 p0 (fun h => hAf _ h rfl); have q2 := cell_upd u5 p1 (fun h => hAf _ h rfl); have q3 := cell_upd u5 p2 (fun h => hAf _ h rfl))))
            have z5 : W2.heap.size ≤ w5.heap.size := u5.size
            go_wp2_with fail
            go_roundw
            case rel => exact ⟨j + 1, by omega, by go_num, b, _, Q, qs, ⟨hO5, by omega, HJ.out.lock t N, (fun c => by have := HLEN.out c; omega), HKA.out _ _ _ _ (HAR.out.upd ((Upd.refl (fun _ => False) W2).drewN 1) id (fun _ _ _ => id)) u5, u5.below (below_drewN hB2 1) hB2.size hft, by omega⟩⟩
            case measure => simp [intOf]; omega
          have E1 : (k == 1) = false := by simpa using e1
          by_cases e2 : k = 2
          · subst e2
            have KL := M.unlockC (M.keep hO2 ((Upd.refl (fun _ => False) W2).drewN 1) (fun _ _ => id)) t
            have HKL := Lib.hid KL
            clear KL
            go_wp2_with fail
            go_region_held3 (fun w' => w'.cell? ⟨l, 0, none⟩ = some (.pointer (some ⟨s, 0, none⟩)) ∧ w'.cell? ⟨X, 0, none⟩ = some (.int .i64 2) ∧ w'.cell? ⟨X, 1, none⟩ = some (.int .i64 t)) ((first | exact ⟨mp, p0, p1⟩ | exact ⟨q1, q0, q2⟩))
              ((first | (go_at_call 19; refine HKL.out.mono ?_; rintro e w5 ⟨rfl, hO5, u5⟩; have q1 := M.ptr hO5; have q0 := cell_upd u5 p0 (fun h => hAf _ h rfl); have q2 := cell_upd u5 p1 (fun h => hAf _ h rfl))))
            have z5 : W2.heap.size ≤ w5.heap.size := u5.size
            go_wp2_with fail
            go_roundw
            case rel => exact ⟨j + 1, by omega, by go_num, b, _, Q, qs, ⟨hO5, by omega, HJ.out.unlock t, (fun c => by have := HLEN.out c; omega), HKA.out _ _ _ _ (HAR.out.upd ((Upd.refl (fun _ => False) W2).drewN 1) id (fun _ _ _ => id)) u5, u5.below (below_drewN hB2 1) hB2.size hft, by omega⟩⟩
            case measure => simp [intOf]; omega
          have E2 : (k == 2) = false := by simpa using e2
          by_cases e4 : k = 4
          · subst e4
            by_cases t0 : t < 0
            · clear e1 e2
              go_wp2_with fail
              go_roundw
              case rel => exact ⟨j + 1, by omega, by go_num, b, st, Q, qs, ⟨hO2, by omega, HJ.out, (fun c => by have := HLEN.out c; omega), HAR.out, hB2, hzr⟩⟩
              case measure => simp [intOf]; omega
            have T0 : decide (t < 0) = false := by simpa using t0
            by_cases t1 : (hs.length : Int) ≤ t
            · clear e1 e2
              go_wp2_with fail
              go_roundw
              case rel => exact ⟨j + 1, by omega, by go_num, b, st, Q, qs, ⟨hO2, by omega, HJ.out, (fun c => by have := HLEN.out c; omega), HAR.out, hB2, hzr⟩⟩
              case measure => simp [intOf]; omega
            obtain ⟨u, rfl⟩ : ∃ u : Nat, t = u := ⟨t.toNat, by omega⟩
            have hu : u < hs.length := by omega
            have hu' : (u : Int) < (hs.length : Int) := by omega
            have hu0 : (0 : Int) ≤ (u : Int) := by omega
            have T1 : decide ((hs.length : Int) ≤ (u : Int)) = false := by rw [decide_eq_false_iff_not]; omega
            obtain ⟨ci, hci⟩ : ∃ ci : Nat, hs.getD u 0 = ci := by
              have hm := HHOK.out
              unfold Mem.homesOk at hm
              rw [List.all_eq_true] at hm
              have h1 := hm (hs.getD u 0) (by rw [getD_lt _ _ _ hu]; exact List.getElem_mem _)
              simp only [Bool.and_eq_true, decide_eq_true_eq] at h1
              exact ⟨(hs.getD u 0).toNat, by omega⟩
            have hci8 : ci < 8 := by
              have hm := HHOK.out
              unfold Mem.homesOk at hm
              rw [List.all_eq_true] at hm
              have h1 := hm (hs.getD u 0) (by rw [getD_lt _ _ _ hu]; exact List.getElem_mem _)
              simp only [Bool.and_eq_true, decide_eq_true_eq] at h1
              omega
            have ch := (hB2.cell (p := ⟨hb, hoff + u, none⟩) hbw0).trans (HHC.out u hu)
            rw [hci] at ch
            have KL := M.stepC hO2 (by omega) u u 0
            obtain ⟨d, st', Q', es, hJ', hcase⟩ := HJ.out.step u hu 0
            rw [es] at KL
            rw [hci] at hcase
            have HKL := Lib.hid KL
            have HJ' := Lib.hid hJ'
            obtain ⟨ev, b1, b2, b3⟩ := d
            have hc0 : (0 : Int) ≤ (ci : Int) := by omega
            have hc8 : (ci : Int) < 8 := by omega
            clear KL hJ' es mp t0 t1 hci e1 e2
            go_wp2_with fail
            refine HKL.out.mono ?_
            rintro e w5 ⟨rfl, hO5, u5⟩
            have z5 : W2.heap.size ≤ w5.heap.size := u5.size
            have hB5 := u5.below hB2 hB2.size hft
            have p5 := cell_upd u5 p1 (fun h => hAf _ h rfl)
            have hA5 := HKA.out _ _ _ _ HAR.out u5
            have hO6 := M.keep hO5 ((Upd.refl (fun _ => False) w5).alloc (.cells #[.int .i64 ev, .bool b1, .bool b2, .bool b3] 50)) (fun _ _ => id)
            have hA6 := hA5.upd ((Upd.refl (fun _ => False) w5).alloc (.cells #[.int .i64 ev, .bool b1, .bool b2, .bool b3] 50)) id (fun _ _ _ => id)
            have hB6 := hB5.alloc hB5.size (.cells #[.int .i64 ev, .bool b1, .bool b2, .bool b3] 50)
            have p6 := cell_upd ((Upd.refl (fun _ => False) w5).alloc (.cells #[.int .i64 ev, .bool b1, .bool b2, .bool b3] 50)) p5 id
            have R6 : Row (w5.alloc (.cells #[.int .i64 ev, .bool b1, .bool b2, .bool b3] 50)) w5.heap.size [.int .i64 ev, .bool b1, .bool b2, .bool b3] := Row.new' rfl
            have hz6 : (w5.alloc (.cells #[.int .i64 ev, .bool b1, .bool b2, .bool b3] 50)).heap.size = w5.heap.size + 1 := by simp
            unfold didv
            go_upto_region 18 with (fail)
            obtain ⟨w6, hw6⟩ : ∃ w6, w5.alloc (.cells #[.int .i64 ev, .bool b1, .bool b2, .bool b3] 50) = w6 := ⟨_, rfl⟩
            obtain ⟨D, hD⟩ : ∃ D, w5.heap.size = D := ⟨_, rfl⟩
            rw [hw6] at hO6 hA6 hB6 R6 p6 hz6 ⊢
            rw [hD] at R6 hz6 z5 ⊢
            have y0 := R6.cell (i := 0) rfl
            have y1 := R6.cell (i := 1) rfl
            have hXD : X < D := by have := hR.lt; omega
            have HZ6 := Lib.hid hz6
            have z6 : B ≤ w6.heap.size := by omega
            have zD : B ≤ D := by omega
            clear hz6 hw6 hD hO5 u5 HKL p0 p1 p2 hR hO2 hB2 hA5 hB5 p5 ch z5 hzr
            rcases hcase with ⟨hd, hr⟩ | ⟨hd1, hd2, hr⟩ | ⟨hd1, hd2, hr⟩
            · simp only [Prod.mk.injEq] at hd
              obtain ⟨rfl, rfl, rfl, rfl⟩ := hd
              obtain ⟨va, vc, hqv, cA, wA⟩ := hA6.at_ ci hci8
              have hown : ∀ k, (Value.slice va (Q ci).length vc).ownBlock = some k → k < X ∧ B ≤ k := fun k hk => ⟨HOWN.out ci k hci8 (by rw [hqv]; exact hk), (wA.own hk).2⟩
              have rA := hA6.row
              have hla := HLEN.out ci
              have U7 : Upd (fun _ => False) w6 ((w6.alloc (.cells #[.int .i64 u] 3)).drew) := ((Upd.refl _ _).alloc _).drewN 1
              have n7 : Row ((w6.alloc (.cells #[.int .i64 u] 3)).drew) w6.heap.size [.int .i64 u] := (Row.new' rfl).drew
              have s7 : w6.heap.size < ((w6.alloc (.cells #[.int .i64 u] 3)).drew).heap.size := by simp [World.drew]
              obtain ⟨W7, hW7⟩ : ∃ W, (w6.alloc (.cells #[.int .i64 u] 3)).drew = W := ⟨_, rfl⟩
              rw [hW7] at U7 n7 s7
              have c7 := cell_upd U7 cA id
              have p7 := cell_upd U7 p6 id
              have y7 := cell_upd U7 y0 id
              have wA7 := wA.upd U7 (fun _ _ => id)
              have hAq : qs[ci]? = some (.slice va (Q ci).length vc) := by
                have hl : ci < qs.length := by rw [hA6.len]; exact hci8
                rw [List.getElem?_eq_getElem hl, ← getD_lt _ _ undef hl, hqv]
              have HQV := Lib.hid hqv
              have HHR := Lib.hid hr
              have HA6 := Lib.hid hA6
              clear hqv hr hA6
              have HW7 := Lib.hid hW7
              have HY0 := Lib.hid y0
              clear y0
              go_upto_if 87 with (fail)
              go_cut [] from 88 to 96 (fun wx => ∃ qs', (O l s lb pb cap p SP hs.length (hh hs) 0 wx (b + 1) st' ∧ st'.seats.length = hs.length) ∧ Arr wx A B Q' qs' ∧ Below w.heap.size w wx ∧ B ≤ wx.heap.size ∧ wx.cell? ⟨D, 0, none⟩ = some (.int .i64 0))
              case first =>
                go_wp2_with fail
                go_region_law (refine step_append_win rfl (.tmp 91) (.tmp 94) 22 rfl B 3 (.int .i64 0) 8 Try.underlying22 info_i rfl (.slice va (Q ci).length vc) (rowv (Q ci)) rfl wA7 ⟨w6.heap.size, 0, none⟩ 1 (.int .i64 u) rfl (row_news n7) (one_cell rfl) (by rw [rowv_len]; unfold maxLen; omega) (by rw [rowv_len]; omega) (by omega) ?_; intro v8 w8 hwin8 u8 near8; have hw8 : Win w8 B v8 (rowv (Q ci ++ [u])) := (by rw [rowv_snoc]; exact hwin8); obtain ⟨va8, vc8, rfl⟩ := hw8.len; have rA8 := (rA.upd U7 id).upd u8 (fun e => by have := (hown _ e).2; omega); have k8 := rA8.cell (i := ci) hAq; have z8 := rA8.frozen ci; have y8 := cell_upd u8 y7 (fun e => by have := (hown _ e).1; omega); have y9 := cell_upd (Upd.one w8 A ci (.slice va8 (rowv (Q ci ++ [u])).length vc8)) y8 (fun e => by have e : D = A := e; omega))
                all_goals
                  go_wp2_with fail
                  go_meet
                  case rel =>
                    have U8 : Upd (fun k => (Value.slice va (Q ci).length vc).ownBlock = some k) w6 w8 := (U7.mono fun _ _ e => e.elim).trans u8
                    have U9 : Upd (fun k => A ≤ k) w6 (w8.setCell ⟨A, ci, none⟩ (.slice va8 (rowv (Q ci ++ [u])).length vc8)) := (U8.mono (fun k _ e => by have := (hown k e).2; omega)).trans ((Upd.one _ _ _ _).mono (fun k _ e => by have e : k = A := e; omega))
                    refine ⟨qs.set ci (.slice va8 (rowv (Q ci ++ [u])).length vc8), M.keep hO6 U9 (fun i hi e => by have := hfB i hi; omega), ?_, U9.below hB6 hB6.size (fun i e => by omega), by have := U9.size; omega, y9⟩
                    rw [HHR.out]
                    refine HA6.out.set hAB ci hci8 (Q ci ++ [u]) _ (by rw [HQV.out]; exact U8) hw8 ?_
                    rw [HQV.out]
                    rcases near8 with e | ⟨g, h1, h2⟩
                    · exact .inl e
                    · exact .inr ⟨g, by omega, h2⟩
              case rest =>
              obtain ⟨qs', hO9, hA9, hB9, z6, y9⟩ := hcut
              have HO9 := Lib.hid hO9
              have HA9 := Lib.hid hA9
              have HB9 := Lib.hid hB9
              have HQL : Hid (∀ c, (Q' c).length ≤ j + 1) := Lib.hid (by rw [HHR.out]; exact upQ_len HLEN.out _ _ (by simp; omega))
              obtain ⟨w9, hw9⟩ : ∃ w9, wc = w9 := ⟨_, rfl⟩
              rw [hw9] at HO9 HA9 HB9 z6 y9 ⊢
              clear hw9 hO9 hA9 hB9 y1 p6 R6 hO6 hB6 U7 n7 s7 HW7 hW7 c7 p7 y7 wA7 hAq rA hown wA cA hla
              go_upto_region 24 with (fail)
              clear y9
              obtain ⟨hsl, hpl, hnr, hni, hho⟩ := JO.facts HJ'.out
              have HFA := Lib.hid (⟨hnr, hni, hho⟩ : _ ∧ _ ∧ _)
              have hat9 := HO9.out.1.at_
              have HZ9 := Lib.hid (show w9.heap.size = w9.heap.size from rfl)
              obtain ⟨H, hH⟩ : ∃ H, w9.heap.size = H := ⟨_, rfl⟩
              have z9H : B ≤ H := by omega
              have hR9 : Row (w9.alloc (.cells #[.int .i64 0, .int .i64 0, .int .i64 0, .int .i64 0, .int .i64 0, .int .i64 0, .int .i64 0, .int .i64 0, .int .i64 0, .int .i64 0] 53)) H (ints .i64 (List.replicate 10 0)) := by rw [← hH]; exact Row.new' rfl
              have hU9 : Upd (fun _ => False) w9 (w9.alloc (.cells #[.int .i64 0, .int .i64 0, .int .i64 0, .int .i64 0, .int .i64 0, .int .i64 0, .int .i64 0, .int .i64 0, .int .i64 0, .int .i64 0] 53)) := (Upd.refl _ _).alloc _
              clear hnr hni hho hat9
              go_wp2_with fail
              (try rw [hH])
              obtain ⟨w10, hw10⟩ : ∃ w10, w9.alloc (.cells #[.int .i64 0, .int .i64 0, .int .i64 0, .int .i64 0, .int .i64 0, .int .i64 0, .int .i64 0, .int .i64 0, .int .i64 0, .int .i64 0] 53) = w10 := ⟨_, rfl⟩
              rw [hw10] at hR9 hU9 ⊢
              have hz10 : w10.heap.size = H + 1 := by rw [← hw10]; simp; exact hH
              have HH9 := Lib.hid hH
              have HZ10 := Lib.hid hz10
              clear hw10 hH hz10
              go_loopw [13, 123] (fun hv i wi => ∃ q : Nat, q ≤ hs.length ∧ i = .int .i64 q ∧ ∃ (z : Int) (dl : List Int), hv = .int .i64 z ∧ (z = 0 ∨ z = 1) ∧ (z = 1 → ∃ t, t < q ∧ stt st'.seats t = 2) ∧ dl.length = 10 ∧ Row wi H (ints .i64 dl) ∧ (∀ t, q ≤ t → t < hs.length → dl.getD ((st'.pls.getD t p0).n).toNat 0 = 0) ∧ Upd (fun k => k = H) w10 wi) (fun _ i _ => hs.length - (intOf i).toNat)
              case atStart => exact ⟨0, Nat.zero_le _, rfl, 0, _, rfl, .inl rfl, (fun e => by cases e), by simp, hR9, (fun t _ _ => by rw [List.getD, List.getElem?_replicate]; split <;> rfl), Upd.refl _ _⟩
              case round =>
                obtain ⟨q, hq, rfl, z, dl, rfl, hz, hz1, hdl, hRi, hd0, hUi⟩ := hrel
                have hUU : Upd (fun k => k = H) w9 wr := (hU9.mono (fun _ _ e => e.elim)).trans hUi
                have HOi : O l s lb pb cap p SP hs.length (hh hs) 0 wr (b + 1) st' ∧ st'.seats.length = hs.length := M.keep HO9.out hUU (fun i hi e => by have := hfB i hi; omega)
                by_cases hltq : q < hs.length
                · obtain ⟨k1, k2⟩ := HFA.out.1 q hltq
                  obtain ⟨m, hm⟩ : ∃ m : Nat, (st'.pls.getD q p0).n = m := ⟨((st'.pls.getD q p0).n).toNat, by omega⟩
                  have KN := nodeC HOi.1.at_ q (by rw [hsl]; exact hltq)
                  rw [hm] at KN k1 k2
                  have HKN := Lib.hid KN
                  have KS := M.stateC HOi q
                  rw [state_nat] at KS
                  obtain ⟨sv, hsv⟩ : ∃ sv, stt st'.seats q = sv := ⟨_, rfl⟩
                  rw [hsv] at KS
                  have HKS := Lib.hid KS
                  have cm := hRi.cell (i := m) (ints_get (by omega))
                  have hv0 := hd0 q (Nat.le_refl _) hltq
                  rw [hm, Int.toNat_natCast] at hv0
                  rw [hv0] at cm
                  have fm := hRi.frozen m
                  have mp := M.ptr HOi
                  have mp1 := cell_upd (Upd.one wr H m (.int .i64 1)) mp (fun e => by have := hfB l (by simp [ft]); omega)
                  have d1 : (m < 1) = False := by simp; omega
                  have d2 : decide ((m : Int) < 1) = false := by rw [decide_eq_false_iff_not]; omega
                  have d3 : decide (((hs.length : Int) + 1) < (m : Int)) = false := by rw [decide_eq_false_iff_not]; omega
                  have d4 : (0 : Int) ≤ (m : Int) := by omega
                  have d5 : (m : Int) < 10 := by omega
                  have d6 : IntKind.i64.wrap ((hs.length : Int) + 1) = (hs.length : Int) + 1 := IntWalk.i64_in _ (by omega)
                  have hltq' : (q : Int) < (hs.length : Int) := by omega
                  have HSV := Lib.hid hsv
                  have HM := Lib.hid hm
                  have HD0 := Lib.hid hd0
                  have HZ1 := Lib.hid hz1
                  have RN := hRi.set m (.int .i64 1)
                  rw [← ints_set] at RN
                  have UN := Upd.one wr H m (.int .i64 1)
                  have nxt : ∀ t, q + 1 ≤ t → t < hs.length → (dl.set m 1).getD ((st'.pls.getD t p0).n).toNat 0 = 0 := fun t h1 h2 => by
                    have e1 : ((st'.pls.getD t p0).n).toNat ≠ m := fun e => by
                      have := HFA.out.2.1 t q h2 hltq (by rw [HM.out]; have := (HFA.out.1 t h2).1; omega)
                      omega
                    rw [List.getD, List.getElem?_set_ne (fun z => e1 z.symm)]
                    exact HD0.out t (by omega) h2
                  have HNX := Lib.hid nxt
                  have hUi' : Upd (fun k => k = H) w10 (wr.setCell ⟨H, m, none⟩ (.int .i64 1)) := hUi.trans UN
                  clear KN KS hm hsv hv0 hd0 hz1 nxt hRi hUi hUU UN HOi d1
                  go_wp2_with fail
                  refine HKN.out.mono ?_
                  rintro e wj ⟨rfl, rfl⟩
                  go_wp2_with fail
                  have KS2 : Calls Try.prog 21 #[.pointer (some ⟨s, 0, none⟩), .int .i64 q] (wr.setCell ⟨H, m, none⟩ (.int .i64 1)) fun e w' => e = .returned (.int .i64 sv) ∧ wr.setCell ⟨H, m, none⟩ (.int .i64 1) = w' := by
                    have HOj : O l s lb pb cap p SP hs.length (hh hs) 0 (wr.setCell ⟨H, m, none⟩ (.int .i64 1)) (b + 1) st' ∧ st'.seats.length = hs.length := M.keep HO9.out ((hU9.mono (fun _ _ e => e.elim)).trans hUi') (fun i hi e => by have := hfB i hi; omega)
                    have := M.stateC HOj q
                    rw [state_nat, HSV.out] at this
                    exact this
                  refine KS2.mono ?_
                  rintro e wj ⟨rfl, rfl⟩
                  by_cases h2 : sv = 2
                  · have hz0 : z = 0 := by
                      rcases hz with e | e
                      · exact e
                      · obtain ⟨t, t1, t2⟩ := HZ1.out e
                        have := HFA.out.2.2 t q (by omega) hltq t2 (by rw [HSV.out]; exact h2)
                        omega
                    subst hz0
                    have h2' : (sv == 2) = true := by simpa using h2
                    have HQ2 := Lib.hid (show stt st'.seats q = 2 by rw [HSV.out]; exact h2)
                    clear h2 hz
                    go_wp2_with fail
                    go_roundw
                    case rel => exact ⟨q + 1, by omega, by go_num, 1, _, rfl, .inr rfl, (fun _ => ⟨q, by omega, HQ2.out⟩), by simpa using hdl, RN, HNX.out, hUi'⟩
                    case measure => simp [intOf]; omega
                  · have h2' : (sv == 2) = false := by simpa using h2
                    clear h2
                    go_wp2_with fail
                    go_roundw
                    case rel => exact ⟨q + 1, by omega, by go_num, z, _, rfl, hz, (fun e => by obtain ⟨t, t1, t2⟩ := HZ1.out e; exact ⟨t, by omega, t2⟩), by simpa using hdl, RN, HNX.out, hUi'⟩
                    case measure => simp [intOf]; omega
                · have hge : (hs.length : Int) ≤ (q : Int) := by omega
                  have hgt : decide ((1 : Int) < z) = false := by rw [decide_eq_false_iff_not]; omega
                  have hZH := HH9.out
                  have hARi := HA9.out.upd hUU (by omega) (fun i _ h2 e => by have e : i = H := e; omega)
                  have hBi := hUU.below HB9.out HB9.out.size (fun i e => by have e : i = H := e; omega)
                  have hzi : B ≤ wr.heap.size := by have := hUU.size; omega
                  clear hRi hUi hUU hd0 hz1 hZH
                  go_wp2_with fail
                  go_roundw
                  case rel => exact ⟨j + 1, by omega, by go_num, b + 1, st', _, _, ⟨HOi, by omega, HJ'.out, HQL.out, hARi, hBi, hzi⟩⟩
                  case measure => simp [intOf]; omega
            · obtain ⟨r, hQ, hr⟩ := hr
              have hd2 : b1 = false := hd2
              have hd1 : ev = 1 := hd1
              subst hd1 hd2
              obtain ⟨va, vc, hqv, cA, wA⟩ := hA6.at_ ci hci8
              have rA := hA6.row
              have zA := rA.frozen ci
              have hla := HLEN.out ci
              rw [hQ] at hla cA hqv wA
              rw [show rowv (u :: r) = .int .i64 u :: rowv r from rfl] at wA
              rw [show (u :: r).length = r.length + 1 from rfl] at hla cA hqv wA
              obtain ⟨gb, go, gc, hv, hgc, hcl, hwt⟩ := wA.head
              rw [rowv_len] at hv hgc hwt
              simp only [Value.slice.injEq] at hv
              obtain ⟨rfl, -, rfl⟩ := hv
              have hz0 : (((r.length + 1 : Nat) : Int) == 0) = false := by rw [beq_eq_false_iff_ne]; omega
              have hz1 : (((r.length : Int) + 1) == 0) = false := by rw [beq_eq_false_iff_ne]; omega
              have hz2 : ((u : Int) != (u : Int)) = false := by simp
              have hp1 : (0 : Int) < ((r.length : Int) + 1) := by omega
              have hp2 : (1 : Int) ≤ ((r.length : Int) + 1) := by omega
              have hp3 : ((r.length : Int) + 1) ≤ (vc : Int) := by omega
              have HWT := Lib.hid hwt
              have HQV := Lib.hid hqv
              have HHR := Lib.hid hr
              have HA6 := Lib.hid hA6
              have HHQ := Lib.hid hQ
              clear hqv hr hA6 hwt wA hQ rA
              go_wp2_with fail
              go_quiet (fail)
              go_upto_region 24 with (fail)
              obtain ⟨vv, hvv⟩ : ∃ vv, Value.slice (if vc = 1 then some ⟨gb, go, none⟩ else some ⟨gb, go + 1, none⟩) r.length (vc - 1) = vv := ⟨_, rfl⟩
              have hwv := HWT.out
              rw [hvv] at hwv ⊢
              have hov : vv.ownBlock = (Value.slice (some ⟨gb, go, none⟩) (r.length + 1) vc).ownBlock := by
                rw [← hvv]
                by_cases e : vc = 1 <;> simp [e, Value.ownBlock]
              have U9 : Upd (fun k => k = A) w6 ((w6.drewN nq).setCell ⟨A, ci, none⟩ vv) := ((Upd.refl (fun k => k = A) w6).drewN nq).trans (Upd.one _ _ _ _)
              have HA9 : Hid (Arr ((w6.drewN nq).setCell ⟨A, ci, none⟩ vv) A B Q' (qs.set ci vv)) := Lib.hid (by
                rw [HHR.out]
                exact HA6.out.set hAB ci hci8 r vv ((Upd.refl _ _).drewN nq) (hwv.upd ((Upd.refl (fun _ => False) w6).drewN nq) (fun _ _ => id)) (.inl (by rw [HQV.out]; exact hov)))
              have HO9 := Lib.hid (M.keep hO6 U9 (fun i hi e => by have := hfB i hi; have e : i = A := e; omega))
              have HB9 := Lib.hid (U9.below hB6 hB6.size (fun i e => by have e : i = A := e; omega))
              have z9 : B ≤ ((w6.drewN nq).setCell ⟨A, ci, none⟩ vv).heap.size := by have := U9.size; omega
              have HQL : Hid (∀ c, (Q' c).length ≤ j + 1) := Lib.hid (by rw [HHR.out]; exact upQ_len HLEN.out _ _ (by omega))
              clear y0 y1 p6 R6 hO6 hB6 z6 zA hla cA hcl hgc hz0 hz1 hz2 hp1 hp2 hp3 hwv hov U9 hvv HWT HQV HA6
              obtain ⟨w9, hw9⟩ : ∃ w9, (w6.drewN nq).setCell ⟨A, ci, none⟩ vv = w9 := ⟨_, rfl⟩
              rw [hw9] at HO9 HA9 HB9 z9 ⊢
              have z6 := z9
              clear hw9 z9
              obtain ⟨hsl, hpl, hnr, hni, hho⟩ := JO.facts HJ'.out
              have HFA := Lib.hid (⟨hnr, hni, hho⟩ : _ ∧ _ ∧ _)
              have hat9 := HO9.out.1.at_
              have HZ9 := Lib.hid (show w9.heap.size = w9.heap.size from rfl)
              obtain ⟨H, hH⟩ : ∃ H, w9.heap.size = H := ⟨_, rfl⟩
              have z9H : B ≤ H := by omega
              have hR9 : Row (w9.alloc (.cells #[.int .i64 0, .int .i64 0, .int .i64 0, .int .i64 0, .int .i64 0, .int .i64 0, .int .i64 0, .int .i64 0, .int .i64 0, .int .i64 0] 53)) H (ints .i64 (List.replicate 10 0)) := by rw [← hH]; exact Row.new' rfl
              have hU9 : Upd (fun _ => False) w9 (w9.alloc (.cells #[.int .i64 0, .int .i64 0, .int .i64 0, .int .i64 0, .int .i64 0, .int .i64 0, .int .i64 0, .int .i64 0, .int .i64 0, .int .i64 0] 53)) := (Upd.refl _ _).alloc _
              clear hnr hni hho hat9
              go_wp2_with fail
              (try rw [hH])
              obtain ⟨w10, hw10⟩ : ∃ w10, w9.alloc (.cells #[.int .i64 0, .int .i64 0, .int .i64 0, .int .i64 0, .int .i64 0, .int .i64 0, .int .i64 0, .int .i64 0, .int .i64 0, .int .i64 0] 53) = w10 := ⟨_, rfl⟩
              rw [hw10] at hR9 hU9 ⊢
              have hz10 : w10.heap.size = H + 1 := by rw [← hw10]; simp; exact hH
              have HH9 := Lib.hid hH
              have HZ10 := Lib.hid hz10
              clear hw10 hH hz10
              go_loopw [13, 123] (fun hv i wi => ∃ q : Nat, q ≤ hs.length ∧ i = .int .i64 q ∧ ∃ (z : Int) (dl : List Int), hv = .int .i64 z ∧ (z = 0 ∨ z = 1) ∧ (z = 1 → ∃ t, t < q ∧ stt st'.seats t = 2) ∧ dl.length = 10 ∧ Row wi H (ints .i64 dl) ∧ (∀ t, q ≤ t → t < hs.length → dl.getD ((st'.pls.getD t p0).n).toNat 0 = 0) ∧ Upd (fun k => k = H) w10 wi) (fun _ i _ => hs.length - (intOf i).toNat)
              case atStart => exact ⟨0, Nat.zero_le _, rfl, 0, _, rfl, .inl rfl, (fun e => by cases e), by simp, hR9, (fun t _ _ => by rw [List.getD, List.getElem?_replicate]; split <;> rfl), Upd.refl _ _⟩
              case round =>
                obtain ⟨q, hq, rfl, z, dl, rfl, hz, hz1, hdl, hRi, hd0, hUi⟩ := hrel
                have hUU : Upd (fun k => k = H) w9 wr := (hU9.mono (fun _ _ e => e.elim)).trans hUi
                have HOi : O l s lb pb cap p SP hs.length (hh hs) 0 wr (b + 1) st' ∧ st'.seats.length = hs.length := M.keep HO9.out hUU (fun i hi e => by have := hfB i hi; omega)
                by_cases hltq : q < hs.length
                · obtain ⟨k1, k2⟩ := HFA.out.1 q hltq
                  obtain ⟨m, hm⟩ : ∃ m : Nat, (st'.pls.getD q p0).n = m := ⟨((st'.pls.getD q p0).n).toNat, by omega⟩
                  have KN := nodeC HOi.1.at_ q (by rw [hsl]; exact hltq)
                  rw [hm] at KN k1 k2
                  have HKN := Lib.hid KN
                  have KS := M.stateC HOi q
                  rw [state_nat] at KS
                  obtain ⟨sv, hsv⟩ : ∃ sv, stt st'.seats q = sv := ⟨_, rfl⟩
                  rw [hsv] at KS
                  have HKS := Lib.hid KS
                  have cm := hRi.cell (i := m) (ints_get (by omega))
                  have hv0 := hd0 q (Nat.le_refl _) hltq
                  rw [hm, Int.toNat_natCast] at hv0
                  rw [hv0] at cm
                  have fm := hRi.frozen m
                  have mp := M.ptr HOi
                  have mp1 := cell_upd (Upd.one wr H m (.int .i64 1)) mp (fun e => by have := hfB l (by simp [ft]); omega)
                  have d1 : (m < 1) = False := by simp; omega
                  have d2 : decide ((m : Int) < 1) = false := by rw [decide_eq_false_iff_not]; omega
                  have d3 : decide (((hs.length : Int) + 1) < (m : Int)) = false := by rw [decide_eq_false_iff_not]; omega
                  have d4 : (0 : Int) ≤ (m : Int) := by omega
                  have d5 : (m : Int) < 10 := by omega
                  have d6 : IntKind.i64.wrap ((hs.length : Int) + 1) = (hs.length : Int) + 1 := IntWalk.i64_in _ (by omega)
                  have hltq' : (q : Int) < (hs.length : Int) := by omega
                  have HSV := Lib.hid hsv
                  have HM := Lib.hid hm
                  have HD0 := Lib.hid hd0
                  have HZ1 := Lib.hid hz1
                  have RN := hRi.set m (.int .i64 1)
                  rw [← ints_set] at RN
                  have UN := Upd.one wr H m (.int .i64 1)
                  have nxt : ∀ t, q + 1 ≤ t → t < hs.length → (dl.set m 1).getD ((st'.pls.getD t p0).n).toNat 0 = 0 := fun t h1 h2 => by
                    have e1 : ((st'.pls.getD t p0).n).toNat ≠ m := fun e => by
                      have := HFA.out.2.1 t q h2 hltq (by rw [HM.out]; have := (HFA.out.1 t h2).1; omega)
                      omega
                    rw [List.getD, List.getElem?_set_ne (fun z => e1 z.symm)]
                    exact HD0.out t (by omega) h2
                  have HNX := Lib.hid nxt
                  have hUi' : Upd (fun k => k = H) w10 (wr.setCell ⟨H, m, none⟩ (.int .i64 1)) := hUi.trans UN
                  clear KN KS hm hsv hv0 hd0 hz1 nxt hRi hUi hUU UN HOi d1
                  go_wp2_with fail
                  refine HKN.out.mono ?_
                  rintro e wj ⟨rfl, rfl⟩
                  go_wp2_with fail
                  have KS2 : Calls Try.prog 21 #[.pointer (some ⟨s, 0, none⟩), .int .i64 q] (wr.setCell ⟨H, m, none⟩ (.int .i64 1)) fun e w' => e = .returned (.int .i64 sv) ∧ wr.setCell ⟨H, m, none⟩ (.int .i64 1) = w' := by
                    have HOj : O l s lb pb cap p SP hs.length (hh hs) 0 (wr.setCell ⟨H, m, none⟩ (.int .i64 1)) (b + 1) st' ∧ st'.seats.length = hs.length := M.keep HO9.out ((hU9.mono (fun _ _ e => e.elim)).trans hUi') (fun i hi e => by have := hfB i hi; omega)
                    have := M.stateC HOj q
                    rw [state_nat, HSV.out] at this
                    exact this
                  refine KS2.mono ?_
                  rintro e wj ⟨rfl, rfl⟩
                  by_cases h2 : sv = 2
                  · have hz0 : z = 0 := by
                      rcases hz with e | e
                      · exact e
                      · obtain ⟨t, t1, t2⟩ := HZ1.out e
                        have := HFA.out.2.2 t q (by omega) hltq t2 (by rw [HSV.out]; exact h2)
                        omega
                    subst hz0
                    have h2' : (sv == 2) = true := by simpa using h2
                    have HQ2 := Lib.hid (show stt st'.seats q = 2 by rw [HSV.out]; exact h2)
                    clear h2 hz
                    go_wp2_with fail
                    go_roundw
                    case rel => exact ⟨q + 1, by omega, by go_num, 1, _, rfl, .inr rfl, (fun _ => ⟨q, by omega, HQ2.out⟩), by simpa using hdl, RN, HNX.out, hUi'⟩
                    case measure => simp [intOf]; omega
                  · have h2' : (sv == 2) = false := by simpa using h2
                    clear h2
                    go_wp2_with fail
                    go_roundw
                    case rel => exact ⟨q + 1, by omega, by go_num, z, _, rfl, hz, (fun e => by obtain ⟨t, t1, t2⟩ := HZ1.out e; exact ⟨t, by omega, t2⟩), by simpa using hdl, RN, HNX.out, hUi'⟩
                    case measure => simp [intOf]; omega
                · have hge : (hs.length : Int) ≤ (q : Int) := by omega
                  have hgt : decide ((1 : Int) < z) = false := by rw [decide_eq_false_iff_not]; omega
                  have hZH := HH9.out
                  have hARi := HA9.out.upd hUU (by omega) (fun i _ h2 e => by have e : i = H := e; omega)
                  have hBi := hUU.below HB9.out HB9.out.size (fun i e => by have e : i = H := e; omega)
                  have hzi : B ≤ wr.heap.size := by have := hUU.size; omega
                  clear hRi hUi hUU hd0 hz1 hZH
                  go_wp2_with fail
                  go_roundw
                  case rel => exact ⟨j + 1, by omega, by go_num, b + 1, st', _, _, ⟨HOi, by omega, HJ'.out, HQL.out, hARi, hBi, hzi⟩⟩
                  case measure => simp [intOf]; omega
            · have hd2 : b1 = false := hd2
              have hd1 : ev ≠ 1 := hd1
              have hev : (ev == 1) = false := by simpa using hd1
              subst hd2 hr
              clear hd1
              go_upto_region 24 with (fail)
              have HO9 := Lib.hid hO6
              have HA9 := Lib.hid hA6
              have HB9 := Lib.hid hB6
              have HQL : Hid (∀ c, (Q' c).length ≤ j + 1) := Lib.hid (fun c => by have := HLEN.out c; omega)
              clear y0 y1 p6 R6 hO6 hA6 hB6 hev
              obtain ⟨w9, hw9⟩ : ∃ w9, w6 = w9 := ⟨_, rfl⟩
              rw [hw9] at HO9 HA9 HB9 z6 ⊢
              clear hw9
              obtain ⟨hsl, hpl, hnr, hni, hho⟩ := JO.facts HJ'.out
              have HFA := Lib.hid (⟨hnr, hni, hho⟩ : _ ∧ _ ∧ _)
              have hat9 := HO9.out.1.at_
              have HZ9 := Lib.hid (show w9.heap.size = w9.heap.size from rfl)
              obtain ⟨H, hH⟩ : ∃ H, w9.heap.size = H := ⟨_, rfl⟩
              have z9H : B ≤ H := by omega
              have hR9 : Row (w9.alloc (.cells #[.int .i64 0, .int .i64 0, .int .i64 0, .int .i64 0, .int .i64 0, .int .i64 0, .int .i64 0, .int .i64 0, .int .i64 0, .int .i64 0] 53)) H (ints .i64 (List.replicate 10 0)) := by rw [← hH]; exact Row.new' rfl
              have hU9 : Upd (fun _ => False) w9 (w9.alloc (.cells #[.int .i64 0, .int .i64 0, .int .i64 0, .int .i64 0, .int .i64 0, .int .i64 0, .int .i64 0, .int .i64 0, .int .i64 0, .int .i64 0] 53)) := (Upd.refl _ _).alloc _
              clear hnr hni hho hat9
              go_wp2_with fail
              (try rw [hH])
              obtain ⟨w10, hw10⟩ : ∃ w10, w9.alloc (.cells #[.int .i64 0, .int .i64 0, .int .i64 0, .int .i64 0, .int .i64 0, .int .i64 0, .int .i64 0, .int .i64 0, .int .i64 0, .int .i64 0] 53) = w10 := ⟨_, rfl⟩
              rw [hw10] at hR9 hU9 ⊢
              have hz10 : w10.heap.size = H + 1 := by rw [← hw10]; simp; exact hH
              have HH9 := Lib.hid hH
              have HZ10 := Lib.hid hz10
              clear hw10 hH hz10
              go_loopw [13, 123] (fun hv i wi => ∃ q : Nat, q ≤ hs.length ∧ i = .int .i64 q ∧ ∃ (z : Int) (dl : List Int), hv = .int .i64 z ∧ (z = 0 ∨ z = 1) ∧ (z = 1 → ∃ t, t < q ∧ stt st'.seats t = 2) ∧ dl.length = 10 ∧ Row wi H (ints .i64 dl) ∧ (∀ t, q ≤ t → t < hs.length → dl.getD ((st'.pls.getD t p0).n).toNat 0 = 0) ∧ Upd (fun k => k = H) w10 wi) (fun _ i _ => hs.length - (intOf i).toNat)
              case atStart => exact ⟨0, Nat.zero_le _, rfl, 0, _, rfl, .inl rfl, (fun e => by cases e), by simp, hR9, (fun t _ _ => by rw [List.getD, List.getElem?_replicate]; split <;> rfl), Upd.refl _ _⟩
              case round =>
                obtain ⟨q, hq, rfl, z, dl, rfl, hz, hz1, hdl, hRi, hd0, hUi⟩ := hrel
                have hUU : Upd (fun k => k = H) w9 wr := (hU9.mono (fun _ _ e => e.elim)).trans hUi
                have HOi : O l s lb pb cap p SP hs.length (hh hs) 0 wr (b + 1) st' ∧ st'.seats.length = hs.length := M.keep HO9.out hUU (fun i hi e => by have := hfB i hi; omega)
                by_cases hltq : q < hs.length
                · obtain ⟨k1, k2⟩ := HFA.out.1 q hltq
                  obtain ⟨m, hm⟩ : ∃ m : Nat, (st'.pls.getD q p0).n = m := ⟨((st'.pls.getD q p0).n).toNat, by omega⟩
                  have KN := nodeC HOi.1.at_ q (by rw [hsl]; exact hltq)
                  rw [hm] at KN k1 k2
                  have HKN := Lib.hid KN
                  have KS := M.stateC HOi q
                  rw [state_nat] at KS
                  obtain ⟨sv, hsv⟩ : ∃ sv, stt st'.seats q = sv := ⟨_, rfl⟩
                  rw [hsv] at KS
                  have HKS := Lib.hid KS
                  have cm := hRi.cell (i := m) (ints_get (by omega))
                  have hv0 := hd0 q (Nat.le_refl _) hltq
                  rw [hm, Int.toNat_natCast] at hv0
                  rw [hv0] at cm
                  have fm := hRi.frozen m
                  have mp := M.ptr HOi
                  have mp1 := cell_upd (Upd.one wr H m (.int .i64 1)) mp (fun e => by have := hfB l (by simp [ft]); omega)
                  have d1 : (m < 1) = False := by simp; omega
                  have d2 : decide ((m : Int) < 1) = false := by rw [decide_eq_false_iff_not]; omega
                  have d3 : decide (((hs.length : Int) + 1) < (m : Int)) = false := by rw [decide_eq_false_iff_not]; omega
                  have d4 : (0 : Int) ≤ (m : Int) := by omega
                  have d5 : (m : Int) < 10 := by omega
                  have d6 : IntKind.i64.wrap ((hs.length : Int) + 1) = (hs.length : Int) + 1 := IntWalk.i64_in _ (by omega)
                  have hltq' : (q : Int) < (hs.length : Int) := by omega
                  have HSV := Lib.hid hsv
                  have HM := Lib.hid hm
                  have HD0 := Lib.hid hd0
                  have HZ1 := Lib.hid hz1
                  have RN := hRi.set m (.int .i64 1)
                  rw [← ints_set] at RN
                  have UN := Upd.one wr H m (.int .i64 1)
                  have nxt : ∀ t, q + 1 ≤ t → t < hs.length → (dl.set m 1).getD ((st'.pls.getD t p0).n).toNat 0 = 0 := fun t h1 h2 => by
                    have e1 : ((st'.pls.getD t p0).n).toNat ≠ m := fun e => by
                      have := HFA.out.2.1 t q h2 hltq (by rw [HM.out]; have := (HFA.out.1 t h2).1; omega)
                      omega
                    rw [List.getD, List.getElem?_set_ne (fun z => e1 z.symm)]
                    exact HD0.out t (by omega) h2
                  have HNX := Lib.hid nxt
                  have hUi' : Upd (fun k => k = H) w10 (wr.setCell ⟨H, m, none⟩ (.int .i64 1)) := hUi.trans UN
                  clear KN KS hm hsv hv0 hd0 hz1 nxt hRi hUi hUU UN HOi d1
                  go_wp2_with fail
                  refine HKN.out.mono ?_
                  rintro e wj ⟨rfl, rfl⟩
                  go_wp2_with fail
                  have KS2 : Calls Try.prog 21 #[.pointer (some ⟨s, 0, none⟩), .int .i64 q] (wr.setCell ⟨H, m, none⟩ (.int .i64 1)) fun e w' => e = .returned (.int .i64 sv) ∧ wr.setCell ⟨H, m, none⟩ (.int .i64 1) = w' := by
                    have HOj : O l s lb pb cap p SP hs.length (hh hs) 0 (wr.setCell ⟨H, m, none⟩ (.int .i64 1)) (b + 1) st' ∧ st'.seats.length = hs.length := M.keep HO9.out ((hU9.mono (fun _ _ e => e.elim)).trans hUi') (fun i hi e => by have := hfB i hi; omega)
                    have := M.stateC HOj q
                    rw [state_nat, HSV.out] at this
                    exact this
                  refine KS2.mono ?_
                  rintro e wj ⟨rfl, rfl⟩
                  by_cases h2 : sv = 2
                  · have hz0 : z = 0 := by
                      rcases hz with e | e
                      · exact e
                      · obtain ⟨t, t1, t2⟩ := HZ1.out e
                        have := HFA.out.2.2 t q (by omega) hltq t2 (by rw [HSV.out]; exact h2)
                        omega
                    subst hz0
                    have h2' : (sv == 2) = true := by simpa using h2
                    have HQ2 := Lib.hid (show stt st'.seats q = 2 by rw [HSV.out]; exact h2)
                    clear h2 hz
                    go_wp2_with fail
                    go_roundw
                    case rel => exact ⟨q + 1, by omega, by go_num, 1, _, rfl, .inr rfl, (fun _ => ⟨q, by omega, HQ2.out⟩), by simpa using hdl, RN, HNX.out, hUi'⟩
                    case measure => simp [intOf]; omega
                  · have h2' : (sv == 2) = false := by simpa using h2
                    clear h2
                    go_wp2_with fail
                    go_roundw
                    case rel => exact ⟨q + 1, by omega, by go_num, z, _, rfl, hz, (fun e => by obtain ⟨t, t1, t2⟩ := HZ1.out e; exact ⟨t, by omega, t2⟩), by simpa using hdl, RN, HNX.out, hUi'⟩
                    case measure => simp [intOf]; omega
                · have hge : (hs.length : Int) ≤ (q : Int) := by omega
                  have hgt : decide ((1 : Int) < z) = false := by rw [decide_eq_false_iff_not]; omega
                  have hZH := HH9.out
                  have hARi := HA9.out.upd hUU (by omega) (fun i _ h2 e => by have e : i = H := e; omega)
                  have hBi := hUU.below HB9.out HB9.out.size (fun i e => by have e : i = H := e; omega)
                  have hzi : B ≤ wr.heap.size := by have := hUU.size; omega
                  clear hRi hUi hUU hd0 hz1 hZH
                  go_wp2_with fail
                  go_roundw
                  case rel => exact ⟨j + 1, by omega, by go_num, b + 1, st', _, _, ⟨HOi, by omega, HJ'.out, HQL.out, hARi, hBi, hzi⟩⟩
                  case measure => simp [intOf]; omega
          have E4 : (k == 4) = false := by simpa using e4
          have E4' : (k != 4) = true := by simpa using e4
          clear e1 e2 e4
          go_wp2_with fail
          go_roundw
          case rel => exact ⟨j + 1, by omega, by go_num, b, st, Q, qs, ⟨hO2, by omega, HJ.out, (fun c => by have := HLEN.out c; omega), HAR.out, hB2, hzr⟩⟩
          case measure => simp [intOf]; omega
      · obtain rfl : j = xs.length := by omega
        have hB9 := hL.bel
        clear hL
        go_wp2_with fail
        refine (awake _).mono ?_
        rintro e w8 ⟨rfl, u8⟩
        go_wp2_with fail
        go_ret
        exact ⟨rfl, hB9.trans (u8.mono hB9.size)⟩
end Go.Proofs.Ytmiidiijhhjabaa.WalkHierOrder
