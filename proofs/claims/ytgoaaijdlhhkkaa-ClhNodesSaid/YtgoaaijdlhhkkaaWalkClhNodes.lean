/- The law ClhNodes, walked. -/
import Derived.Test.YtgoaaijdlhhkkaaOrd
import Derived.Test.YtgoaaijdlhhkkaaWalkClhOrder
import Derived.Test.YtgoaaijdlhhkkaaArr
import Derived.Test.YtgoaaijdlhhkkaaClhP
import Derived.Test.YtgoaaijdlhhkkaaLaw12
import Derived.Test.YtgoaaijdlhhkkaaOps10
namespace Go.Proofs.Ytgoaaijdlhhkkaa.WalkClhNodes
open Go Go.RowKit Go.Proofs.Ytgoaaijdlhhkkaa.WalkClhOrder Go.Proofs.Ytgoaaijdlhhkkaa.ClhQ Go.Proofs.Ytgoaaijdlhhkkaa.ClhP Go.Proofs.Ytgoaaijdlhhkkaa.Heap Go.Proofs.Ytgoaaijdlhhkkaa.Open Go.Proofs.Ytgoaaijdlhhkkaa.Seat Go.Proofs.Ytgoaaijdlhhkkaa.Mach Go.Proofs.Ytgoaaijdlhhkkaa.Has Go.Proofs.Ytgoaaijdlhhkkaa.Lk Go.Proofs.Ytgoaaijdlhhkkaa.Clh Go.Proofs.Ytgoaaijdlhhkkaa.StepU Go.Proofs.Ytgoaaijdlhhkkaa.Law12

/-- Which nodes the first t contexts have. -/
def hadv (N : Nat) (f : Nat → Int) (t : Nat) : List Int := (List.range N).map fun (x : Nat) => if (List.range t).any (fun u => f u == (x : Int)) = true then 1 else 0
theorem hadv_len (N : Nat) (f : Nat → Int) (t : Nat) : (hadv N f t).length = N := by simp [hadv]
theorem hadv_get (N : Nat) (f : Nat → Int) (t x : Nat) (hx : x < N) : (hadv N f t).getD x 0 = if (List.range t).any (fun u => f u == (x : Int)) = true then 1 else 0 := by simp [hadv, List.getD, hx]
theorem hadv_free (N : Nat) (f : Nat → Int) (t x : Nat) (hx : x < N) (h : ∀ u, u < t → f u ≠ (x : Int)) : (hadv N f t).getD x 0 = 0 := by
  rw [hadv_get N f t x hx, if_neg]
  rw [List.any_eq_true]
  rintro ⟨u, hu, e⟩
  exact h u (List.mem_range.1 hu) (by simpa using e)
theorem hadv_next (N : Nat) (f : Nat → Int) (t x : Nat) (h : f t = (x : Int)) : (hadv N f t).set x 1 = hadv N f (t + 1) := by
  refine List.ext_getElem (by simp [hadv]) fun y h1 h2 => ?_
  have ea : (List.range (t + 1)).any (fun u => f u == (y : Int)) = ((List.range t).any (fun u => f u == (y : Int)) || ((x : Int) == (y : Int))) := by
    rw [List.range_succ, List.any_append, List.any_cons, List.any_nil, h, Bool.or_false]
  simp only [hadv, List.getElem_set, List.getElem_map, List.getElem_range, ea]
  by_cases e : x = y
  · subst e
    rw [if_pos rfl, if_pos (by simp)]
  · have e2 : ((x : Int) == (y : Int)) = false := by simp; omega
    rw [if_neg e, e2, Bool.or_false]
set_option maxHeartbeats 16000000 in
set_option maxRecDepth 100000 in
theorem walk (v : Value) (hs : List Int) (v2 : Value) (xs : List (List Int)) (w : World) (h0 : Src1 w v .i64 hs) (h2 : I64s w v2 4 xs) :
    Calls Try.prog 4 #[v, v2] w fun e w' => e = .returned (.bool true) ∧ Below w.heap.size w w' := by
  have h2k := h2
  obtain ⟨⟨ao, cap, rfl, hlc, -, -⟩, -⟩ := h2
  have KF := fine w v hs h0 ao xs.length cap
  cases hf : fineB hs xs.length with
  | false =>
    rw [hf] at KF
    have HF := Lib.hid KF
    clear KF hf h2k
    obtain ⟨a, c, rfl, -, -⟩ := h0
    go_enter Try.func4, Try.ntmps4
    go_wp2_with fail
    refine HF.out.mono ?_
    rintro e w' ⟨rfl, rfl⟩
    go_wp2_with fail
    refine (awake _).mono ?_
    rintro e w4 ⟨rfl, u4⟩
    go_wp2_with fail
    go_ret
    exact ⟨rfl, u4⟩
  | true =>
    rw [hf] at KF
    obtain ⟨n1, n8, hok, hl⟩ := fineB_true hf
    have HF := Lib.hid KF
    have HOPS := Lib.hid h2k
    have HSRC := Lib.hid h0
    clear KF hf h2k
    obtain ⟨a, c, rfl, -, -⟩ := h0
    go_enter Try.func4, Try.ntmps4
    go_wp2_with fail
    refine HF.out.mono ?_
    rintro e w' ⟨rfl, rfl⟩
    go_wp2_with fail
    refine (Plan.newPl _ hs.length).mono ?_
    rintro e w1 ⟨pl, rfl, hpl, hB1⟩
    have hz1 := hB1.size
    go_wp2_with fail
    refine (Clh.new_yes _ pl (Mem.Btw w w1) hs.length [] [] hpl (by decide) _ hs (HSRC.out.below hB1) n1 (by omega) hok (by
      intro b hb h
      obtain ⟨_, _, hv, -, hcell⟩ := HSRC.out
      simp at hv
      obtain ⟨rfl, rfl⟩ := hv
      obtain ⟨b', off, rfl, hbw, -⟩ := hcell (by omega)
      simp [Value.ownBlock] at hb
      have := h.1; omega)).mono ?_
    rintro e w2 ⟨l, s, lb, pb, cap, rfl, ha, ⟨S', hp2, hS', s1, s2, s3, s4⟩, b1, b2, b3, b4, hu2⟩
    have hB2 : Below w.heap.size w w2 := hu2.below hB1 hz1 (fun i hi => hi.1)
    have hz2 := hB2.size
    go_wp2_with fail
    refine (Plan.portPl _ pl S' hs.length _ _ hp2 (by simp; omega) (home2 hs n1 hok) (by intro y hy; simp at hy; omega) n1 (by omega)).mono ?_
    rintro e w3 ⟨p, rfl, hpo, hB3⟩
    have ha3 := ha.keep (Upd.of_below (S := fun _ => False) hB3) id id id id
    have hB4 := hB2.trans (hB3.mono hz2)
    have sep : ¬ Mem.Btw w2 w3 l ∧ ¬ Mem.Btw w2 w3 s ∧ ¬ Mem.Btw w2 w3 lb ∧ ¬ Mem.Btw w2 w3 pb :=
      ⟨fun h => by have := ha.top.lt; have := h.1; omega, fun h => by have := ha.seat.top.lt; have := h.1; omega, fun h => by have := ha.seat.row.lt; have := h.1; omega, fun h => by have := ha.plc.lt; have := h.1; omega⟩
    have hft : ∀ i, ft l s lb pb (Mem.Btw w2 w3) i → w.heap.size ≤ i := by
      intro i hi
      rcases hi with hi | rfl | rfl | rfl | rfl
      · have := hi.1; omega
      all_goals omega
    have KU : Calls Try.prog 18 #[.pointer (some ⟨l, 0, none⟩), .pointer (some ⟨p, 0, none⟩)] w3 fun e w' => e = .returned (.tuple #[]) ∧ (O l s lb pb cap p (Mem.Btw w2 w3) hs.length ([] ++ [hs.getD 0 0, hs.getD 0 0] ++ hs) 0 w' 0 (st0 hs.length ([] ++ [0, 0] ++ List.replicate hs.length 0)) ∧ (st0 hs.length ([] ++ [0, 0] ++ List.replicate hs.length 0)).seats.length = hs.length) ∧ Upd (ft l s lb pb (Mem.Btw w2 w3)) w3 w' := by
      refine (useO ha3 hpo sep).mono ?_
      rintro e w' ⟨he, ho, hu⟩
      exact ⟨he, ⟨ho, by simp [st0]⟩, hu⟩
    have HKU := Lib.hid KU
    have hn9 : (hs.length : Int) ≤ 8 := by omega
    have hl150 : (xs.length : Int) ≤ 150 := by omega
    obtain ⟨⟨_, _, hv2, -, -, hcells⟩, hwf⟩ := HOPS.out
    simp at hv2
    obtain ⟨rfl, rfl⟩ := hv2
    clear KU ha ha3 hpo hp2 hpl hu2 hB1
    go_wp2_with fail
    refine HKU.out.mono ?_
    rintro e w4 ⟨rfl, hO, hu4⟩
    have hB5 := hu4.below hB4 hB4.size hft
    obtain ⟨B, hBB⟩ : ∃ B, w4.heap.size = B := ⟨_, rfl⟩
    have hBM : B ≤ w4.heap.size := by omega
    have M := mach (l := l) (s := s) (lb := lb) (pb := pb) (cap := cap) (p := p) (SP := Mem.Btw w2 w3) (k := hs.length) (hs := [] ++ [hs.getD 0 0, hs.getD 0 0] ++ hs) (tl := 0) hs.length
    have hfB : ∀ i, ft l s lb pb (Mem.Btw w2 w3) i → i < B := fun i hi => by rw [← hBB]; exact M.lt hO i hi
    have hwB : w.heap.size ≤ B := by rw [← hBB]; exact hB5.size
    have K := (ClhP.ql hs.length).keeps true
    have HI0 := Lib.hid (ClhP.start hs.length n8)
    clear hBB HKU hu4 hB4
    go_wp2_with fail
    go_loopw [48] (fun i wr => ∃ j : Nat, j ≤ xs.length ∧ i = .int .i64 j ∧ ∃ (b : Nat) (st : St) (q : List Int), b ≤ j ∧ (O l s lb pb cap p (Mem.Btw w2 w3) hs.length ([] ++ [hs.getD 0 0, hs.getD 0 0] ++ hs) 0 wr b st ∧ st.seats.length = hs.length) ∧ (∃ h, ClhP.I hs.length st q h) ∧ Below w.heap.size w wr ∧ B ≤ wr.heap.size) (fun i _ => xs.length - (intOf i).toNat)
    case atStart => exact ⟨0, Nat.zero_le _, rfl, 0, _, [], by omega, hO, ⟨none, HI0.out⟩, hB5, hBM⟩
    case round =>
      obtain ⟨j, hj, rfl, b, st, q, hbj, hO, hinv, hB, hBM⟩ := hrel
      have HINV := Lib.hid hinv
      clear hinv
      by_cases hlt : j < xs.length
      · obtain ⟨bo, off, rfl, hbw, hcell⟩ := hcells (by omega)
        have hy := hwf (xs.getD j []) (by rw [getD_lt _ _ _ hlt]; exact List.getElem_mem hlt)
        obtain ⟨y, hyy⟩ : ∃ y, xs.getD j [] = y := ⟨_, rfl⟩
        rw [hyy] at hy
        obtain ⟨hy3, hyw⟩ := hy
        match y, hy3 with
        | [k, t, N, lt], _ =>
          have c0 := (hB.cell (p := ⟨bo, off + j * 4, none⟩) hbw).trans (hcell j hlt 0 (.int .i64 k) (by decide) (by rw [hyy]; rfl))
          have c1 := (hB.cell (p := ⟨bo, off + j * 4 + 1, none⟩) hbw).trans (hcell j hlt 1 (.int .i64 t) (by decide) (by rw [hyy]; rfl))
          have c2 := (hB.cell (p := ⟨bo, off + j * 4 + 2, none⟩) hbw).trans (hcell j hlt 2 (.int .i64 N) (by decide) (by rw [hyy]; rfl))
          have c3 := (hB.cell (p := ⟨bo, off + j * 4 + 3, none⟩) hbw).trans (hcell j hlt 3 (.int .i64 lt) (by decide) (by rw [hyy]; rfl))
          have hO2 := M.keep hO ((Upd.refl (fun _ => False) wr).alloc (.cells #[.int .i64 k, .int .i64 t, .int .i64 N, .int .i64 lt] 47)) (fun _ _ => id)
          have hB2 := hB.alloc hB.size (.cells #[.int .i64 k, .int .i64 t, .int .i64 N, .int .i64 lt] 47)
          have hR : Row (wr.alloc (.cells #[.int .i64 k, .int .i64 t, .int .i64 N, .int .i64 lt] 47)) wr.heap.size [.int .i64 k, .int .i64 t, .int .i64 N, .int .i64 lt] := Row.new' rfl
          clear hyy hcell hyw hO
          have hlt' : (j : Int) < (xs.length : Int) := by omega
          go_upto_block 2 with (fail)
          have hzr : B ≤ (wr.alloc (.cells #[.int .i64 k, .int .i64 t, .int .i64 N, .int .i64 lt] 47)).heap.size := by simp; omega
          obtain ⟨W2, hW2⟩ : ∃ W, wr.alloc (.cells #[.int .i64 k, .int .i64 t, .int .i64 N, .int .i64 lt] 47) = W := ⟨_, rfl⟩
          obtain ⟨A, hA⟩ : ∃ A, wr.heap.size = A := ⟨_, rfl⟩
          rw [hW2] at hO2 hB2 hR hzr ⊢
          rw [hA] at hR hBM ⊢
          clear hW2 hA c0 c1 c2 c3 hB
          have hAf : ∀ i, ft l s lb pb (Mem.Btw w2 w3) i → i ≠ A := fun i hi e => by have := hfB i hi; omega
          go_cut [] from 51 to 81 (fun wx => ∃ (b' : Nat) (st' : St) (q' : List Int), b' ≤ j + 1 ∧ (O l s lb pb cap p (Mem.Btw w2 w3) hs.length ([] ++ [hs.getD 0 0, hs.getD 0 0] ++ hs) 0 wx b' st' ∧ st'.seats.length = hs.length) ∧ (∃ h, ClhP.I hs.length st' q' h) ∧ Below w.heap.size w wx ∧ B ≤ wx.heap.size)
          case first =>
            have p0 := hR.cell (i := 0) rfl
            have p1 := hR.cell (i := 1) rfl
            have p2 := hR.cell (i := 2) rfl
            have mp := M.ptr hO2
            by_cases e1 : k = 1
            · subst e1
              have KL := M.lockC (M.keep hO2 ((Upd.refl (fun _ => False) W2).drewN 1) (fun _ _ => id)) t N
              have HKL := Lib.hid KL
              clear KL
              go_wp2_with fail
              go_region_held3 (fun w' => w'.cell? ⟨l, 0, none⟩ = some (.pointer (some ⟨s, 0, none⟩)) ∧ w'.cell? ⟨A, 1, none⟩ = some (.int .i64 t) ∧ w'.cell? ⟨A, 2, none⟩ = some (.int .i64 N)) ((first | exact ⟨mp, p1, p2⟩ | exact ⟨q1, q2, q3⟩))
                ((first | (go_at_call 19; refine HKL.out.mono ?_; rintro e w5 ⟨rfl, hO5, u5⟩; have q1 := M.ptr hO5; have q2 := cell_upd u5 p1 (fun h => hAf _ h rfl); have q3 := cell_upd u5 p2 (fun h => hAf _ h rfl))))
              go_wp2_with fail
              have z5 : W2.heap.size ≤ w5.heap.size := u5.size
              go_meet
              case rel => exact ⟨b, _, q, by omega, hO5, K.lock _ _ _ _ HINV.out, u5.below (below_drewN hB2 1) hB2.size hft, by omega⟩
            have E1 : (k == 1) = false := by simpa using e1
            by_cases e2 : k = 2
            · subst e2
              have KL := M.unlockC (M.keep hO2 ((Upd.refl (fun _ => False) W2).drewN 1) (fun _ _ => id)) t
              have HKL := Lib.hid KL
              clear KL
              go_wp2_with fail
              go_region_held3 (fun w' => w'.cell? ⟨l, 0, none⟩ = some (.pointer (some ⟨s, 0, none⟩)) ∧ w'.cell? ⟨A, 1, none⟩ = some (.int .i64 t)) ((first | exact ⟨mp, p1⟩ | exact ⟨q1, q2⟩))
                ((first | (go_at_call 20; refine HKL.out.mono ?_; rintro e w5 ⟨rfl, hO5, u5⟩; have q1 := M.ptr hO5; have q2 := cell_upd u5 p1 (fun h => hAf _ h rfl))))
              go_wp2_with fail
              have z5 : W2.heap.size ≤ w5.heap.size := u5.size
              go_meet
              case rel => exact ⟨b, _, q, by omega, hO5, K.unlock _ _ _ HINV.out, u5.below (below_drewN hB2 1) hB2.size hft, by omega⟩
            have E2 : (k == 2) = false := by simpa using e2
            by_cases e4 : k = 4
            · subst e4
              have KL := M.stepC hO2 (by omega) t t 0
              have HKL := Lib.hid KL
              have hst := (K.step _ _ t 0 HINV.out).2
              have HST := Lib.hid hst
              clear KL hst
              go_wp2_with fail
              refine HKL.out.mono ?_
              rintro e w5 ⟨rfl, hO5, u5⟩
              have z5 : W2.heap.size ≤ w5.heap.size := u5.size
              go_wp2_with fail
              go_meet
              case rel => exact ⟨b + 1, _, _, by omega, hO5, HST.out, u5.below hB2 hB2.size hft, by omega⟩
            have E4 : (k == 4) = false := by simpa using e4
            clear e1 e2 e4
            go_wp2_with fail
            go_meet
            case rel => exact ⟨b, st, q, by omega, hO2, HINV.out, hB2, hzr⟩
          case rest =>
            obtain ⟨b5, st5, q5, hb5, hO5, ⟨h5, hI5⟩, hB5, hz5⟩ := hcut
            obtain ⟨w5, hw5⟩ : ∃ w5, wc = w5 := ⟨_, rfl⟩
            rw [hw5] at hO5 hB5 hz5 ⊢
            obtain ⟨e5, C⟩ := hI5.ci
            have hwl := hI5.wl
            have HPL := Lib.hid hI5.pl
            have hsl := hO5.2
            obtain ⟨⟨m, c, cb, S1, S2, hp⟩, hpl⟩ := hO5.1.port
            have KW := Mem.wordsO _ _ _ _ _ hp.mem (by omega)
            have t0 := hp.top.cell (i := 0) rfl
            have HKW := Lib.hid KW
            have HO5 := Lib.hid hO5
            have HC := Lib.hid C
            have hwl' : (st5.ws.length : Int) = hs.length + 2 := by omega
            rw [hwl] at KW
            clear hw5 hp hO2 hR HINV hB2 hzr C hI5 hO5 hpl KW
            go_wp2_with fail
            refine HKW.out.mono ?_
            rintro e w6 ⟨rfl, hrw, hB6⟩
            have hO6 := M.keep HO5.out (Upd.of_below (S := fun _ => False) hB6) (fun _ _ => id)
            have hB7 := hB5.trans (hB6.mono hB5.size)
            have hO7 := M.keep hO6 ((Upd.refl (fun _ => False) w6).alloc (.cells #[.int .i64 0, .int .i64 0, .int .i64 0, .int .i64 0, .int .i64 0, .int .i64 0, .int .i64 0, .int .i64 0, .int .i64 0] 60)) (fun _ _ => id)
            have hR7 : Row (w6.alloc (.cells #[.int .i64 0, .int .i64 0, .int .i64 0, .int .i64 0, .int .i64 0, .int .i64 0, .int .i64 0, .int .i64 0, .int .i64 0] 60)) w6.heap.size (ints .i64 (hadv 9 (nd st5) 0)) := Row.new' rfl
            have hW7 := hrw.alloc (.cells #[.int .i64 0, .int .i64 0, .int .i64 0, .int .i64 0, .int .i64 0, .int .i64 0, .int .i64 0, .int .i64 0, .int .i64 0] 60)
            have hB8 := hB7.alloc hB7.size (.cells #[.int .i64 0, .int .i64 0, .int .i64 0, .int .i64 0, .int .i64 0, .int .i64 0, .int .i64 0, .int .i64 0, .int .i64 0] 60)
            have hz6 := hB6.size
            have hbig : ∀ i, ft l s lb pb (Mem.Btw w2 w3) i → i ≠ w6.heap.size := fun i hi e => by have := hfB i hi; omega
            have hww : w5.heap.size ≠ w6.heap.size := by have := hrw.lt; omega
            have hB9 : B ≤ (w6.alloc (.cells #[.int .i64 0, .int .i64 0, .int .i64 0, .int .i64 0, .int .i64 0, .int .i64 0, .int .i64 0, .int .i64 0, .int .i64 0] 60)).heap.size := by simp; omega
            have hwH : w.heap.size ≤ w6.heap.size := by omega
            go_upto_block 3 with (fail)
            obtain ⟨W7, hW⟩ : ∃ W, w6.alloc (.cells #[.int .i64 0, .int .i64 0, .int .i64 0, .int .i64 0, .int .i64 0, .int .i64 0, .int .i64 0, .int .i64 0, .int .i64 0] 60) = W := ⟨_, rfl⟩
            obtain ⟨H, hH⟩ : ∃ H, w6.heap.size = H := ⟨_, rfl⟩
            obtain ⟨V, hV⟩ : ∃ V, w5.heap.size = V := ⟨_, rfl⟩
            rw [hW] at hO7 hR7 hW7 hB8 hB9 ⊢
            rw [hH] at hR7 hbig hww hwH ⊢
            rw [hV] at hW7 hww ⊢
            clear hW hH hV hO6 hrw hB7 hB6 hB5 HKW t0
            go_wp2_with fail
            go_loopw [95] (fun i wr => ∃ t : Nat, t ≤ hs.length ∧ i = .int .i64 t ∧ Row wr H (ints .i64 (hadv 9 (nd st5) t)) ∧ Upd (fun i => i = H) W7 wr) (fun i _ => hs.length - (intOf i).toNat)
            case atStart => exact ⟨0, Nat.zero_le _, rfl, hR7, Upd.refl _ _⟩
            case round =>
              obtain ⟨u, hu, rfl, hRh, hup⟩ := hrel
              by_cases hut : u < hs.length
              · have C := HC.out
                obtain ⟨z0, z1⟩ := C.nd0 u hut
                obtain ⟨x, hx⟩ : ∃ x : Nat, nd st5 u = (x : Int) := ⟨(nd st5 u).toNat, by omega⟩
                have hx9 : x < 9 := by omega
                have hfree : (hadv 9 (nd st5) u).getD x 0 = 0 := hadv_free 9 _ u x hx9 (fun v hv e => by
                  have := C.inj v u (by omega) hut (by rw [e, hx])
                  omega)
                have hnext := Lib.hid (hadv_next 9 (nd st5) u x hx)
                have hFn : Mem.get st5.ws (0 + 1 + nd st5 u) = fl (SeatP.stt st5.seats u) (sp st5 u) := C.Fn u hut
                have hO9 := M.keep hO7 hup (fun i hi e => hbig i hi e)
                have KN := nodeC hO9.1.at_ u (by rw [hsl]; exact hut)
                rw [show (st5.pls.getD u (0, 0, 0)).1 = (x : Int) from hx] at KN
                have HKN := Lib.hid KN
                obtain ⟨zs, hzs⟩ : ∃ zs, state st5.seats u = zs := ⟨_, rfl⟩
                have KS := M.stateC hO9 u
                have KS' : Calls Try.prog 23 #[.pointer (some ⟨s, 0, none⟩), .int .i64 u] wr fun e w' => e = .returned (.int .i64 zs) ∧ wr = w' := by rw [← hzs]; exact KS
                have HKS := Lib.hid KS'
                have hw0 : zs = 0 → st5.ws.getD (1 + x) 0 = 0 := fun e => by
                  rw [e, SeatP.state_nat] at hzs
                  have hm : Mem.get st5.ws (0 + 1 + nd st5 u) = st5.ws.getD (1 + x) 0 := Mem.get_in (by omega) (by simp [Mem.inB]; omega)
                  rw [← hm, hFn, hzs]; rfl
                have hWr := hW7.upd hup hww
                have x0 := hRh.cell (ints_get (k := .i64) (i := x) (xs := hadv 9 (nd st5) u) (by rw [hadv_len]; exact hx9))
                rw [hfree] at x0
                have fx := hRh.frozen x
                have y0 := hWr.cell (ints_get (k := .u32) (i := 1 + x) (xs := st5.ws) (by omega))
                have g0 := M.ptr hO9
                have i1 : (0 : Int) ≤ (x : Int) := by omega
                have i2 : (x : Int) ≤ (hs.length : Int) := by omega
                have i3 : (x : Int) < 9 := by omega
                have i4 : (1 + x : Int) < (hs.length : Int) + 2 := by omega
                have i5 : (u : Int) < (hs.length : Int) := by omega
                have i6 : (0 : Int) ≤ 1 + (x : Int) := by omega
                have R8 := hRh.set x (.int .i64 1)
                rw [← ints_set, hnext.out] at R8
                have U8 := hup.trans (Upd.one wr H x (.int .i64 1))
                clear C hfree hFn KN KS KS' hzs hnext hx z0 z1
                by_cases hz : zs = 0
                · have hy0 := hw0 hz
                  rw [hy0] at y0
                  subst hz
                  clear hw0 hy0
                  go_wp2_with fail
                  refine HKN.out.mono ?_
                  rintro e w' ⟨rfl, rfl⟩
                  go_wp2_with fail
                  refine HKS.out.mono ?_
                  rintro e w' ⟨rfl, rfl⟩
                  go_wp2_with fail
                  go_round
                  case rel => exact ⟨u + 1, by omega, by go_num, R8, U8⟩
                  case measure => simp [intOf]; omega
                · have hz' : (zs == 0) = false := by simpa using hz
                  clear hw0 hz y0
                  go_wp2_with fail
                  refine HKN.out.mono ?_
                  rintro e w' ⟨rfl, rfl⟩
                  go_wp2_with fail
                  refine HKS.out.mono ?_
                  rintro e w' ⟨rfl, rfl⟩
                  go_wp2_with fail
                  go_round
                  case rel => exact ⟨u + 1, by omega, by go_num, R8, U8⟩
                  case measure => simp [intOf]; omega
              · obtain rfl : u = hs.length := by omega
                have hO9 := M.keep hO7 hup (fun i hi e => hbig i hi e)
                have hB10 := hup.below hB8 hB8.size (fun i e => by omega)
                have hz9 : B ≤ wr.heap.size := by have := hup.size; omega
                clear hRh
                go_wp2_with fail
                go_round
                case rel => exact ⟨j + 1, by omega, by go_num, b5, st5, q5, hb5, hO9, ⟨h5, ⟨hsl, HPL.out, hwl, e5, HC.out⟩⟩, hB10, hz9⟩
                case measure => simp [intOf]; omega
      · obtain rfl : j = xs.length := by omega
        clear hcells hO
        go_wp2_with fail
        refine (awake _).mono ?_
        rintro e w5 ⟨rfl, u5⟩
        go_wp2_with fail
        go_ret
        exact ⟨rfl, hB.trans (u5.mono hB.size)⟩
end Go.Proofs.Ytgoaaijdlhhkkaa.WalkClhNodes
