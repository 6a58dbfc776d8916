/- Package abort: search, lock and unlock, a step a theorem. -/
import Derived.Test.YtlkpfdboagjaoaaAbort
import Derived.Deep.RegionHeld3
namespace Go.Proofs.Ytlkpfdboagjaoaa.Abort
open Go Go.RowKit Go.Proofs.Ytlkpfdboagjaoaa.Heap Go.Proofs.Ytlkpfdboagjaoaa.Open Go.Proofs.Ytlkpfdboagjaoaa.Seat Go.Proofs.Ytlkpfdboagjaoaa.Mach Go.Proofs.Ytlkpfdboagjaoaa.Has Go.Proofs.Ytlkpfdboagjaoaa.StepU Go.Proofs.Ytlkpfdboagjaoaa.Cells
variable {l s lb pb cap q p c : Nat} {SP SQ : Nat → Prop} {k : Nat} {hs : List Int} {tl : Int}
theorem did_end {w : World} {D : Nat} {a0 a1 a2 a3 : Value} (RD : Row w D [a0, a1, a2, a3]) (v0 v1 v2 v3 : Value) : ∃ w8, (((w.setCell ⟨D, 0, none⟩ v0).setCell ⟨D, 1, none⟩ v1).setCell ⟨D, 2, none⟩ v2).setCell ⟨D, 3, none⟩ v3 = w8 ∧ Row w8 D [v0, v1, v2, v3] ∧ Upd (fun i => i = D) w w8 :=
  ⟨_, rfl, did4 RD _ _ _ _, upd4 w D _ _ _ _⟩
theorem ft_pb : ft l s lb pb SP SQ pb := by simp [ft, fa]
theorem fa_pb : fa l s lb pb SQ pb := by simp [fa]
theorem fa_l : fa l s lb pb SQ l := by simp [fa]
set_option maxHeartbeats 8000000 in
set_option maxRecDepth 20000 in
theorem searchC {w : World} {b : Nat} {st : St} (h : O l s lb pb cap q SQ c p SP k hs tl w b st) (hb : b < 1000000) (t : Nat) (ht : t < st.seats.length) (a : Int) (late : Bool) (rv : Value) (hrv : Src1 w rv .i64 (rowL c t)) (hr : (st.pls.getD t p0).r < c) (hc : t * c ≤ 100000) (h0 : (st.pls.getD t p0).s = 0) :
    Calls Try.prog 54 #[.pointer (some ⟨l, 0, none⟩), .pointer (some ⟨pb, t * 4, none⟩), rv, .int .i64 a] w fun e w' =>
      e = .returned (didv (lockS k tl c st t a late).1) ∧ O l s lb pb cap q SQ c p SP k hs tl w' (b + 1) (lockS k tl c st t a late).2 ∧ Upd (ft l s lb pb SP SQ) w w' := by
  obtain ⟨⟨qs, qr, qn, qo⟩, hqx⟩ : ∃ y, st.pls.getD t p0 = y := ⟨_, rfl⟩
  rw [hqx] at hr
  dsimp only at hr
  obtain ⟨ha, hp, hf, hsep⟩ := h
  have D1 : Upd (fun _ => False) w (w.alloc (.cells #[.int .i64 0, .bool false, .bool false, .bool false] 51)) := (Upd.refl _ _).alloc _
  have h1 := ha.keep D1 (fun _ _ => id)
  have g1 := hp.keep D1 (fun _ _ => id)
  have R1 : Row (w.alloc (.cells #[.int .i64 0, .bool false, .bool false, .bool false] 51)) w.heap.size [.int .i64 0, .bool false, .bool false, .bool false] := Row.new' rfl
  have up1 : Upd (ft l s lb pb SP SQ) w (w.alloc (.cells #[.int .i64 0, .bool false, .bool false, .bool false] 51)) := D1.mono fun _ _ e => e.elim
  obtain ⟨D, hD⟩ : ∃ D, w.heap.size = D := ⟨_, rfl⟩
  have hlD : ∀ i, ft l s lb pb SP SQ i → i < D := by
    intro i hi
    rw [← hD]
    rcases hi with hi | hi
    · obtain ⟨_, hl⟩ := hp; exact hl i hi
    · exact ha.lt i hi
  have HD := Lib.hid hD
  obtain ⟨W, hW⟩ : ∃ W, w.alloc (.cells #[.int .i64 0, .bool false, .bool false, .bool false] 51) = W := ⟨_, rfl⟩
  rw [hD] at R1
  have hrw := hrv.below (show Below w.heap.size w (w.alloc (.cells #[.int .i64 0, .bool false, .bool false, .bool false] 51)) from (Below.refl _ _).alloc (Nat.le_refl _) _)
  rw [hW] at h1 g1 R1 up1 hrw
  have HW := Lib.hid hW
  clear hD hW ha hp D1
  have hDn : ∀ i, ft l s lb pb SP SQ i → i ≠ D := fun i hi e => by have := hlD i hi; omega
  have tl0 := h1.tl0
  have c8 := h1.c8
  obtain ⟨⟨xs, xr, xn, xo⟩, hx⟩ : ∃ y, st.pls.getD t p0 = y := ⟨_, rfl⟩
  have hok := h1.ok t (by rw [h1.l1]; exact ht)
  have HFEW := Lib.hid hf
  have htp : t < st.pls.length := by rw [h1.l1]; exact ht
  rw [hx] at hok h0
  obtain ⟨o1, o2, o3, o4⟩ := hok
  dsimp only at o1 o2 o3 o4 h0
  have hrr : xr = qr := by have := hqx.symm.trans hx; injection this with _ h2 _ _; exact h2.symm
  subst h0
  obtain ⟨r, rfl⟩ : ∃ r : Nat, xr = r := ⟨xr.toNat, by omega⟩
  have hrc : r < c := by omega
  have c1 := h1.top.cell (i := 1) rfl
  have c3 := h1.top.cell (i := 3) rfl
  have x0 := h1.cell ht 0 (by decide) _ rfl
  have x1 := h1.cell ht 1 (by decide) _ rfl
  have x2 := h1.cell ht 2 (by decide) _ rfl
  have x3 := h1.cell ht 3 (by decide) _ rfl
  rw [hx] at x0 x1 x2 x3
  rw [Nat.add_zero] at x0
  dsimp only at x0 x1 x2 x3
  have HX := Lib.hid hx
  have HSP : Hid (∀ i, SP i → i ≠ pb) := Lib.hid fun i hi e => hsep pb fa_pb (e ▸ hi)
  clear hx hf
  obtain ⟨ra, rcap, rfl, -, hrcell⟩ := hrw
  obtain ⟨rb, ro, rfl, hrb, hrcell⟩ := hrcell (by rw [rowL_len]; omega)
  have z0 := hrcell r (by rw [rowL_len]; exact hrc)
  rw [rowL_get c t r hrc] at z0
  rw [rowL_len]
  obtain ⟨nd, hnd⟩ : ∃ nd : Int, (t : Int) * c + (r : Int) + 1 = nd := ⟨_, rfl⟩
  rw [hnd] at z0
  have hmul := hc
  have hndr : 0 ≤ nd ∧ nd < 4294967296 := by rw [← hnd, ← Int.natCast_mul]; omega
  have HND := Lib.hid hnd
  have hr1 : (0 : Int) ≤ (r : Int) := by omega
  have orr : 0 ≤ (r : Int) + 1 ∧ (r : Int) + 1 ≤ 8 := by omega
  have hr2 : (r : Int) < (c : Int) := by omega
  have hu9 : IntKind.i64.wrap ((r : Int) + 1) = (r : Int) + 1 := IntWalk.i64_in _ (by omega)
  clear hnd hrcell hmul hr hqx hrv hrr
  go_enter Try.func54, Try.ntmps54
  go_upto_region 1 with (fail)
  rw [HW.out, HD.out]
  have f2a := h1.plc.frozen (t * 4 + 2)
  have A1 := h1
  obtain ⟨w1, hw1⟩ : ∃ w1, W = w1 := ⟨_, rfl⟩
  rw [hw1] at A1 g1 R1 up1 z0 x0 x1 x2 x3 c1 c3 f2a h1 ⊢
  have v2 := A1.cell ht 2 (by decide) _ rfl
  have fv2 := A1.plc.frozen (t * 4 + 2)
  rw [HX.out] at v2
  dsimp only at v2
  have A2 := A1.setP ht 2 (by decide) (.int .i64 nd) ⟨0, (r : Int), nd, xo⟩ (by rw [HX.out]; rfl) ⟨o1, o2, hndr, o4⟩
  have U2 := Upd.one w1 pb (t * 4 + 2) (.int .i64 nd)
  have g2 := g1.keep U2 (fun i hi e => HSP.out i hi e)
  have up2 := up1.trans (U2.mono fun i _ e => (by rw [e]; exact ft_pb : ft l s lb pb SP SQ i))
  have R2 := R1.upd U2 (fun e => hDn pb ft_pb e.symm)
  go_upto_region 2 with (fail)
  obtain ⟨w2, hw2⟩ : ∃ w', w1.setCell ⟨pb, t * 4 + 2, none⟩ (.int .i64 nd) = w' := ⟨_, rfl⟩
  rw [hw2] at A2 g2 up2 R2 ⊢
  clear hw2 v2 fv2 U2 A1 g1 up1 R1 x0 x1 x2 x3 c1 c3 f2a h1 z0
  have HX2 := Lib.hid (show (st.pls.set t ⟨0, (r : Int), nd, xo⟩).getD t p0 = ⟨0, (r : Int), nd, xo⟩ by rw [pl_set _ _ htp, if_pos rfl])
  have v1 := A2.cell ht 1 (by decide) _ rfl
  have fv1 := A2.plc.frozen (t * 4 + 1)
  rw [HX2.out] at v1
  dsimp only at v1
  have A3 := A2.setP ht 1 (by decide) (.int .i64 ((r : Int) + 1)) ⟨0, (r : Int) + 1, nd, xo⟩ (by rw [HX2.out]; rfl) ⟨o1, orr, hndr, o4⟩
  have U3 := Upd.one w2 pb (t * 4 + 1) (.int .i64 ((r : Int) + 1))
  have g3 := g2.keep U3 (fun i hi e => HSP.out i hi e)
  have up3 := up2.trans (U3.mono fun i _ e => (by rw [e]; exact ft_pb : ft l s lb pb SP SQ i))
  have R3 := R2.upd U3 (fun e => hDn pb ft_pb e.symm)
  go_upto_region 3 with (fail)
  obtain ⟨w3, hw3⟩ : ∃ w', w2.setCell ⟨pb, t * 4 + 1, none⟩ (.int .i64 ((r : Int) + 1)) = w' := ⟨_, rfl⟩
  rw [hw3] at A3 g3 up3 R3 ⊢
  clear hw3 v1 fv1 U3 A2 g2 up2 R2
  rw [List.set_set] at A3
  have HX3 := Lib.hid (show (st.pls.set t ⟨0, (r : Int) + 1, nd, xo⟩).getD t p0 = ⟨0, (r : Int) + 1, nd, xo⟩ by rw [pl_set _ _ htp, if_pos rfl])
  have c1 := A3.top.cell (i := 1) rfl
  have c3 := A3.top.cell (i := 3) rfl
  have x2 := A3.cell ht 2 (by decide) _ rfl
  rw [HX3.out] at x2
  dsimp only at x2
  have KNnv := stC (w3.drew) c3 tl0 nd hndr
  obtain ⟨nv, hnvnv⟩ : ∃ nv, stA tl nd = nv := ⟨_, rfl⟩
  have hnrnv : -2 ≤ nv ∧ nv ≤ 20000000000 := by rw [← hnvnv]; unfold stA; omega
  have HNVnv := Lib.hid hnvnv
  rw [hnvnv] at KNnv
  have HKNnv := Lib.hid KNnv
  clear KNnv hnvnv
  have hu1nv : IntKind.i64.wrap (nv + 1) = nv + 1 := IntWalk.i64_in _ (by omega)
  have hu2nv : IntKind.i64.wrap (nv + 2) = nv + 2 := IntWalk.i64_in _ (by omega)
  obtain ⟨gg, hg⟩ : ∃ y, rd k st.ws a (nv + 2) = y := ⟨_, rfl⟩
  have KA := Port.loadP w3.drew p SP k st.ws hs st.ts (g3.drewN 1) (by have := HFEW.out; omega) a (nv + 2)
  rw [show (if Mem.inB a k = true then Mem.get st.ws (nv + 2) else 0) = gg from hg] at KA
  have HKA := Lib.hid KA
  have h3 := A3
  clear KA
  go_wp2_with fail
  go_region_held3 (fun w' => w'.cell? ⟨l, 1, none⟩ = some (.pointer (some ⟨p, 0, none⟩)) ∧ w'.cell? ⟨pb, t * 4 + 2, none⟩ = some (.int .i64 nd)) ((first | exact ⟨c1, x2⟩ | exact ⟨e1, e2⟩))
    ((first
      | (go_at_call 46; refine HKNnv.out.mono ?_; rintro e w' ⟨rfl, rfl⟩)
      | (go_at_call 57; refine HKA.out.mono ?_; rintro e w5 ⟨rfl, hp5, u5⟩; have e1 := cell_upd u5 c1 (hsep l fa_l); have e2 := cell_upd u5 x2 (hsep pb fa_pb))))
  have A5 := (h3.keep ((Upd.refl (fun _ => False) w3).drewN 1) (fun _ _ => id)).keep u5 hsep
  have up5 : Upd (ft l s lb pb SP SQ) w w5 := (up3.drewN 1).trans (u5.mono fun i _ h => .inl h)
  have g5 := hp5
  have R5 := (R3.drewN 1).upd u5 (fun e => hDn D (.inl e) rfl)
  clear e1 e2 c1 c3 x2 A3 R3 g3 up3 h3
  by_cases hg0 : gg = 0
  · subst hg0
    have v0 := A5.cell ht 0 (by decide) _ rfl
    have fv0 := A5.plc.frozen (t * 4)
    rw [HX3.out] at v0
    dsimp only at v0
    rw [Nat.add_zero] at v0
    have A6 := A5.setP ht 0 (by decide) (.int .i64 1) ⟨1, (r : Int) + 1, nd, xo⟩ (by rw [HX3.out]; rfl) ⟨(show (0 : Int) ≤ 1 ∧ (1 : Int) ≤ 7 by decide), orr, hndr, o4⟩
    rw [Nat.add_zero] at A6
    have U6 := Upd.one w5 pb (t * 4) (.int .i64 1)
    have g6 := g5.keep U6 (fun i hi e => HSP.out i hi e)
    have up6 := up5.trans (U6.mono fun i _ e => (by rw [e]; exact ft_pb : ft l s lb pb SP SQ i))
    have R6 := R5.upd U6 (fun e => hDn pb ft_pb e.symm)
    go_upto_region 7 with (fail)
    obtain ⟨w6, hw6⟩ : ∃ w', w5.setCell ⟨pb, t * 4, none⟩ (.int .i64 1) = w' := ⟨_, rfl⟩
    rw [hw6] at A6 g6 up6 R6 ⊢
    clear hw6 v0 fv0 U6 A5 g5 up5 R5
    have y0 := R6.cell (i := 0) rfl
    have f0 := R6.frozen 0
    have y1 := R6.cell (i := 1) rfl
    have f1 := R6.frozen 1
    have y2 := R6.cell (i := 2) rfl
    have f2 := R6.frozen 2
    have y3 := R6.cell (i := 3) rfl
    have f3 := R6.frozen 3
    go_wp2_with fail
    obtain ⟨w8, hw8, RE, UE⟩ := did_end R6 (.int .i64 0) (.bool false) (.bool false) (.bool false)
    rw [hw8]
    have e0 := RE.cell (i := 0) rfl
    have e1 := RE.cell (i := 1) rfl
    have e2 := RE.cell (i := 2) rfl
    have e3 := RE.cell (i := 3) rfl
    refine bodyPost_ret (v := didv (0, false, false, false)) (by simp [results, Try.results54, go_sem, didv, e0, e1, e2, e3]) rfl ?_
    have E : lockS k tl c st t a late = ((0, false, false, false), { st with pls := st.pls.set t ⟨1, (r : Int) + 1, nd, xo⟩, ts := Cache.after k st.ws.length st.ts a (nv + 2) false }) := by
      unfold lockS; rw [HX.out]; dsimp only; rw [if_pos rfl, HND.out, HNVnv.out, hg, if_pos rfl]
    have A99 := A6.keep UE (fun i hi e => hDn i (.inr hi) e)
    rw [List.set_set] at A99
    rw [E]
    exact ⟨rfl, ⟨A99, g6.keep UE (fun i hi e => hDn i (.inl hi) e), Nat.le_trans (Cache.after_len _ _ _ _ _ _) (by have := HFEW.out; omega), hsep⟩, up6.then UE (fun i hi e => by have := HD.out; omega)⟩
  · have hg0' : (gg == 0) = false := by simpa using hg0
    have x1 := A5.cell ht 1 (by decide) _ rfl
    rw [HX3.out] at x1
    dsimp only at x1
    by_cases hrl : (r : Int) + 1 = c
    · have hrl' : ((r : Int) + 1 == (c : Int)) = true := by simpa using hrl
      have y0 := R5.cell (i := 0) rfl
      have f0 := R5.frozen 0
      have y1 := R5.cell (i := 1) rfl
      have f1 := R5.frozen 1
      have y2 := R5.cell (i := 2) rfl
      have f2 := R5.frozen 2
      have y3 := R5.cell (i := 3) rfl
      have f3 := R5.frozen 3
      go_wp2_with fail
      obtain ⟨w8, hw8, RE, UE⟩ := did_end R5 (.int .i64 6) (.bool false) (.bool false) (.bool false)
      rw [hw8]
      have e0 := RE.cell (i := 0) rfl
      have e1 := RE.cell (i := 1) rfl
      have e2 := RE.cell (i := 2) rfl
      have e3 := RE.cell (i := 3) rfl
      refine bodyPost_ret (v := didv (6, false, false, false)) (by simp [results, Try.results54, go_sem, didv, e0, e1, e2, e3]) rfl ?_
      have E : lockS k tl c st t a late = ((6, false, false, false), { st with pls := st.pls.set t ⟨0, (r : Int) + 1, nd, xo⟩, ts := Cache.after k st.ws.length st.ts a (nv + 2) false }) := by
        unfold lockS; rw [HX.out]; dsimp only; rw [if_pos rfl, HND.out, HNVnv.out, hg, if_neg hg0, if_pos hrl]
      have A99 := A5.keep UE (fun i hi e => hDn i (.inr hi) e)
      rw [E]
      exact ⟨rfl, ⟨A99, g5.keep UE (fun i hi e => hDn i (.inl hi) e), Nat.le_trans (Cache.after_len _ _ _ _ _ _) (by have := HFEW.out; omega), hsep⟩, up5.then UE (fun i hi e => by have := HD.out; omega)⟩
    · have hrl' : ((r : Int) + 1 == (c : Int)) = false := by simpa using hrl
      have y0 := R5.cell (i := 0) rfl
      have f0 := R5.frozen 0
      have y1 := R5.cell (i := 1) rfl
      have f1 := R5.frozen 1
      have y2 := R5.cell (i := 2) rfl
      have f2 := R5.frozen 2
      have y3 := R5.cell (i := 3) rfl
      have f3 := R5.frozen 3
      go_wp2_with fail
      obtain ⟨w8, hw8, RE, UE⟩ := did_end R5 (.int .i64 0) (.bool false) (.bool false) (.bool false)
      rw [hw8]
      have e0 := RE.cell (i := 0) rfl
      have e1 := RE.cell (i := 1) rfl
      have e2 := RE.cell (i := 2) rfl
      have e3 := RE.cell (i := 3) rfl
      refine bodyPost_ret (v := didv (0, false, false, false)) (by simp [results, Try.results54, go_sem, didv, e0, e1, e2, e3]) rfl ?_
      have E : lockS k tl c st t a late = ((0, false, false, false), { st with pls := st.pls.set t ⟨0, (r : Int) + 1, nd, xo⟩, ts := Cache.after k st.ws.length st.ts a (nv + 2) false }) := by
        unfold lockS; rw [HX.out]; dsimp only; rw [if_pos rfl, HND.out, HNVnv.out, hg, if_neg hg0, if_neg hrl]
      have A99 := A5.keep UE (fun i hi e => hDn i (.inr hi) e)
      rw [E]
      exact ⟨rfl, ⟨A99, g5.keep UE (fun i hi e => hDn i (.inl hi) e), Nat.le_trans (Cache.after_len _ _ _ _ _ _) (by have := HFEW.out; omega), hsep⟩, up5.then UE (fun i hi e => by have := HD.out; omega)⟩
set_option maxHeartbeats 8000000 in
set_option maxRecDepth 20000 in
theorem lock0 {w : World} {b : Nat} {st : St} (h : O l s lb pb cap q SQ c p SP k hs tl w b st) (hb : b < 1000000) (t : Nat) (ht : t < st.seats.length) (a : Int) (late : Bool) (rv : Value) (hrv : Src1 w rv .i64 (rowL c t)) (hr : (st.pls.getD t p0).r < c) (hc : t * c ≤ 100000) (h0 : (st.pls.getD t p0).s = 0) :
    Calls Try.prog 41 #[.pointer (some ⟨l, 0, none⟩), .pointer (some ⟨pb, t * 4, none⟩), rv, .int .i64 a, .bool late] w fun e w' =>
      e = .returned (didv (lockS k tl c st t a late).1) ∧ O l s lb pb cap q SQ c p SP k hs tl w' (b + 1) (lockS k tl c st t a late).2 ∧ Upd (ft l s lb pb SP SQ) w w' := by
  have H1 := h.keep ((Upd.refl (fun _ => False) w).alloc (.cells #[.int .i64 0, .bool false, .bool false, .bool false] 51)) (fun _ _ => id)
  have KS := searchC H1 hb t ht a late rv (hrv.below ((Below.refl _ _).alloc (Nat.le_refl _) _)) hr hc h0
  have hs0 := h0
  obtain ⟨ha, hp, hf, hsep⟩ := h
  have D1 : Upd (fun _ => False) w (w.alloc (.cells #[.int .i64 0, .bool false, .bool false, .bool false] 51)) := (Upd.refl _ _).alloc _
  have h1 := ha.keep D1 (fun _ _ => id)
  have g1 := hp.keep D1 (fun _ _ => id)
  have R1 : Row (w.alloc (.cells #[.int .i64 0, .bool false, .bool false, .bool false] 51)) w.heap.size [.int .i64 0, .bool false, .bool false, .bool false] := Row.new' rfl
  have up1 : Upd (ft l s lb pb SP SQ) w (w.alloc (.cells #[.int .i64 0, .bool false, .bool false, .bool false] 51)) := D1.mono fun _ _ e => e.elim
  obtain ⟨D, hD⟩ : ∃ D, w.heap.size = D := ⟨_, rfl⟩
  have hlD : ∀ i, ft l s lb pb SP SQ i → i < D := by
    intro i hi
    rw [← hD]
    rcases hi with hi | hi
    · obtain ⟨_, hl⟩ := hp; exact hl i hi
    · exact ha.lt i hi
  have HD := Lib.hid hD
  obtain ⟨W, hW⟩ : ∃ W, w.alloc (.cells #[.int .i64 0, .bool false, .bool false, .bool false] 51) = W := ⟨_, rfl⟩
  rw [hD] at R1
  rw [hW] at KS h1 g1 R1 up1
  have HW := Lib.hid hW
  clear hD hW ha hp D1
  have hDn : ∀ i, ft l s lb pb SP SQ i → i ≠ D := fun i hi e => by have := hlD i hi; omega
  have tl0 := h1.tl0
  have c8 := h1.c8
  obtain ⟨⟨xs, xr, xn, xo⟩, hx⟩ : ∃ y, st.pls.getD t p0 = y := ⟨_, rfl⟩
  have hok := h1.ok t (by rw [h1.l1]; exact ht)
  have HFEW := Lib.hid hf
  have htp : t < st.pls.length := by rw [h1.l1]; exact ht
  rw [hx] at hok h0
  obtain ⟨o1, o2, o3, o4⟩ := hok
  dsimp only at o1 o2 o3 o4 h0
  subst h0
  have c1 := h1.top.cell (i := 1) rfl
  have c3 := h1.top.cell (i := 3) rfl
  have x0 := h1.cell ht 0 (by decide) _ rfl
  have x1 := h1.cell ht 1 (by decide) _ rfl
  have x2 := h1.cell ht 2 (by decide) _ rfl
  have x3 := h1.cell ht 3 (by decide) _ rfl
  rw [hx] at x0 x1 x2 x3
  rw [Nat.add_zero] at x0
  dsimp only at x0 x1 x2 x3
  have HX := Lib.hid hx
  have HSP : Hid (∀ i, SP i → i ≠ pb) := Lib.hid fun i hi e => hsep pb fa_pb (e ▸ hi)
  clear hx hf
  obtain ⟨⟨ev, d1, d2, d3⟩, st', hL⟩ : ∃ d st', lockS k tl c st t a late = (d, st') := ⟨_, _, rfl⟩
  rw [hL] at KS ⊢
  have HKS := Lib.hid KS
  clear KS hL hs0 H1
  have KNnv := stC (W) c3 tl0 xn o3
  obtain ⟨nv, hnvnv⟩ : ∃ nv, stA tl xn = nv := ⟨_, rfl⟩
  have hnrnv : -2 ≤ nv ∧ nv ≤ 20000000000 := by rw [← hnvnv]; unfold stA; omega
  have HNVnv := Lib.hid hnvnv
  rw [hnvnv] at KNnv
  have HKNnv := Lib.hid KNnv
  clear KNnv hnvnv
  have hu1nv : IntKind.i64.wrap (nv + 1) = nv + 1 := IntWalk.i64_in _ (by omega)
  have hu2nv : IntKind.i64.wrap (nv + 2) = nv + 2 := IntWalk.i64_in _ (by omega)
  go_enter Try.func41, Try.ntmps41
  go_upto_region 1 with (fail)
  rw [HW.out, HD.out]
  go_wp2_with fail
  refine HKNnv.out.mono ?_
  rintro e w' ⟨rfl, rfl⟩
  go_wp2_with fail
  refine HKS.out.mono ?_
  rintro e w5 ⟨rfl, h5, u5⟩
  have R5 := R1.upd u5 (fun e => hDn D e rfl)
  have up5 := up1.trans u5
  unfold didv
  have y0 := R5.cell (i := 0) rfl
  have y1 := R5.cell (i := 1) rfl
  have y2 := R5.cell (i := 2) rfl
  have y3 := R5.cell (i := 3) rfl
  have f0 := R5.frozen 0
  have f1 := R5.frozen 1
  have f2 := R5.frozen 2
  have f3 := R5.frozen 3
  go_wp2_with fail
  obtain ⟨w8, hw8, RE, UE⟩ := did_end R5 (.int .i64 ev) (.bool d1) (.bool d2) (.bool d3)
  rw [hw8]
  have e0 := RE.cell (i := 0) rfl
  have e1 := RE.cell (i := 1) rfl
  have e2 := RE.cell (i := 2) rfl
  have e3 := RE.cell (i := 3) rfl
  refine bodyPost_ret (v := didv (ev, d1, d2, d3)) (by simp [results, Try.results41, go_sem, didv, e0, e1, e2, e3]) rfl ?_
  exact ⟨rfl, h5.keep UE (fun i hi e => hDn i hi e), up5.then UE (fun i hi e => by have := HD.out; omega)⟩
set_option maxHeartbeats 8000000 in
set_option maxRecDepth 20000 in
theorem lock1 {w : World} {b : Nat} {st : St} (h : O l s lb pb cap q SQ c p SP k hs tl w b st) (hb : b < 1000000) (t : Nat) (ht : t < st.seats.length) (a : Int) (late : Bool) (rv : Value) (h0 : (st.pls.getD t p0).s = 1) :
    Calls Try.prog 41 #[.pointer (some ⟨l, 0, none⟩), .pointer (some ⟨pb, t * 4, none⟩), rv, .int .i64 a, .bool late] w fun e w' =>
      e = .returned (didv (lockS k tl c st t a late).1) ∧ O l s lb pb cap q SQ c p SP k hs tl w' (b + 1) (lockS k tl c st t a late).2 ∧ Upd (ft l s lb pb SP SQ) w w' := by
  obtain ⟨ha, hp, hf, hsep⟩ := h
  have D1 : Upd (fun _ => False) w (w.alloc (.cells #[.int .i64 0, .bool false, .bool false, .bool false] 51)) := (Upd.refl _ _).alloc _
  have h1 := ha.keep D1 (fun _ _ => id)
  have g1 := hp.keep D1 (fun _ _ => id)
  have R1 : Row (w.alloc (.cells #[.int .i64 0, .bool false, .bool false, .bool false] 51)) w.heap.size [.int .i64 0, .bool false, .bool false, .bool false] := Row.new' rfl
  have up1 : Upd (ft l s lb pb SP SQ) w (w.alloc (.cells #[.int .i64 0, .bool false, .bool false, .bool false] 51)) := D1.mono fun _ _ e => e.elim
  obtain ⟨D, hD⟩ : ∃ D, w.heap.size = D := ⟨_, rfl⟩
  have hlD : ∀ i, ft l s lb pb SP SQ i → i < D := by
    intro i hi
    rw [← hD]
    rcases hi with hi | hi
    · obtain ⟨_, hl⟩ := hp; exact hl i hi
    · exact ha.lt i hi
  have HD := Lib.hid hD
  obtain ⟨W, hW⟩ : ∃ W, w.alloc (.cells #[.int .i64 0, .bool false, .bool false, .bool false] 51) = W := ⟨_, rfl⟩
  rw [hD] at R1
  rw [hW] at h1 g1 R1 up1
  have HW := Lib.hid hW
  clear hD hW ha hp D1
  have hDn : ∀ i, ft l s lb pb SP SQ i → i ≠ D := fun i hi e => by have := hlD i hi; omega
  have tl0 := h1.tl0
  have c8 := h1.c8
  obtain ⟨⟨xs, xr, xn, xo⟩, hx⟩ : ∃ y, st.pls.getD t p0 = y := ⟨_, rfl⟩
  have hok := h1.ok t (by rw [h1.l1]; exact ht)
  have HFEW := Lib.hid hf
  have htp : t < st.pls.length := by rw [h1.l1]; exact ht
  rw [hx] at hok h0
  obtain ⟨o1, o2, o3, o4⟩ := hok
  dsimp only at o1 o2 o3 o4 h0
  subst h0
  have c1 := h1.top.cell (i := 1) rfl
  have c3 := h1.top.cell (i := 3) rfl
  have x0 := h1.cell ht 0 (by decide) _ rfl
  have x1 := h1.cell ht 1 (by decide) _ rfl
  have x2 := h1.cell ht 2 (by decide) _ rfl
  have x3 := h1.cell ht 3 (by decide) _ rfl
  rw [hx] at x0 x1 x2 x3
  rw [Nat.add_zero] at x0
  dsimp only at x0 x1 x2 x3
  have HX := Lib.hid hx
  have HSP : Hid (∀ i, SP i → i ≠ pb) := Lib.hid fun i hi e => hsep pb fa_pb (e ▸ hi)
  clear hx hf
  have KNnv := stC (W) c3 tl0 xn o3
  obtain ⟨nv, hnvnv⟩ : ∃ nv, stA tl xn = nv := ⟨_, rfl⟩
  have hnrnv : -2 ≤ nv ∧ nv ≤ 20000000000 := by rw [← hnvnv]; unfold stA; omega
  have HNVnv := Lib.hid hnvnv
  rw [hnvnv] at KNnv
  have HKNnv := Lib.hid KNnv
  clear KNnv hnvnv
  have hu1nv : IntKind.i64.wrap (nv + 1) = nv + 1 := IntWalk.i64_in _ (by omega)
  have hu2nv : IntKind.i64.wrap (nv + 2) = nv + 2 := IntWalk.i64_in _ (by omega)
  have KA := Port.storeP W p SP k st.ws hs st.ts g1 (by have := HFEW.out; omega) a (nv + 2) 1 (by decide) (by decide)
  have HKA := Lib.hid KA
  clear KA
  go_enter Try.func41, Try.ntmps41
  go_upto_region 1 with (fail)
  rw [HW.out, HD.out]
  go_wp2_with fail
  refine HKNnv.out.mono ?_
  rintro e w' ⟨rfl, rfl⟩
  go_wp2_with fail
  refine HKA.out.mono ?_
  rintro e w5 ⟨rfl, hp5, u5⟩
  have A5 := h1.keep u5 hsep
  have up5 : Upd (ft l s lb pb SP SQ) w w5 := (up1).trans (u5.mono fun i _ h => .inl h)
  have g5 := hp5
  have R5 := (R1).upd u5 (fun e => hDn D (.inl e) rfl)
  clear c1 c3 x0 x1 x2 x3
  have v0 := A5.cell ht 0 (by decide) _ rfl
  have fv0 := A5.plc.frozen (t * 4)
  rw [HX.out] at v0
  dsimp only at v0
  rw [Nat.add_zero] at v0
  have A6 := A5.setP ht 0 (by decide) (.int .i64 2) ⟨2, xr, xn, xo⟩ (by rw [HX.out]; rfl) ⟨(show (0 : Int) ≤ 2 ∧ (2 : Int) ≤ 7 by decide), o2, o3, o4⟩
  rw [Nat.add_zero] at A6
  have U6 := Upd.one w5 pb (t * 4) (.int .i64 2)
  have g6 := g5.keep U6 (fun i hi e => HSP.out i hi e)
  have up6 := up5.trans (U6.mono fun i _ e => (by rw [e]; exact ft_pb : ft l s lb pb SP SQ i))
  have R6 := R5.upd U6 (fun e => hDn pb ft_pb e.symm)
  go_upto_region 29 with (fail)
  obtain ⟨w6, hw6⟩ : ∃ w', w5.setCell ⟨pb, t * 4, none⟩ (.int .i64 2) = w' := ⟨_, rfl⟩
  rw [hw6] at A6 g6 up6 R6 ⊢
  clear hw6 v0 fv0 U6 A5 g5 up5 R5
  have y0 := R6.cell (i := 0) rfl
  have f0 := R6.frozen 0
  have y1 := R6.cell (i := 1) rfl
  have f1 := R6.frozen 1
  have y2 := R6.cell (i := 2) rfl
  have f2 := R6.frozen 2
  have y3 := R6.cell (i := 3) rfl
  have f3 := R6.frozen 3
  go_wp2_with fail
  obtain ⟨w8, hw8, RE, UE⟩ := did_end R6 (.int .i64 0) (.bool false) (.bool false) (.bool false)
  rw [hw8]
  have e0 := RE.cell (i := 0) rfl
  have e1 := RE.cell (i := 1) rfl
  have e2 := RE.cell (i := 2) rfl
  have e3 := RE.cell (i := 3) rfl
  refine bodyPost_ret (v := didv (0, false, false, false)) (by simp [results, Try.results41, go_sem, didv, e0, e1, e2, e3]) rfl ?_
  have E : lockS k tl c st t a late = ((0, false, false, false), { st with pls := st.pls.set t ⟨2, xr, xn, xo⟩, ws := wrt k st.ws a (nv + 2) 1, ts := Cache.after k st.ws.length st.ts a (nv + 2) true }) := by
    unfold lockS; rw [HX.out]; dsimp only; rw [if_neg (show ¬ ((1 : Int) = 0) by decide), if_pos rfl, HNVnv.out]
  have A99 := A6.keep UE (fun i hi e => hDn i (.inr hi) e)
  rw [E]
  exact ⟨rfl, ⟨A99, g6.keep UE (fun i hi e => hDn i (.inl hi) e), Nat.le_trans (Cache.after_len _ _ _ _ _ _) (by have := HFEW.out; omega), hsep⟩, up6.then UE (fun i hi e => by have := HD.out; omega)⟩
set_option maxHeartbeats 8000000 in
set_option maxRecDepth 20000 in
theorem lock2 {w : World} {b : Nat} {st : St} (h : O l s lb pb cap q SQ c p SP k hs tl w b st) (hb : b < 1000000) (t : Nat) (ht : t < st.seats.length) (a : Int) (late : Bool) (rv : Value) (h0 : (st.pls.getD t p0).s = 2) :
    Calls Try.prog 41 #[.pointer (some ⟨l, 0, none⟩), .pointer (some ⟨pb, t * 4, none⟩), rv, .int .i64 a, .bool late] w fun e w' =>
      e = .returned (didv (lockS k tl c st t a late).1) ∧ O l s lb pb cap q SQ c p SP k hs tl w' (b + 1) (lockS k tl c st t a late).2 ∧ Upd (ft l s lb pb SP SQ) w w' := by
  obtain ⟨ha, hp, hf, hsep⟩ := h
  have D1 : Upd (fun _ => False) w (w.alloc (.cells #[.int .i64 0, .bool false, .bool false, .bool false] 51)) := (Upd.refl _ _).alloc _
  have h1 := ha.keep D1 (fun _ _ => id)
  have g1 := hp.keep D1 (fun _ _ => id)
  have R1 : Row (w.alloc (.cells #[.int .i64 0, .bool false, .bool false, .bool false] 51)) w.heap.size [.int .i64 0, .bool false, .bool false, .bool false] := Row.new' rfl
  have up1 : Upd (ft l s lb pb SP SQ) w (w.alloc (.cells #[.int .i64 0, .bool false, .bool false, .bool false] 51)) := D1.mono fun _ _ e => e.elim
  obtain ⟨D, hD⟩ : ∃ D, w.heap.size = D := ⟨_, rfl⟩
  have hlD : ∀ i, ft l s lb pb SP SQ i → i < D := by
    intro i hi
    rw [← hD]
    rcases hi with hi | hi
    · obtain ⟨_, hl⟩ := hp; exact hl i hi
    · exact ha.lt i hi
  have HD := Lib.hid hD
  obtain ⟨W, hW⟩ : ∃ W, w.alloc (.cells #[.int .i64 0, .bool false, .bool false, .bool false] 51) = W := ⟨_, rfl⟩
  rw [hD] at R1
  rw [hW] at h1 g1 R1 up1
  have HW := Lib.hid hW
  clear hD hW ha hp D1
  have hDn : ∀ i, ft l s lb pb SP SQ i → i ≠ D := fun i hi e => by have := hlD i hi; omega
  have tl0 := h1.tl0
  have c8 := h1.c8
  obtain ⟨⟨xs, xr, xn, xo⟩, hx⟩ : ∃ y, st.pls.getD t p0 = y := ⟨_, rfl⟩
  have hok := h1.ok t (by rw [h1.l1]; exact ht)
  have HFEW := Lib.hid hf
  have htp : t < st.pls.length := by rw [h1.l1]; exact ht
  rw [hx] at hok h0
  obtain ⟨o1, o2, o3, o4⟩ := hok
  dsimp only at o1 o2 o3 o4 h0
  subst h0
  have c1 := h1.top.cell (i := 1) rfl
  have c3 := h1.top.cell (i := 3) rfl
  have x0 := h1.cell ht 0 (by decide) _ rfl
  have x1 := h1.cell ht 1 (by decide) _ rfl
  have x2 := h1.cell ht 2 (by decide) _ rfl
  have x3 := h1.cell ht 3 (by decide) _ rfl
  rw [hx] at x0 x1 x2 x3
  rw [Nat.add_zero] at x0
  dsimp only at x0 x1 x2 x3
  have HX := Lib.hid hx
  have HSP : Hid (∀ i, SP i → i ≠ pb) := Lib.hid fun i hi e => hsep pb fa_pb (e ▸ hi)
  clear hx hf
  have KNnv := stC (W) c3 tl0 xn o3
  obtain ⟨nv, hnvnv⟩ : ∃ nv, stA tl xn = nv := ⟨_, rfl⟩
  have hnrnv : -2 ≤ nv ∧ nv ≤ 20000000000 := by rw [← hnvnv]; unfold stA; omega
  have HNVnv := Lib.hid hnvnv
  rw [hnvnv] at KNnv
  have HKNnv := Lib.hid KNnv
  clear KNnv hnvnv
  have hu1nv : IntKind.i64.wrap (nv + 1) = nv + 1 := IntWalk.i64_in _ (by omega)
  have hu2nv : IntKind.i64.wrap (nv + 2) = nv + 2 := IntWalk.i64_in _ (by omega)
  have KA := Port.storeP W p SP k st.ws hs st.ts g1 (by have := HFEW.out; omega) a (nv) 0 (by decide) (by decide)
  have HKA := Lib.hid KA
  clear KA
  go_enter Try.func41, Try.ntmps41
  go_upto_region 1 with (fail)
  rw [HW.out, HD.out]
  go_wp2_with fail
  refine HKNnv.out.mono ?_
  rintro e w' ⟨rfl, rfl⟩
  go_wp2_with fail
  refine HKA.out.mono ?_
  rintro e w5 ⟨rfl, hp5, u5⟩
  have A5 := h1.keep u5 hsep
  have up5 : Upd (ft l s lb pb SP SQ) w w5 := (up1).trans (u5.mono fun i _ h => .inl h)
  have g5 := hp5
  have R5 := (R1).upd u5 (fun e => hDn D (.inl e) rfl)
  clear c1 c3 x0 x1 x2 x3
  have v0 := A5.cell ht 0 (by decide) _ rfl
  have fv0 := A5.plc.frozen (t * 4)
  rw [HX.out] at v0
  dsimp only at v0
  rw [Nat.add_zero] at v0
  have A6 := A5.setP ht 0 (by decide) (.int .i64 3) ⟨3, xr, xn, xo⟩ (by rw [HX.out]; rfl) ⟨(show (0 : Int) ≤ 3 ∧ (3 : Int) ≤ 7 by decide), o2, o3, o4⟩
  rw [Nat.add_zero] at A6
  have U6 := Upd.one w5 pb (t * 4) (.int .i64 3)
  have g6 := g5.keep U6 (fun i hi e => HSP.out i hi e)
  have up6 := up5.trans (U6.mono fun i _ e => (by rw [e]; exact ft_pb : ft l s lb pb SP SQ i))
  have R6 := R5.upd U6 (fun e => hDn pb ft_pb e.symm)
  go_upto_region 29 with (fail)
  obtain ⟨w6, hw6⟩ : ∃ w', w5.setCell ⟨pb, t * 4, none⟩ (.int .i64 3) = w' := ⟨_, rfl⟩
  rw [hw6] at A6 g6 up6 R6 ⊢
  clear hw6 v0 fv0 U6 A5 g5 up5 R5
  have y0 := R6.cell (i := 0) rfl
  have f0 := R6.frozen 0
  have y1 := R6.cell (i := 1) rfl
  have f1 := R6.frozen 1
  have y2 := R6.cell (i := 2) rfl
  have f2 := R6.frozen 2
  have y3 := R6.cell (i := 3) rfl
  have f3 := R6.frozen 3
  go_wp2_with fail
  obtain ⟨w8, hw8, RE, UE⟩ := did_end R6 (.int .i64 0) (.bool false) (.bool false) (.bool false)
  rw [hw8]
  have e0 := RE.cell (i := 0) rfl
  have e1 := RE.cell (i := 1) rfl
  have e2 := RE.cell (i := 2) rfl
  have e3 := RE.cell (i := 3) rfl
  refine bodyPost_ret (v := didv (0, false, false, false)) (by simp [results, Try.results41, go_sem, didv, e0, e1, e2, e3]) rfl ?_
  have E : lockS k tl c st t a late = ((0, false, false, false), { st with pls := st.pls.set t ⟨3, xr, xn, xo⟩, ws := wrt k st.ws a (nv) 0, ts := Cache.after k st.ws.length st.ts a (nv) true }) := by
    unfold lockS; rw [HX.out]; dsimp only; rw [if_neg (show ¬ ((2 : Int) = 0) by decide), if_neg (show ¬ ((2 : Int) = 1) by decide), if_pos rfl, HNVnv.out]
  have A99 := A6.keep UE (fun i hi e => hDn i (.inr hi) e)
  rw [E]
  exact ⟨rfl, ⟨A99, g6.keep UE (fun i hi e => hDn i (.inl hi) e), Nat.le_trans (Cache.after_len _ _ _ _ _ _) (by have := HFEW.out; omega), hsep⟩, up6.then UE (fun i hi e => by have := HD.out; omega)⟩
set_option maxHeartbeats 8000000 in
set_option maxRecDepth 20000 in
theorem lock3 {w : World} {b : Nat} {st : St} (h : O l s lb pb cap q SQ c p SP k hs tl w b st) (hb : b < 1000000) (t : Nat) (ht : t < st.seats.length) (a : Int) (late : Bool) (rv : Value) (h0 : (st.pls.getD t p0).s = 3) :
    Calls Try.prog 41 #[.pointer (some ⟨l, 0, none⟩), .pointer (some ⟨pb, t * 4, none⟩), rv, .int .i64 a, .bool late] w fun e w' =>
      e = .returned (didv (lockS k tl c st t a late).1) ∧ O l s lb pb cap q SQ c p SP k hs tl w' (b + 1) (lockS k tl c st t a late).2 ∧ Upd (ft l s lb pb SP SQ) w w' := by
  obtain ⟨ha, hp, hf, hsep⟩ := h
  have D1 : Upd (fun _ => False) w (w.alloc (.cells #[.int .i64 0, .bool false, .bool false, .bool false] 51)) := (Upd.refl _ _).alloc _
  have h1 := ha.keep D1 (fun _ _ => id)
  have g1 := hp.keep D1 (fun _ _ => id)
  have R1 : Row (w.alloc (.cells #[.int .i64 0, .bool false, .bool false, .bool false] 51)) w.heap.size [.int .i64 0, .bool false, .bool false, .bool false] := Row.new' rfl
  have up1 : Upd (ft l s lb pb SP SQ) w (w.alloc (.cells #[.int .i64 0, .bool false, .bool false, .bool false] 51)) := D1.mono fun _ _ e => e.elim
  obtain ⟨D, hD⟩ : ∃ D, w.heap.size = D := ⟨_, rfl⟩
  have hlD : ∀ i, ft l s lb pb SP SQ i → i < D := by
    intro i hi
    rw [← hD]
    rcases hi with hi | hi
    · obtain ⟨_, hl⟩ := hp; exact hl i hi
    · exact ha.lt i hi
  have HD := Lib.hid hD
  obtain ⟨W, hW⟩ : ∃ W, w.alloc (.cells #[.int .i64 0, .bool false, .bool false, .bool false] 51) = W := ⟨_, rfl⟩
  rw [hD] at R1
  rw [hW] at h1 g1 R1 up1
  have HW := Lib.hid hW
  clear hD hW ha hp D1
  have hDn : ∀ i, ft l s lb pb SP SQ i → i ≠ D := fun i hi e => by have := hlD i hi; omega
  have tl0 := h1.tl0
  have c8 := h1.c8
  obtain ⟨⟨xs, xr, xn, xo⟩, hx⟩ : ∃ y, st.pls.getD t p0 = y := ⟨_, rfl⟩
  have hok := h1.ok t (by rw [h1.l1]; exact ht)
  have HFEW := Lib.hid hf
  have htp : t < st.pls.length := by rw [h1.l1]; exact ht
  rw [hx] at hok h0
  obtain ⟨o1, o2, o3, o4⟩ := hok
  dsimp only at o1 o2 o3 o4 h0
  subst h0
  have c1 := h1.top.cell (i := 1) rfl
  have c3 := h1.top.cell (i := 3) rfl
  have x0 := h1.cell ht 0 (by decide) _ rfl
  have x1 := h1.cell ht 1 (by decide) _ rfl
  have x2 := h1.cell ht 2 (by decide) _ rfl
  have x3 := h1.cell ht 3 (by decide) _ rfl
  rw [hx] at x0 x1 x2 x3
  rw [Nat.add_zero] at x0
  dsimp only at x0 x1 x2 x3
  have HX := Lib.hid hx
  have HSP : Hid (∀ i, SP i → i ≠ pb) := Lib.hid fun i hi e => hsep pb fa_pb (e ▸ hi)
  clear hx hf
  have KNnv := stC (W) c3 tl0 xn o3
  obtain ⟨nv, hnvnv⟩ : ∃ nv, stA tl xn = nv := ⟨_, rfl⟩
  have hnrnv : -2 ≤ nv ∧ nv ≤ 20000000000 := by rw [← hnvnv]; unfold stA; omega
  have HNVnv := Lib.hid hnvnv
  rw [hnvnv] at KNnv
  have HKNnv := Lib.hid KNnv
  clear KNnv hnvnv
  have hu1nv : IntKind.i64.wrap (nv + 1) = nv + 1 := IntWalk.i64_in _ (by omega)
  have hu2nv : IntKind.i64.wrap (nv + 2) = nv + 2 := IntWalk.i64_in _ (by omega)
  have KA := Port.storeP W p SP k st.ws hs st.ts g1 (by have := HFEW.out; omega) a (nv + 1) 0 (by decide) (by decide)
  have HKA := Lib.hid KA
  clear KA
  go_enter Try.func41, Try.ntmps41
  go_upto_region 1 with (fail)
  rw [HW.out, HD.out]
  go_wp2_with fail
  refine HKNnv.out.mono ?_
  rintro e w' ⟨rfl, rfl⟩
  go_wp2_with fail
  refine HKA.out.mono ?_
  rintro e w5 ⟨rfl, hp5, u5⟩
  have A5 := h1.keep u5 hsep
  have up5 : Upd (ft l s lb pb SP SQ) w w5 := (up1).trans (u5.mono fun i _ h => .inl h)
  have g5 := hp5
  have R5 := (R1).upd u5 (fun e => hDn D (.inl e) rfl)
  clear c1 c3 x0 x1 x2 x3
  have v0 := A5.cell ht 0 (by decide) _ rfl
  have fv0 := A5.plc.frozen (t * 4)
  rw [HX.out] at v0
  dsimp only at v0
  rw [Nat.add_zero] at v0
  have A6 := A5.setP ht 0 (by decide) (.int .i64 4) ⟨4, xr, xn, xo⟩ (by rw [HX.out]; rfl) ⟨(show (0 : Int) ≤ 4 ∧ (4 : Int) ≤ 7 by decide), o2, o3, o4⟩
  rw [Nat.add_zero] at A6
  have U6 := Upd.one w5 pb (t * 4) (.int .i64 4)
  have g6 := g5.keep U6 (fun i hi e => HSP.out i hi e)
  have up6 := up5.trans (U6.mono fun i _ e => (by rw [e]; exact ft_pb : ft l s lb pb SP SQ i))
  have R6 := R5.upd U6 (fun e => hDn pb ft_pb e.symm)
  go_upto_region 29 with (fail)
  obtain ⟨w6, hw6⟩ : ∃ w', w5.setCell ⟨pb, t * 4, none⟩ (.int .i64 4) = w' := ⟨_, rfl⟩
  rw [hw6] at A6 g6 up6 R6 ⊢
  clear hw6 v0 fv0 U6 A5 g5 up5 R5
  have y0 := R6.cell (i := 0) rfl
  have f0 := R6.frozen 0
  have y1 := R6.cell (i := 1) rfl
  have f1 := R6.frozen 1
  have y2 := R6.cell (i := 2) rfl
  have f2 := R6.frozen 2
  have y3 := R6.cell (i := 3) rfl
  have f3 := R6.frozen 3
  go_wp2_with fail
  obtain ⟨w8, hw8, RE, UE⟩ := did_end R6 (.int .i64 0) (.bool false) (.bool false) (.bool false)
  rw [hw8]
  have e0 := RE.cell (i := 0) rfl
  have e1 := RE.cell (i := 1) rfl
  have e2 := RE.cell (i := 2) rfl
  have e3 := RE.cell (i := 3) rfl
  refine bodyPost_ret (v := didv (0, false, false, false)) (by simp [results, Try.results41, go_sem, didv, e0, e1, e2, e3]) rfl ?_
  have E : lockS k tl c st t a late = ((0, false, false, false), { st with pls := st.pls.set t ⟨4, xr, xn, xo⟩, ws := wrt k st.ws a (nv + 1) 0, ts := Cache.after k st.ws.length st.ts a (nv + 1) true }) := by
    unfold lockS; rw [HX.out]; dsimp only; rw [if_neg (show ¬ ((3 : Int) = 0) by decide), if_neg (show ¬ ((3 : Int) = 1) by decide), if_neg (show ¬ ((3 : Int) = 2) by decide), if_pos rfl, HNVnv.out]
  have A99 := A6.keep UE (fun i hi e => hDn i (.inr hi) e)
  rw [E]
  exact ⟨rfl, ⟨A99, g6.keep UE (fun i hi e => hDn i (.inl hi) e), Nat.le_trans (Cache.after_len _ _ _ _ _ _) (by have := HFEW.out; omega), hsep⟩, up6.then UE (fun i hi e => by have := HD.out; omega)⟩
set_option maxHeartbeats 8000000 in
set_option maxRecDepth 20000 in
theorem lock4 {w : World} {b : Nat} {st : St} (h : O l s lb pb cap q SQ c p SP k hs tl w b st) (hb : b < 1000000) (t : Nat) (ht : t < st.seats.length) (a : Int) (late : Bool) (rv : Value) (h0 : (st.pls.getD t p0).s = 4) :
    Calls Try.prog 41 #[.pointer (some ⟨l, 0, none⟩), .pointer (some ⟨pb, t * 4, none⟩), rv, .int .i64 a, .bool late] w fun e w' =>
      e = .returned (didv (lockS k tl c st t a late).1) ∧ O l s lb pb cap q SQ c p SP k hs tl w' (b + 1) (lockS k tl c st t a late).2 ∧ Upd (ft l s lb pb SP SQ) w w' := by
  obtain ⟨ha, hp, hf, hsep⟩ := h
  have D1 : Upd (fun _ => False) w (w.alloc (.cells #[.int .i64 0, .bool false, .bool false, .bool false] 51)) := (Upd.refl _ _).alloc _
  have h1 := ha.keep D1 (fun _ _ => id)
  have g1 := hp.keep D1 (fun _ _ => id)
  have R1 : Row (w.alloc (.cells #[.int .i64 0, .bool false, .bool false, .bool false] 51)) w.heap.size [.int .i64 0, .bool false, .bool false, .bool false] := Row.new' rfl
  have up1 : Upd (ft l s lb pb SP SQ) w (w.alloc (.cells #[.int .i64 0, .bool false, .bool false, .bool false] 51)) := D1.mono fun _ _ e => e.elim
  obtain ⟨D, hD⟩ : ∃ D, w.heap.size = D := ⟨_, rfl⟩
  have hlD : ∀ i, ft l s lb pb SP SQ i → i < D := by
    intro i hi
    rw [← hD]
    rcases hi with hi | hi
    · obtain ⟨_, hl⟩ := hp; exact hl i hi
    · exact ha.lt i hi
  have HD := Lib.hid hD
  obtain ⟨W, hW⟩ : ∃ W, w.alloc (.cells #[.int .i64 0, .bool false, .bool false, .bool false] 51) = W := ⟨_, rfl⟩
  rw [hD] at R1
  rw [hW] at h1 g1 R1 up1
  have HW := Lib.hid hW
  clear hD hW ha hp D1
  have hDn : ∀ i, ft l s lb pb SP SQ i → i ≠ D := fun i hi e => by have := hlD i hi; omega
  have tl0 := h1.tl0
  have c8 := h1.c8
  obtain ⟨⟨xs, xr, xn, xo⟩, hx⟩ : ∃ y, st.pls.getD t p0 = y := ⟨_, rfl⟩
  have hok := h1.ok t (by rw [h1.l1]; exact ht)
  have HFEW := Lib.hid hf
  have htp : t < st.pls.length := by rw [h1.l1]; exact ht
  rw [hx] at hok h0
  obtain ⟨o1, o2, o3, o4⟩ := hok
  dsimp only at o1 o2 o3 o4 h0
  subst h0
  have c1 := h1.top.cell (i := 1) rfl
  have c3 := h1.top.cell (i := 3) rfl
  have x0 := h1.cell ht 0 (by decide) _ rfl
  have x1 := h1.cell ht 1 (by decide) _ rfl
  have x2 := h1.cell ht 2 (by decide) _ rfl
  have x3 := h1.cell ht 3 (by decide) _ rfl
  rw [hx] at x0 x1 x2 x3
  rw [Nat.add_zero] at x0
  dsimp only at x0 x1 x2 x3
  have HX := Lib.hid hx
  have HSP : Hid (∀ i, SP i → i ≠ pb) := Lib.hid fun i hi e => hsep pb fa_pb (e ▸ hi)
  clear hx hf
  have KNnv := stC (W) c3 tl0 xn o3
  obtain ⟨nv, hnvnv⟩ : ∃ nv, stA tl xn = nv := ⟨_, rfl⟩
  have hnrnv : -2 ≤ nv ∧ nv ≤ 20000000000 := by rw [← hnvnv]; unfold stA; omega
  have HNVnv := Lib.hid hnvnv
  rw [hnvnv] at KNnv
  have HKNnv := Lib.hid KNnv
  clear KNnv hnvnv
  have hu1nv : IntKind.i64.wrap (nv + 1) = nv + 1 := IntWalk.i64_in _ (by omega)
  have hu2nv : IntKind.i64.wrap (nv + 2) = nv + 2 := IntWalk.i64_in _ (by omega)
  have hu3 : IntKind.u32.wrap xn = xn := by rw [show IntKind.u32.wrap xn = xn % 4294967296 from rfl]; omega
  obtain ⟨gg, hg⟩ : ∃ y, rd k st.ws a (tl) = y := ⟨_, rfl⟩
  have hgw := rd_wd g1.wd k a (tl)
  rw [hg] at hgw
  have hgi : IntKind.i64.wrap gg = gg := IntWalk.i64_in _ (by omega)
  have KA := Port.swapP W.drew p SP k st.ws hs st.ts (g1.drewN 1) (by have := HFEW.out; omega) a tl xn o3.1 o3.2
  rw [show (if Mem.inB a k = true then Mem.get st.ws tl else 0) = gg from hg] at KA
  have HKA := Lib.hid KA
  clear KA
  have h1d := h1.keep ((Upd.refl (fun _ => False) W).drewN 1) (fun _ _ => id)
  go_enter Try.func41, Try.ntmps41
  go_upto_region 1 with (fail)
  rw [HW.out, HD.out]
  go_wp2_with fail
  refine HKNnv.out.mono ?_
  rintro e w' ⟨rfl, rfl⟩
  go_wp2_with fail
  go_region_held3 (fun w' => w'.cell? ⟨l, 1, none⟩ = some (.pointer (some ⟨p, 0, none⟩)) ∧ w'.cell? ⟨l, 3, none⟩ = some (.int .i64 tl) ∧ w'.cell? ⟨pb, t * 4 + 2, none⟩ = some (.int .i64 xn)) ((first | exact ⟨c1, c3, x2⟩ | exact ⟨e1, e3, e2⟩ | exact ⟨f1', f3', f2'⟩))
    (((go_at_call 56; refine HKA.out.mono ?_; rintro e w5 ⟨rfl, hp5, u5⟩; have e1 := cell_upd u5 c1 (hsep l fa_l); have e2 := cell_upd u5 x2 (hsep pb fa_pb); have e3 := cell_upd u5 c3 (hsep l fa_l); have A5' := h1d.keep u5 hsep; have m3 := A5'.cell ht 3 (by decide) _ rfl; have fm3 := A5'.plc.frozen (t * 4 + 3); rw [HX.out] at m3; dsimp only at m3; have A6' := A5'.setP ht 3 (by decide) (.int .i64 gg) ⟨4, xr, xn, gg⟩ (by rw [HX.out]; rfl) ⟨o1, o2, o3, hgw⟩; have f1' := A6'.top.cell (i := 1) rfl; have f3' := A6'.top.cell (i := 3) rfl; have f2' := A6'.cell ht 2 (by decide) _ rfl; rw [pl_set _ _ htp, if_pos rfl] at f2'; dsimp only at f2')))
  have A5 := (h1.keep ((Upd.refl (fun _ => False) W).drewN 1) (fun _ _ => id)).keep u5 hsep
  have up5 : Upd (ft l s lb pb SP SQ) w w5 := (up1.drewN 1).trans (u5.mono fun i _ h => .inl h)
  have g5 := hp5
  have R5 := (R1.drewN 1).upd u5 (fun e => hDn D (.inl e) rfl)
  clear c1 c3 x0 x1 x2 x3 e1 e2 e3 A5' A6' f1' f2' f3' m3 fm3 h1d
  have v3 := A5.cell ht 3 (by decide) _ rfl
  have fv3 := A5.plc.frozen (t * 4 + 3)
  rw [HX.out] at v3
  dsimp only at v3
  have A6 := A5.setP ht 3 (by decide) (.int .i64 gg) ⟨4, xr, xn, gg⟩ (by rw [HX.out]; rfl) ⟨o1, o2, o3, hgw⟩
  have U6 := Upd.one w5 pb (t * 4 + 3) (.int .i64 gg)
  have g6 := g5.keep U6 (fun i hi e => HSP.out i hi e)
  have up6 := up5.trans (U6.mono fun i _ e => (by rw [e]; exact ft_pb : ft l s lb pb SP SQ i))
  have R6 := R5.upd U6 (fun e => hDn pb ft_pb e.symm)
  obtain ⟨w6, hw6⟩ : ∃ w', w5.setCell ⟨pb, t * 4 + 3, none⟩ (.int .i64 gg) = w' := ⟨_, rfl⟩
  rw [hw6] at A6 g6 up6 R6 ⊢
  clear hw6 v3 fv3 U6 A5 g5 up5 R5
  have HX6 := Lib.hid (show (st.pls.set t ⟨4, xr, xn, gg⟩).getD t p0 = ⟨4, xr, xn, gg⟩ by rw [pl_set _ _ htp, if_pos rfl])
  have x3 := A6.cell ht 3 (by decide) _ rfl
  rw [HX6.out] at x3
  dsimp only at x3
  by_cases hg0 : gg = 0
  · subst hg0
    have y0 := R6.cell (i := 0) rfl
    have f0 := R6.frozen 0
    have y1 := R6.cell (i := 1) rfl
    have f1 := R6.frozen 1
    have y2 := R6.cell (i := 2) rfl
    have f2 := R6.frozen 2
    have y3 := R6.cell (i := 3) rfl
    have f3 := R6.frozen 3
    go_wp2_with fail
    obtain ⟨w8, hw8, RE, UE⟩ := did_end R6 (.int .i64 1) (.bool true) (.bool false) (.bool false)
    rw [hw8]
    have e0 := RE.cell (i := 0) rfl
    have e1 := RE.cell (i := 1) rfl
    have e2 := RE.cell (i := 2) rfl
    have e3 := RE.cell (i := 3) rfl
    refine bodyPost_ret (v := didv (1, true, false, false)) (by simp [results, Try.results41, go_sem, didv, e0, e1, e2, e3]) rfl ?_
    have E : lockS k tl c st t a late = ((1, true, false, false), { st with pls := st.pls.set t ⟨4, xr, xn, 0⟩, ws := wrt k st.ws a tl xn, ts := Cache.after k st.ws.length st.ts a (tl) true }) := by
      unfold lockS; rw [HX.out]; dsimp only; rw [if_neg (show ¬ ((4 : Int) = 0) by decide), if_neg (show ¬ ((4 : Int) = 1) by decide), if_neg (show ¬ ((4 : Int) = 2) by decide), if_neg (show ¬ ((4 : Int) = 3) by decide), if_pos rfl, hg, if_pos rfl]
    have A99 := A6.keep UE (fun i hi e => hDn i (.inr hi) e)
    rw [E]
    exact ⟨rfl, ⟨A99, g6.keep UE (fun i hi e => hDn i (.inl hi) e), Nat.le_trans (Cache.after_len _ _ _ _ _ _) (by have := HFEW.out; omega), hsep⟩, up6.then UE (fun i hi e => by have := HD.out; omega)⟩
  · have hg0' : (gg == 0) = false := by simpa using hg0
    have v0 := A6.cell ht 0 (by decide) _ rfl
    have fv0 := A6.plc.frozen (t * 4)
    rw [HX6.out] at v0
    dsimp only at v0
    rw [Nat.add_zero] at v0
    have A7 := A6.setP ht 0 (by decide) (.int .i64 5) ⟨5, xr, xn, gg⟩ (by rw [HX6.out]; rfl) ⟨(show (0 : Int) ≤ 5 ∧ (5 : Int) ≤ 7 by decide), o2, o3, hgw⟩
    rw [Nat.add_zero] at A7
    have U7 := Upd.one w6 pb (t * 4) (.int .i64 5)
    have g7 := g6.keep U7 (fun i hi e => HSP.out i hi e)
    have up7 := up6.trans (U7.mono fun i _ e => (by rw [e]; exact ft_pb : ft l s lb pb SP SQ i))
    have R7 := R6.upd U7 (fun e => hDn pb ft_pb e.symm)
    go_upto_region 16 with (fail)
    obtain ⟨w7, hw7⟩ : ∃ w', w6.setCell ⟨pb, t * 4, none⟩ (.int .i64 5) = w' := ⟨_, rfl⟩
    rw [hw7] at A7 g7 up7 R7 ⊢
    clear hw7 v0 fv0 U7 A6 g6 up6 R6 x3
    have y0 := R7.cell (i := 0) rfl
    have f0 := R7.frozen 0
    have y1 := R7.cell (i := 1) rfl
    have f1 := R7.frozen 1
    have y2 := R7.cell (i := 2) rfl
    have f2 := R7.frozen 2
    have y3 := R7.cell (i := 3) rfl
    have f3 := R7.frozen 3
    go_wp2_with fail
    obtain ⟨w8, hw8, RE, UE⟩ := did_end R7 (.int .i64 0) (.bool true) (.bool false) (.bool false)
    rw [hw8]
    have e0 := RE.cell (i := 0) rfl
    have e1 := RE.cell (i := 1) rfl
    have e2 := RE.cell (i := 2) rfl
    have e3 := RE.cell (i := 3) rfl
    refine bodyPost_ret (v := didv (0, true, false, false)) (by simp [results, Try.results41, go_sem, didv, e0, e1, e2, e3]) rfl ?_
    have E : lockS k tl c st t a late = ((0, true, false, false), { st with pls := st.pls.set t ⟨5, xr, xn, gg⟩, ws := wrt k st.ws a tl xn, ts := Cache.after k st.ws.length st.ts a (tl) true }) := by
      unfold lockS; rw [HX.out]; dsimp only; rw [if_neg (show ¬ ((4 : Int) = 0) by decide), if_neg (show ¬ ((4 : Int) = 1) by decide), if_neg (show ¬ ((4 : Int) = 2) by decide), if_neg (show ¬ ((4 : Int) = 3) by decide), if_pos rfl, hg, if_neg hg0]
    have A99 := A7.keep UE (fun i hi e => hDn i (.inr hi) e)
    rw [List.set_set] at A99
    rw [E]
    exact ⟨rfl, ⟨A99, g7.keep UE (fun i hi e => hDn i (.inl hi) e), Nat.le_trans (Cache.after_len _ _ _ _ _ _) (by have := HFEW.out; omega), hsep⟩, up7.then UE (fun i hi e => by have := HD.out; omega)⟩
set_option maxHeartbeats 8000000 in
set_option maxRecDepth 20000 in
theorem lock5 {w : World} {b : Nat} {st : St} (h : O l s lb pb cap q SQ c p SP k hs tl w b st) (hb : b < 1000000) (t : Nat) (ht : t < st.seats.length) (a : Int) (late : Bool) (rv : Value) (h0 : (st.pls.getD t p0).s = 5) :
    Calls Try.prog 41 #[.pointer (some ⟨l, 0, none⟩), .pointer (some ⟨pb, t * 4, none⟩), rv, .int .i64 a, .bool late] w fun e w' =>
      e = .returned (didv (lockS k tl c st t a late).1) ∧ O l s lb pb cap q SQ c p SP k hs tl w' (b + 1) (lockS k tl c st t a late).2 ∧ Upd (ft l s lb pb SP SQ) w w' := by
  obtain ⟨ha, hp, hf, hsep⟩ := h
  have D1 : Upd (fun _ => False) w (w.alloc (.cells #[.int .i64 0, .bool false, .bool false, .bool false] 51)) := (Upd.refl _ _).alloc _
  have h1 := ha.keep D1 (fun _ _ => id)
  have g1 := hp.keep D1 (fun _ _ => id)
  have R1 : Row (w.alloc (.cells #[.int .i64 0, .bool false, .bool false, .bool false] 51)) w.heap.size [.int .i64 0, .bool false, .bool false, .bool false] := Row.new' rfl
  have up1 : Upd (ft l s lb pb SP SQ) w (w.alloc (.cells #[.int .i64 0, .bool false, .bool false, .bool false] 51)) := D1.mono fun _ _ e => e.elim
  obtain ⟨D, hD⟩ : ∃ D, w.heap.size = D := ⟨_, rfl⟩
  have hlD : ∀ i, ft l s lb pb SP SQ i → i < D := by
    intro i hi
    rw [← hD]
    rcases hi with hi | hi
    · obtain ⟨_, hl⟩ := hp; exact hl i hi
    · exact ha.lt i hi
  have HD := Lib.hid hD
  obtain ⟨W, hW⟩ : ∃ W, w.alloc (.cells #[.int .i64 0, .bool false, .bool false, .bool false] 51) = W := ⟨_, rfl⟩
  rw [hD] at R1
  rw [hW] at h1 g1 R1 up1
  have HW := Lib.hid hW
  clear hD hW ha hp D1
  have hDn : ∀ i, ft l s lb pb SP SQ i → i ≠ D := fun i hi e => by have := hlD i hi; omega
  have tl0 := h1.tl0
  have c8 := h1.c8
  obtain ⟨⟨xs, xr, xn, xo⟩, hx⟩ : ∃ y, st.pls.getD t p0 = y := ⟨_, rfl⟩
  have hok := h1.ok t (by rw [h1.l1]; exact ht)
  have HFEW := Lib.hid hf
  have htp : t < st.pls.length := by rw [h1.l1]; exact ht
  rw [hx] at hok h0
  obtain ⟨o1, o2, o3, o4⟩ := hok
  dsimp only at o1 o2 o3 o4 h0
  subst h0
  have c1 := h1.top.cell (i := 1) rfl
  have c3 := h1.top.cell (i := 3) rfl
  have x0 := h1.cell ht 0 (by decide) _ rfl
  have x1 := h1.cell ht 1 (by decide) _ rfl
  have x2 := h1.cell ht 2 (by decide) _ rfl
  have x3 := h1.cell ht 3 (by decide) _ rfl
  rw [hx] at x0 x1 x2 x3
  rw [Nat.add_zero] at x0
  dsimp only at x0 x1 x2 x3
  have HX := Lib.hid hx
  have HSP : Hid (∀ i, SP i → i ≠ pb) := Lib.hid fun i hi e => hsep pb fa_pb (e ▸ hi)
  clear hx hf
  have KNnv := stC (W) c3 tl0 xn o3
  obtain ⟨nv, hnvnv⟩ : ∃ nv, stA tl xn = nv := ⟨_, rfl⟩
  have hnrnv : -2 ≤ nv ∧ nv ≤ 20000000000 := by rw [← hnvnv]; unfold stA; omega
  have HNVnv := Lib.hid hnvnv
  rw [hnvnv] at KNnv
  have HKNnv := Lib.hid KNnv
  clear KNnv hnvnv
  have hu1nv : IntKind.i64.wrap (nv + 1) = nv + 1 := IntWalk.i64_in _ (by omega)
  have hu2nv : IntKind.i64.wrap (nv + 2) = nv + 2 := IntWalk.i64_in _ (by omega)
  have KNno := stC (W.drew) c3 tl0 xo o4
  obtain ⟨no, hnvno⟩ : ∃ nv, stA tl xo = nv := ⟨_, rfl⟩
  have hnrno : -2 ≤ no ∧ no ≤ 20000000000 := by rw [← hnvno]; unfold stA; omega
  have HNVno := Lib.hid hnvno
  rw [hnvno] at KNno
  have HKNno := Lib.hid KNno
  clear KNno hnvno
  have hu1no : IntKind.i64.wrap (no + 1) = no + 1 := IntWalk.i64_in _ (by omega)
  have hu2no : IntKind.i64.wrap (no + 2) = no + 2 := IntWalk.i64_in _ (by omega)
  have hu3 : IntKind.u32.wrap xn = xn := by rw [show IntKind.u32.wrap xn = xn % 4294967296 from rfl]; omega
  have KA := Port.storeP W.drew p SP k st.ws hs st.ts (g1.drewN 1) (by have := HFEW.out; omega) a (no + 1) xn o3.1 o3.2
  have HKA := Lib.hid KA
  clear KA
  go_enter Try.func41, Try.ntmps41
  go_upto_region 1 with (fail)
  rw [HW.out, HD.out]
  go_wp2_with fail
  refine HKNnv.out.mono ?_
  rintro e w' ⟨rfl, rfl⟩
  go_wp2_with fail
  go_region_held3 (fun w' => w'.cell? ⟨l, 1, none⟩ = some (.pointer (some ⟨p, 0, none⟩)) ∧ w'.cell? ⟨pb, t * 4 + 2, none⟩ = some (.int .i64 xn) ∧ w'.cell? ⟨pb, t * 4 + 3, none⟩ = some (.int .i64 xo)) ((first | exact ⟨c1, x2, x3⟩ | exact ⟨e1, e2, e3⟩))
    ((first
      | (go_at_call 46; refine HKNno.out.mono ?_; rintro e w' ⟨rfl, rfl⟩)
      | (go_at_call 55; refine HKA.out.mono ?_; rintro e w5 ⟨rfl, hp5, u5⟩; have e1 := cell_upd u5 c1 (hsep l fa_l); have e2 := cell_upd u5 x2 (hsep pb fa_pb); have e3 := cell_upd u5 x3 (hsep pb fa_pb))))
  have A5 := (h1.keep ((Upd.refl (fun _ => False) W).drewN 1) (fun _ _ => id)).keep u5 hsep
  have up5 : Upd (ft l s lb pb SP SQ) w w5 := (up1.drewN 1).trans (u5.mono fun i _ h => .inl h)
  have g5 := hp5
  have R5 := (R1.drewN 1).upd u5 (fun e => hDn D (.inl e) rfl)
  clear c1 c3 x0 x1 x2 x3 e1 e2 e3
  have v0 := A5.cell ht 0 (by decide) _ rfl
  have fv0 := A5.plc.frozen (t * 4)
  rw [HX.out] at v0
  dsimp only at v0
  rw [Nat.add_zero] at v0
  have A6 := A5.setP ht 0 (by decide) (.int .i64 6) ⟨6, xr, xn, xo⟩ (by rw [HX.out]; rfl) ⟨(show (0 : Int) ≤ 6 ∧ (6 : Int) ≤ 7 by decide), o2, o3, o4⟩
  rw [Nat.add_zero] at A6
  have U6 := Upd.one w5 pb (t * 4) (.int .i64 6)
  have g6 := g5.keep U6 (fun i hi e => HSP.out i hi e)
  have up6 := up5.trans (U6.mono fun i _ e => (by rw [e]; exact ft_pb : ft l s lb pb SP SQ i))
  have R6 := R5.upd U6 (fun e => hDn pb ft_pb e.symm)
  go_upto_region 29 with (fail)
  obtain ⟨w6, hw6⟩ : ∃ w', w5.setCell ⟨pb, t * 4, none⟩ (.int .i64 6) = w' := ⟨_, rfl⟩
  rw [hw6] at A6 g6 up6 R6 ⊢
  clear hw6 v0 fv0 U6 A5 g5 up5 R5
  have y0 := R6.cell (i := 0) rfl
  have f0 := R6.frozen 0
  have y1 := R6.cell (i := 1) rfl
  have f1 := R6.frozen 1
  have y2 := R6.cell (i := 2) rfl
  have f2 := R6.frozen 2
  have y3 := R6.cell (i := 3) rfl
  have f3 := R6.frozen 3
  go_wp2_with fail
  obtain ⟨w8, hw8, RE, UE⟩ := did_end R6 (.int .i64 0) (.bool false) (.bool false) (.bool false)
  rw [hw8]
  have e0 := RE.cell (i := 0) rfl
  have e1 := RE.cell (i := 1) rfl
  have e2 := RE.cell (i := 2) rfl
  have e3 := RE.cell (i := 3) rfl
  refine bodyPost_ret (v := didv (0, false, false, false)) (by simp [results, Try.results41, go_sem, didv, e0, e1, e2, e3]) rfl ?_
  have E : lockS k tl c st t a late = ((0, false, false, false), { st with pls := st.pls.set t ⟨6, xr, xn, xo⟩, ws := wrt k st.ws a (no + 1) xn, ts := Cache.after k st.ws.length st.ts a (no + 1) true }) := by
    unfold lockS; rw [HX.out]; dsimp only; rw [if_neg (show ¬ ((5 : Int) = 0) by decide), if_neg (show ¬ ((5 : Int) = 1) by decide), if_neg (show ¬ ((5 : Int) = 2) by decide), if_neg (show ¬ ((5 : Int) = 3) by decide), if_neg (show ¬ ((5 : Int) = 4) by decide), if_pos rfl, HNVno.out]
  have A99 := A6.keep UE (fun i hi e => hDn i (.inr hi) e)
  rw [E]
  exact ⟨rfl, ⟨A99, g6.keep UE (fun i hi e => hDn i (.inl hi) e), Nat.le_trans (Cache.after_len _ _ _ _ _ _) (by have := HFEW.out; omega), hsep⟩, up6.then UE (fun i hi e => by have := HD.out; omega)⟩
set_option maxHeartbeats 8000000 in
set_option maxRecDepth 20000 in
theorem lock6 {w : World} {b : Nat} {st : St} (h : O l s lb pb cap q SQ c p SP k hs tl w b st) (hb : b < 1000000) (t : Nat) (ht : t < st.seats.length) (a : Int) (late : Bool) (rv : Value) (h0 : (st.pls.getD t p0).s = 6) :
    Calls Try.prog 41 #[.pointer (some ⟨l, 0, none⟩), .pointer (some ⟨pb, t * 4, none⟩), rv, .int .i64 a, .bool late] w fun e w' =>
      e = .returned (didv (lockS k tl c st t a late).1) ∧ O l s lb pb cap q SQ c p SP k hs tl w' (b + 1) (lockS k tl c st t a late).2 ∧ Upd (ft l s lb pb SP SQ) w w' := by
  obtain ⟨ha, hp, hf, hsep⟩ := h
  have D1 : Upd (fun _ => False) w (w.alloc (.cells #[.int .i64 0, .bool false, .bool false, .bool false] 51)) := (Upd.refl _ _).alloc _
  have h1 := ha.keep D1 (fun _ _ => id)
  have g1 := hp.keep D1 (fun _ _ => id)
  have R1 : Row (w.alloc (.cells #[.int .i64 0, .bool false, .bool false, .bool false] 51)) w.heap.size [.int .i64 0, .bool false, .bool false, .bool false] := Row.new' rfl
  have up1 : Upd (ft l s lb pb SP SQ) w (w.alloc (.cells #[.int .i64 0, .bool false, .bool false, .bool false] 51)) := D1.mono fun _ _ e => e.elim
  obtain ⟨D, hD⟩ : ∃ D, w.heap.size = D := ⟨_, rfl⟩
  have hlD : ∀ i, ft l s lb pb SP SQ i → i < D := by
    intro i hi
    rw [← hD]
    rcases hi with hi | hi
    · obtain ⟨_, hl⟩ := hp; exact hl i hi
    · exact ha.lt i hi
  have HD := Lib.hid hD
  obtain ⟨W, hW⟩ : ∃ W, w.alloc (.cells #[.int .i64 0, .bool false, .bool false, .bool false] 51) = W := ⟨_, rfl⟩
  rw [hD] at R1
  rw [hW] at h1 g1 R1 up1
  have HW := Lib.hid hW
  clear hD hW ha hp D1
  have hDn : ∀ i, ft l s lb pb SP SQ i → i ≠ D := fun i hi e => by have := hlD i hi; omega
  have tl0 := h1.tl0
  have c8 := h1.c8
  obtain ⟨⟨xs, xr, xn, xo⟩, hx⟩ : ∃ y, st.pls.getD t p0 = y := ⟨_, rfl⟩
  have hok := h1.ok t (by rw [h1.l1]; exact ht)
  have HFEW := Lib.hid hf
  have htp : t < st.pls.length := by rw [h1.l1]; exact ht
  rw [hx] at hok h0
  obtain ⟨o1, o2, o3, o4⟩ := hok
  dsimp only at o1 o2 o3 o4 h0
  subst h0
  have c1 := h1.top.cell (i := 1) rfl
  have c3 := h1.top.cell (i := 3) rfl
  have x0 := h1.cell ht 0 (by decide) _ rfl
  have x1 := h1.cell ht 1 (by decide) _ rfl
  have x2 := h1.cell ht 2 (by decide) _ rfl
  have x3 := h1.cell ht 3 (by decide) _ rfl
  rw [hx] at x0 x1 x2 x3
  rw [Nat.add_zero] at x0
  dsimp only at x0 x1 x2 x3
  have HX := Lib.hid hx
  have HSP : Hid (∀ i, SP i → i ≠ pb) := Lib.hid fun i hi e => hsep pb fa_pb (e ▸ hi)
  clear hx hf
  have KNnv := stC (W) c3 tl0 xn o3
  obtain ⟨nv, hnvnv⟩ : ∃ nv, stA tl xn = nv := ⟨_, rfl⟩
  have hnrnv : -2 ≤ nv ∧ nv ≤ 20000000000 := by rw [← hnvnv]; unfold stA; omega
  have HNVnv := Lib.hid hnvnv
  rw [hnvnv] at KNnv
  have HKNnv := Lib.hid KNnv
  clear KNnv hnvnv
  have hu1nv : IntKind.i64.wrap (nv + 1) = nv + 1 := IntWalk.i64_in _ (by omega)
  have hu2nv : IntKind.i64.wrap (nv + 2) = nv + 2 := IntWalk.i64_in _ (by omega)
  obtain ⟨gg, hg⟩ : ∃ y, rd k st.ws a nv = y := ⟨_, rfl⟩
  have KA := Port.loadP W p SP k st.ws hs st.ts g1 (by have := HFEW.out; omega) a nv
  rw [show (if Mem.inB a k = true then Mem.get st.ws nv else 0) = gg from hg] at KA
  have HKA := Lib.hid KA
  clear KA
  go_enter Try.func41, Try.ntmps41
  go_upto_region 1 with (fail)
  rw [HW.out, HD.out]
  go_wp2_with fail
  refine HKNnv.out.mono ?_
  rintro e w' ⟨rfl, rfl⟩
  go_wp2_with fail
  refine HKA.out.mono ?_
  rintro e w5 ⟨rfl, hp5, u5⟩
  have A5 := h1.keep u5 hsep
  have up5 : Upd (ft l s lb pb SP SQ) w w5 := (up1).trans (u5.mono fun i _ h => .inl h)
  have g5 := hp5
  have R5 := (R1).upd u5 (fun e => hDn D (.inl e) rfl)
  clear c1 c3 x0 x1 x2 x3
  by_cases hg0 : gg = 0
  · subst hg0
    cases late with
    | false =>
      have y0 := R5.cell (i := 0) rfl
      have f0 := R5.frozen 0
      have y1 := R5.cell (i := 1) rfl
      have f1 := R5.frozen 1
      have y2 := R5.cell (i := 2) rfl
      have f2 := R5.frozen 2
      have y3 := R5.cell (i := 3) rfl
      have f3 := R5.frozen 3
      go_wp2_with fail
      obtain ⟨w8, hw8, RE, UE⟩ := did_end R5 (.int .i64 0) (.bool false) (.bool false) (.bool false)
      rw [hw8]
      have e0 := RE.cell (i := 0) rfl
      have e1 := RE.cell (i := 1) rfl
      have e2 := RE.cell (i := 2) rfl
      have e3 := RE.cell (i := 3) rfl
      refine bodyPost_ret (v := didv (0, false, false, false)) (by simp [results, Try.results41, go_sem, didv, e0, e1, e2, e3]) rfl ?_
      have E : lockS k tl c st t a false = ((0, false, false, false), { st with ts := Cache.after k st.ws.length st.ts a (nv) false }) := by
        unfold lockS; rw [HX.out]; dsimp only; rw [if_neg (show ¬ ((6 : Int) = 0) by decide), if_neg (show ¬ ((6 : Int) = 1) by decide), if_neg (show ¬ ((6 : Int) = 2) by decide), if_neg (show ¬ ((6 : Int) = 3) by decide), if_neg (show ¬ ((6 : Int) = 4) by decide), if_neg (show ¬ ((6 : Int) = 5) by decide), if_pos rfl, HNVnv.out, hg, if_neg (by decide), if_pos rfl]
      have A99 := A5.keep UE (fun i hi e => hDn i (.inr hi) e)
      rw [E]
      exact ⟨rfl, ⟨A99, g5.keep UE (fun i hi e => hDn i (.inl hi) e), Nat.le_trans (Cache.after_len _ _ _ _ _ _) (by have := HFEW.out; omega), hsep⟩, up5.then UE (fun i hi e => by have := HD.out; omega)⟩
    | true =>
      have v0 := A5.cell ht 0 (by decide) _ rfl
      have fv0 := A5.plc.frozen (t * 4)
      rw [HX.out] at v0
      dsimp only at v0
      rw [Nat.add_zero] at v0
      have A6 := A5.setP ht 0 (by decide) (.int .i64 7) ⟨7, xr, xn, xo⟩ (by rw [HX.out]; rfl) ⟨(show (0 : Int) ≤ 7 ∧ (7 : Int) ≤ 7 by decide), o2, o3, o4⟩
      rw [Nat.add_zero] at A6
      have U6 := Upd.one w5 pb (t * 4) (.int .i64 7)
      have g6 := g5.keep U6 (fun i hi e => HSP.out i hi e)
      have up6 := up5.trans (U6.mono fun i _ e => (by rw [e]; exact ft_pb : ft l s lb pb SP SQ i))
      have R6 := R5.upd U6 (fun e => hDn pb ft_pb e.symm)
      go_upto_region 29 with (fail)
      obtain ⟨w6, hw6⟩ : ∃ w', w5.setCell ⟨pb, t * 4, none⟩ (.int .i64 7) = w' := ⟨_, rfl⟩
      rw [hw6] at A6 g6 up6 R6 ⊢
      clear hw6 v0 fv0 U6 A5 g5 up5 R5
      have y0 := R6.cell (i := 0) rfl
      have f0 := R6.frozen 0
      have y1 := R6.cell (i := 1) rfl
      have f1 := R6.frozen 1
      have y2 := R6.cell (i := 2) rfl
      have f2 := R6.frozen 2
      have y3 := R6.cell (i := 3) rfl
      have f3 := R6.frozen 3
      go_wp2_with fail
      obtain ⟨w8, hw8, RE, UE⟩ := did_end R6 (.int .i64 0) (.bool false) (.bool false) (.bool false)
      rw [hw8]
      have e0 := RE.cell (i := 0) rfl
      have e1 := RE.cell (i := 1) rfl
      have e2 := RE.cell (i := 2) rfl
      have e3 := RE.cell (i := 3) rfl
      refine bodyPost_ret (v := didv (0, false, false, false)) (by simp [results, Try.results41, go_sem, didv, e0, e1, e2, e3]) rfl ?_
      have E : lockS k tl c st t a true = ((0, false, false, false), { st with pls := st.pls.set t ⟨7, xr, xn, xo⟩, ts := Cache.after k st.ws.length st.ts a (nv) false }) := by
        unfold lockS; rw [HX.out]; dsimp only; rw [if_neg (show ¬ ((6 : Int) = 0) by decide), if_neg (show ¬ ((6 : Int) = 1) by decide), if_neg (show ¬ ((6 : Int) = 2) by decide), if_neg (show ¬ ((6 : Int) = 3) by decide), if_neg (show ¬ ((6 : Int) = 4) by decide), if_neg (show ¬ ((6 : Int) = 5) by decide), if_pos rfl, HNVnv.out, hg, if_neg (by decide), if_neg (by decide)]
      have A99 := A6.keep UE (fun i hi e => hDn i (.inr hi) e)
      rw [E]
      exact ⟨rfl, ⟨A99, g6.keep UE (fun i hi e => hDn i (.inl hi) e), Nat.le_trans (Cache.after_len _ _ _ _ _ _) (by have := HFEW.out; omega), hsep⟩, up6.then UE (fun i hi e => by have := HD.out; omega)⟩
  · have hg0' : (gg != 0) = true := by simpa using hg0
    have y0 := R5.cell (i := 0) rfl
    have f0 := R5.frozen 0
    have y1 := R5.cell (i := 1) rfl
    have f1 := R5.frozen 1
    have y2 := R5.cell (i := 2) rfl
    have f2 := R5.frozen 2
    have y3 := R5.cell (i := 3) rfl
    have f3 := R5.frozen 3
    go_wp2_with fail
    obtain ⟨w8, hw8, RE, UE⟩ := did_end R5 (.int .i64 1) (.bool false) (.bool false) (.bool false)
    rw [hw8]
    have e0 := RE.cell (i := 0) rfl
    have e1 := RE.cell (i := 1) rfl
    have e2 := RE.cell (i := 2) rfl
    have e3 := RE.cell (i := 3) rfl
    refine bodyPost_ret (v := didv (1, false, false, false)) (by simp [results, Try.results41, go_sem, didv, e0, e1, e2, e3]) rfl ?_
    have E : lockS k tl c st t a late = ((1, false, false, false), { st with ts := Cache.after k st.ws.length st.ts a (nv) false }) := by
      unfold lockS; rw [HX.out]; dsimp only; rw [if_neg (show ¬ ((6 : Int) = 0) by decide), if_neg (show ¬ ((6 : Int) = 1) by decide), if_neg (show ¬ ((6 : Int) = 2) by decide), if_neg (show ¬ ((6 : Int) = 3) by decide), if_neg (show ¬ ((6 : Int) = 4) by decide), if_neg (show ¬ ((6 : Int) = 5) by decide), if_pos rfl, HNVnv.out, hg, if_pos hg0]
    have A99 := A5.keep UE (fun i hi e => hDn i (.inr hi) e)
    rw [E]
    exact ⟨rfl, ⟨A99, g5.keep UE (fun i hi e => hDn i (.inl hi) e), Nat.le_trans (Cache.after_len _ _ _ _ _ _) (by have := HFEW.out; omega), hsep⟩, up5.then UE (fun i hi e => by have := HD.out; omega)⟩
set_option maxHeartbeats 8000000 in
set_option maxRecDepth 20000 in
theorem lock7 {w : World} {b : Nat} {st : St} (h : O l s lb pb cap q SQ c p SP k hs tl w b st) (hb : b < 1000000) (t : Nat) (ht : t < st.seats.length) (a : Int) (late : Bool) (rv : Value) (h0 : (st.pls.getD t p0).s = 7) :
    Calls Try.prog 41 #[.pointer (some ⟨l, 0, none⟩), .pointer (some ⟨pb, t * 4, none⟩), rv, .int .i64 a, .bool late] w fun e w' =>
      e = .returned (didv (lockS k tl c st t a late).1) ∧ O l s lb pb cap q SQ c p SP k hs tl w' (b + 1) (lockS k tl c st t a late).2 ∧ Upd (ft l s lb pb SP SQ) w w' := by
  obtain ⟨ha, hp, hf, hsep⟩ := h
  have D1 : Upd (fun _ => False) w (w.alloc (.cells #[.int .i64 0, .bool false, .bool false, .bool false] 51)) := (Upd.refl _ _).alloc _
  have h1 := ha.keep D1 (fun _ _ => id)
  have g1 := hp.keep D1 (fun _ _ => id)
  have R1 : Row (w.alloc (.cells #[.int .i64 0, .bool false, .bool false, .bool false] 51)) w.heap.size [.int .i64 0, .bool false, .bool false, .bool false] := Row.new' rfl
  have up1 : Upd (ft l s lb pb SP SQ) w (w.alloc (.cells #[.int .i64 0, .bool false, .bool false, .bool false] 51)) := D1.mono fun _ _ e => e.elim
  obtain ⟨D, hD⟩ : ∃ D, w.heap.size = D := ⟨_, rfl⟩
  have hlD : ∀ i, ft l s lb pb SP SQ i → i < D := by
    intro i hi
    rw [← hD]
    rcases hi with hi | hi
    · obtain ⟨_, hl⟩ := hp; exact hl i hi
    · exact ha.lt i hi
  have HD := Lib.hid hD
  obtain ⟨W, hW⟩ : ∃ W, w.alloc (.cells #[.int .i64 0, .bool false, .bool false, .bool false] 51) = W := ⟨_, rfl⟩
  rw [hD] at R1
  rw [hW] at h1 g1 R1 up1
  have HW := Lib.hid hW
  clear hD hW ha hp D1
  have hDn : ∀ i, ft l s lb pb SP SQ i → i ≠ D := fun i hi e => by have := hlD i hi; omega
  have tl0 := h1.tl0
  have c8 := h1.c8
  obtain ⟨⟨xs, xr, xn, xo⟩, hx⟩ : ∃ y, st.pls.getD t p0 = y := ⟨_, rfl⟩
  have hok := h1.ok t (by rw [h1.l1]; exact ht)
  have HFEW := Lib.hid hf
  have htp : t < st.pls.length := by rw [h1.l1]; exact ht
  rw [hx] at hok h0
  obtain ⟨o1, o2, o3, o4⟩ := hok
  dsimp only at o1 o2 o3 o4 h0
  subst h0
  have c1 := h1.top.cell (i := 1) rfl
  have c3 := h1.top.cell (i := 3) rfl
  have x0 := h1.cell ht 0 (by decide) _ rfl
  have x1 := h1.cell ht 1 (by decide) _ rfl
  have x2 := h1.cell ht 2 (by decide) _ rfl
  have x3 := h1.cell ht 3 (by decide) _ rfl
  rw [hx] at x0 x1 x2 x3
  rw [Nat.add_zero] at x0
  dsimp only at x0 x1 x2 x3
  have HX := Lib.hid hx
  have HSP : Hid (∀ i, SP i → i ≠ pb) := Lib.hid fun i hi e => hsep pb fa_pb (e ▸ hi)
  clear hx hf
  have KNnv := stC (W) c3 tl0 xn o3
  obtain ⟨nv, hnvnv⟩ : ∃ nv, stA tl xn = nv := ⟨_, rfl⟩
  have hnrnv : -2 ≤ nv ∧ nv ≤ 20000000000 := by rw [← hnvnv]; unfold stA; omega
  have HNVnv := Lib.hid hnvnv
  rw [hnvnv] at KNnv
  have HKNnv := Lib.hid KNnv
  clear KNnv hnvnv
  have hu1nv : IntKind.i64.wrap (nv + 1) = nv + 1 := IntWalk.i64_in _ (by omega)
  have hu2nv : IntKind.i64.wrap (nv + 2) = nv + 2 := IntWalk.i64_in _ (by omega)
  obtain ⟨cb, hcb⟩ : ∃ y, (Mem.inB a k && Mem.casB st.ws (nv) 0) = y := ⟨_, rfl⟩
  cases cb with
  | true =>
    have HCB := Lib.hid hcb
    clear hcb
    have KA := Port.casP W p SP k st.ws hs st.ts g1 (by have := HFEW.out; omega) a (nv) 0 2 (by decide) (by decide)
    rw [HCB.out, if_pos rfl] at KA
    have HKA := Lib.hid KA
    clear KA
    go_enter Try.func41, Try.ntmps41
    go_upto_region 1 with (fail)
    rw [HW.out, HD.out]
    go_wp2_with fail
    refine HKNnv.out.mono ?_
    rintro e w' ⟨rfl, rfl⟩
    go_wp2_with fail
    refine HKA.out.mono ?_
    rintro e w5 ⟨rfl, hp5, u5⟩
    have A5 := h1.keep u5 hsep
    have up5 : Upd (ft l s lb pb SP SQ) w w5 := (up1).trans (u5.mono fun i _ h => .inl h)
    have g5 := hp5
    have R5 := (R1).upd u5 (fun e => hDn D (.inl e) rfl)
    clear c1 c3 x0 x1 x2 x3
    have y0 := R5.cell (i := 0) rfl
    have f0 := R5.frozen 0
    have y1 := R5.cell (i := 1) rfl
    have f1 := R5.frozen 1
    have y2 := R5.cell (i := 2) rfl
    have f2 := R5.frozen 2
    have y3 := R5.cell (i := 3) rfl
    have f3 := R5.frozen 3
    go_wp2_with fail
    obtain ⟨w8, hw8, RE, UE⟩ := did_end R5 (.int .i64 2) (.bool false) (.bool false) (.bool false)
    rw [hw8]
    have e0 := RE.cell (i := 0) rfl
    have e1 := RE.cell (i := 1) rfl
    have e2 := RE.cell (i := 2) rfl
    have e3 := RE.cell (i := 3) rfl
    refine bodyPost_ret (v := didv (2, false, false, false)) (by simp [results, Try.results41, go_sem, didv, e0, e1, e2, e3]) rfl ?_
    have E : lockS k tl c st t a late = ((2, false, false, false), { st with ws := Mem.put st.ws nv 2, ts := Cache.after k st.ws.length st.ts a (nv) true }) := by
      unfold lockS; rw [HX.out]; dsimp only; rw [if_neg (show ¬ ((7 : Int) = 0) by decide), if_neg (show ¬ ((7 : Int) = 1) by decide), if_neg (show ¬ ((7 : Int) = 2) by decide), if_neg (show ¬ ((7 : Int) = 3) by decide), if_neg (show ¬ ((7 : Int) = 4) by decide), if_neg (show ¬ ((7 : Int) = 5) by decide), if_neg (show ¬ ((7 : Int) = 6) by decide), HNVnv.out, HCB.out, if_pos rfl]
    have A99 := A5.keep UE (fun i hi e => hDn i (.inr hi) e)
    rw [E]
    exact ⟨rfl, ⟨A99, g5.keep UE (fun i hi e => hDn i (.inl hi) e), Nat.le_trans (Cache.after_len _ _ _ _ _ _) (by have := HFEW.out; omega), hsep⟩, up5.then UE (fun i hi e => by have := HD.out; omega)⟩
  | false =>
    have HCB := Lib.hid hcb
    clear hcb
    have KA := Port.casP W p SP k st.ws hs st.ts g1 (by have := HFEW.out; omega) a (nv) 0 2 (by decide) (by decide)
    rw [HCB.out, if_neg (by decide)] at KA
    have HKA := Lib.hid KA
    clear KA
    go_enter Try.func41, Try.ntmps41
    go_upto_region 1 with (fail)
    rw [HW.out, HD.out]
    go_wp2_with fail
    refine HKNnv.out.mono ?_
    rintro e w' ⟨rfl, rfl⟩
    go_wp2_with fail
    refine HKA.out.mono ?_
    rintro e w5 ⟨rfl, hp5, u5⟩
    have A5 := h1.keep u5 hsep
    have up5 : Upd (ft l s lb pb SP SQ) w w5 := (up1).trans (u5.mono fun i _ h => .inl h)
    have g5 := hp5
    have R5 := (R1).upd u5 (fun e => hDn D (.inl e) rfl)
    clear c1 c3 x0 x1 x2 x3
    have y0 := R5.cell (i := 0) rfl
    have f0 := R5.frozen 0
    have y1 := R5.cell (i := 1) rfl
    have f1 := R5.frozen 1
    have y2 := R5.cell (i := 2) rfl
    have f2 := R5.frozen 2
    have y3 := R5.cell (i := 3) rfl
    have f3 := R5.frozen 3
    go_wp2_with fail
    obtain ⟨w8, hw8, RE, UE⟩ := did_end R5 (.int .i64 1) (.bool false) (.bool false) (.bool false)
    rw [hw8]
    have e0 := RE.cell (i := 0) rfl
    have e1 := RE.cell (i := 1) rfl
    have e2 := RE.cell (i := 2) rfl
    have e3 := RE.cell (i := 3) rfl
    refine bodyPost_ret (v := didv (1, false, false, false)) (by simp [results, Try.results41, go_sem, didv, e0, e1, e2, e3]) rfl ?_
    have E : lockS k tl c st t a late = ((1, false, false, false), { st with ts := Cache.after k st.ws.length st.ts a (nv) true }) := by
      unfold lockS; rw [HX.out]; dsimp only; rw [if_neg (show ¬ ((7 : Int) = 0) by decide), if_neg (show ¬ ((7 : Int) = 1) by decide), if_neg (show ¬ ((7 : Int) = 2) by decide), if_neg (show ¬ ((7 : Int) = 3) by decide), if_neg (show ¬ ((7 : Int) = 4) by decide), if_neg (show ¬ ((7 : Int) = 5) by decide), if_neg (show ¬ ((7 : Int) = 6) by decide), HNVnv.out, HCB.out, if_neg (by decide)]
    have A99 := A5.keep UE (fun i hi e => hDn i (.inr hi) e)
    rw [E]
    exact ⟨rfl, ⟨A99, g5.keep UE (fun i hi e => hDn i (.inl hi) e), Nat.le_trans (Cache.after_len _ _ _ _ _ _) (by have := HFEW.out; omega), hsep⟩, up5.then UE (fun i hi e => by have := HD.out; omega)⟩
set_option maxHeartbeats 8000000 in
set_option maxRecDepth 20000 in
theorem unl0 {w : World} {b : Nat} {st : St} (h : O l s lb pb cap q SQ c p SP k hs tl w b st) (hb : b < 1000000) (t : Nat) (ht : t < st.seats.length) (a : Int) (h0 : (st.pls.getD t p0).s = 0) :
    Calls Try.prog 43 #[.pointer (some ⟨l, 0, none⟩), .pointer (some ⟨pb, t * 4, none⟩), .int .i64 a] w fun e w' =>
      e = .returned (.int .i64 (unlS k tl st t a).1) ∧ O l s lb pb cap q SQ c p SP k hs tl w' (b + 1) (unlS k tl st t a).2 ∧ Upd (ft l s lb pb SP SQ) w w' := by
  obtain ⟨ha, hp, hf, hsep⟩ := h
  obtain ⟨W, rfl⟩ : ∃ W, W = w := ⟨_, rfl⟩
  have h1 := ha
  have g1 := hp
  have up1 : Upd (ft l s lb pb SP SQ) W W := Upd.refl _ _
  have tl0 := h1.tl0
  have c8 := h1.c8
  obtain ⟨⟨xs, xr, xn, xo⟩, hx⟩ : ∃ y, st.pls.getD t p0 = y := ⟨_, rfl⟩
  have hok := h1.ok t (by rw [h1.l1]; exact ht)
  have HFEW := Lib.hid hf
  have htp : t < st.pls.length := by rw [h1.l1]; exact ht
  rw [hx] at hok h0
  obtain ⟨o1, o2, o3, o4⟩ := hok
  dsimp only at o1 o2 o3 o4 h0
  subst h0
  have c1 := h1.top.cell (i := 1) rfl
  have c3 := h1.top.cell (i := 3) rfl
  have x0 := h1.cell ht 0 (by decide) _ rfl
  have x1 := h1.cell ht 1 (by decide) _ rfl
  have x2 := h1.cell ht 2 (by decide) _ rfl
  have x3 := h1.cell ht 3 (by decide) _ rfl
  rw [hx] at x0 x1 x2 x3
  rw [Nat.add_zero] at x0
  dsimp only at x0 x1 x2 x3
  have HX := Lib.hid hx
  have HSP : Hid (∀ i, SP i → i ≠ pb) := Lib.hid fun i hi e => hsep pb fa_pb (e ▸ hi)
  clear hx hf
  have KNnv := stC (W) c3 tl0 xn o3
  obtain ⟨nv, hnvnv⟩ : ∃ nv, stA tl xn = nv := ⟨_, rfl⟩
  have hnrnv : -2 ≤ nv ∧ nv ≤ 20000000000 := by rw [← hnvnv]; unfold stA; omega
  have HNVnv := Lib.hid hnvnv
  rw [hnvnv] at KNnv
  have HKNnv := Lib.hid KNnv
  clear KNnv hnvnv
  have hu1nv : IntKind.i64.wrap (nv + 1) = nv + 1 := IntWalk.i64_in _ (by omega)
  have hu2nv : IntKind.i64.wrap (nv + 2) = nv + 2 := IntWalk.i64_in _ (by omega)
  obtain ⟨gg, hg⟩ : ∃ y, rd k st.ws a (nv + 1) = y := ⟨_, rfl⟩
  have hgw := rd_wd g1.wd k a (nv + 1)
  rw [hg] at hgw
  have hgi : IntKind.i64.wrap gg = gg := IntWalk.i64_in _ (by omega)
  have KA := Port.loadP W p SP k st.ws hs st.ts g1 (by have := HFEW.out; omega) a (nv + 1)
  rw [show (if Mem.inB a k = true then Mem.get st.ws (nv + 1) else 0) = gg from hg] at KA
  have HKA := Lib.hid KA
  clear KA
  go_enter Try.func43, Try.ntmps43
  go_wp2_with fail
  refine HKNnv.out.mono ?_
  rintro e w' ⟨rfl, rfl⟩
  go_wp2_with fail
  refine HKA.out.mono ?_
  rintro e w5 ⟨rfl, hp5, u5⟩
  have A5 := h1.keep u5 hsep
  have up5 : Upd (ft l s lb pb SP SQ) W w5 := (up1).trans (u5.mono fun i _ h => .inl h)
  have g5 := hp5
  clear c1 c3 x0 x1 x2 x3
  have v3 := A5.cell ht 3 (by decide) _ rfl
  have fv3 := A5.plc.frozen (t * 4 + 3)
  rw [HX.out] at v3
  dsimp only at v3
  have A6 := A5.setP ht 3 (by decide) (.int .i64 gg) ⟨0, xr, xn, gg⟩ (by rw [HX.out]; rfl) ⟨o1, o2, o3, hgw⟩
  have U6 := Upd.one w5 pb (t * 4 + 3) (.int .i64 gg)
  have g6 := g5.keep U6 (fun i hi e => HSP.out i hi e)
  have up6 := up5.trans (U6.mono fun i _ e => (by rw [e]; exact ft_pb : ft l s lb pb SP SQ i))
  go_upto_region 6 with (fail)
  obtain ⟨w6, hw6⟩ : ∃ w', w5.setCell ⟨pb, t * 4 + 3, none⟩ (.int .i64 gg) = w' := ⟨_, rfl⟩
  rw [hw6] at A6 g6 up6 ⊢
  clear hw6 v3 fv3 U6 A5 g5 up5
  have HX6 := Lib.hid (show (st.pls.set t ⟨0, xr, xn, gg⟩).getD t p0 = ⟨0, xr, xn, gg⟩ by rw [pl_set _ _ htp, if_pos rfl])
  have x3 := A6.cell ht 3 (by decide) _ rfl
  have x0 := A6.cell ht 0 (by decide) _ rfl
  rw [HX6.out] at x3 x0
  rw [Nat.add_zero] at x0
  dsimp only at x3 x0
  by_cases hg0 : gg = 0
  · subst hg0
    have v0 := A6.cell ht 0 (by decide) _ rfl
    have fv0 := A6.plc.frozen (t * 4)
    rw [HX6.out] at v0
    dsimp only at v0
    rw [Nat.add_zero] at v0
    have A7 := A6.setP ht 0 (by decide) (.int .i64 1) ⟨1, xr, xn, 0⟩ (by rw [HX6.out]; rfl) ⟨(show (0 : Int) ≤ 1 ∧ (1 : Int) ≤ 7 by decide), o2, o3, hgw⟩
    rw [Nat.add_zero] at A7
    have U7 := Upd.one w6 pb (t * 4) (.int .i64 1)
    have g7 := g6.keep U7 (fun i hi e => HSP.out i hi e)
    have up7 := up6.trans (U7.mono fun i _ e => (by rw [e]; exact ft_pb : ft l s lb pb SP SQ i))
    go_upto_region 24 with (fail)
    obtain ⟨w7, hw7⟩ : ∃ w', w6.setCell ⟨pb, t * 4, none⟩ (.int .i64 1) = w' := ⟨_, rfl⟩
    rw [hw7] at A7 g7 up7 ⊢
    clear hw7 v0 fv0 U7 A6 g6 up6 x3 x0
    go_wp2_with fail
    go_ret
    have E : unlS k tl st t a = (0, { st with pls := st.pls.set t ⟨1, xr, xn, 0⟩, ts := Cache.after k st.ws.length st.ts a (nv + 1) false }) := by
      unfold unlS; rw [HX.out]; dsimp only; rw [if_pos (show (0 : Int) = 0 ∨ (0 : Int) = 2 by decide), HNVnv.out, hg, if_neg (by decide), if_pos rfl]
    have A99 := A7
    rw [List.set_set] at A99
    rw [E]
    exact ⟨rfl, ⟨A99, g7, Nat.le_trans (Cache.after_len _ _ _ _ _ _) (by have := HFEW.out; omega), hsep⟩, up7⟩
  · have hg0' : (gg != 0) = true := by simpa using hg0
    have v0 := A6.cell ht 0 (by decide) _ rfl
    have fv0 := A6.plc.frozen (t * 4)
    rw [HX6.out] at v0
    dsimp only at v0
    rw [Nat.add_zero] at v0
    have A7 := A6.setP ht 0 (by decide) (.int .i64 3) ⟨3, xr, xn, gg⟩ (by rw [HX6.out]; rfl) ⟨(show (0 : Int) ≤ 3 ∧ (3 : Int) ≤ 7 by decide), o2, o3, hgw⟩
    rw [Nat.add_zero] at A7
    have U7 := Upd.one w6 pb (t * 4) (.int .i64 3)
    have g7 := g6.keep U7 (fun i hi e => HSP.out i hi e)
    have up7 := up6.trans (U7.mono fun i _ e => (by rw [e]; exact ft_pb : ft l s lb pb SP SQ i))
    go_upto_region 24 with (fail)
    obtain ⟨w7, hw7⟩ : ∃ w', w6.setCell ⟨pb, t * 4, none⟩ (.int .i64 3) = w' := ⟨_, rfl⟩
    rw [hw7] at A7 g7 up7 ⊢
    clear hw7 v0 fv0 U7 A6 g6 up6 x3 x0
    go_wp2_with fail
    go_ret
    have E : unlS k tl st t a = (0, { st with pls := st.pls.set t ⟨3, xr, xn, gg⟩, ts := Cache.after k st.ws.length st.ts a (nv + 1) false }) := by
      unfold unlS; rw [HX.out]; dsimp only; rw [if_pos (show (0 : Int) = 0 ∨ (0 : Int) = 2 by decide), HNVnv.out, hg, if_pos hg0]
    have A99 := A7
    rw [List.set_set] at A99
    rw [E]
    exact ⟨rfl, ⟨A99, g7, Nat.le_trans (Cache.after_len _ _ _ _ _ _) (by have := HFEW.out; omega), hsep⟩, up7⟩
set_option maxHeartbeats 8000000 in
set_option maxRecDepth 20000 in
theorem unl1 {w : World} {b : Nat} {st : St} (h : O l s lb pb cap q SQ c p SP k hs tl w b st) (hb : b < 1000000) (t : Nat) (ht : t < st.seats.length) (a : Int) (h0 : (st.pls.getD t p0).s = 1) :
    Calls Try.prog 43 #[.pointer (some ⟨l, 0, none⟩), .pointer (some ⟨pb, t * 4, none⟩), .int .i64 a] w fun e w' =>
      e = .returned (.int .i64 (unlS k tl st t a).1) ∧ O l s lb pb cap q SQ c p SP k hs tl w' (b + 1) (unlS k tl st t a).2 ∧ Upd (ft l s lb pb SP SQ) w w' := by
  obtain ⟨ha, hp, hf, hsep⟩ := h
  obtain ⟨W, rfl⟩ : ∃ W, W = w := ⟨_, rfl⟩
  have h1 := ha
  have g1 := hp
  have up1 : Upd (ft l s lb pb SP SQ) W W := Upd.refl _ _
  have tl0 := h1.tl0
  have c8 := h1.c8
  obtain ⟨⟨xs, xr, xn, xo⟩, hx⟩ : ∃ y, st.pls.getD t p0 = y := ⟨_, rfl⟩
  have hok := h1.ok t (by rw [h1.l1]; exact ht)
  have HFEW := Lib.hid hf
  have htp : t < st.pls.length := by rw [h1.l1]; exact ht
  rw [hx] at hok h0
  obtain ⟨o1, o2, o3, o4⟩ := hok
  dsimp only at o1 o2 o3 o4 h0
  subst h0
  have c1 := h1.top.cell (i := 1) rfl
  have c3 := h1.top.cell (i := 3) rfl
  have x0 := h1.cell ht 0 (by decide) _ rfl
  have x1 := h1.cell ht 1 (by decide) _ rfl
  have x2 := h1.cell ht 2 (by decide) _ rfl
  have x3 := h1.cell ht 3 (by decide) _ rfl
  rw [hx] at x0 x1 x2 x3
  rw [Nat.add_zero] at x0
  dsimp only at x0 x1 x2 x3
  have HX := Lib.hid hx
  have HSP : Hid (∀ i, SP i → i ≠ pb) := Lib.hid fun i hi e => hsep pb fa_pb (e ▸ hi)
  clear hx hf
  have KNnv := stC (W) c3 tl0 xn o3
  obtain ⟨nv, hnvnv⟩ : ∃ nv, stA tl xn = nv := ⟨_, rfl⟩
  have hnrnv : -2 ≤ nv ∧ nv ≤ 20000000000 := by rw [← hnvnv]; unfold stA; omega
  have HNVnv := Lib.hid hnvnv
  rw [hnvnv] at KNnv
  have HKNnv := Lib.hid KNnv
  clear KNnv hnvnv
  have hu1nv : IntKind.i64.wrap (nv + 1) = nv + 1 := IntWalk.i64_in _ (by omega)
  have hu2nv : IntKind.i64.wrap (nv + 2) = nv + 2 := IntWalk.i64_in _ (by omega)
  have hu3 : IntKind.u32.wrap xn = xn := by rw [show IntKind.u32.wrap xn = xn % 4294967296 from rfl]; omega
  obtain ⟨cb, hcb⟩ : ∃ y, (Mem.inB a k && Mem.casB st.ws (tl) xn) = y := ⟨_, rfl⟩
  cases cb with
  | true =>
    have HCB := Lib.hid hcb
    clear hcb
    go_enter Try.func43, Try.ntmps43
    go_wp2_with fail
    refine HKNnv.out.mono ?_
    rintro e w' ⟨rfl, rfl⟩
    obtain ⟨w1, rfl⟩ : ∃ w1, w1 = W := ⟨_, rfl⟩
    have A1 := h1
    clear HKNnv h1
    have v0 := A1.cell ht 0 (by decide) _ rfl
    have fv0 := A1.plc.frozen (t * 4)
    rw [HX.out] at v0
    dsimp only at v0
    rw [Nat.add_zero] at v0
    have A2 := A1.setP ht 0 (by decide) (.int .i64 2) ⟨2, xr, xn, xo⟩ (by rw [HX.out]; rfl) ⟨(show (0 : Int) ≤ 2 ∧ (2 : Int) ≤ 7 by decide), o2, o3, o4⟩
    rw [Nat.add_zero] at A2
    have U2 := Upd.one w1 pb (t * 4) (.int .i64 2)
    have g2 := g1.keep U2 (fun i hi e => HSP.out i hi e)
    have up2 := up1.trans (U2.mono fun i _ e => (by rw [e]; exact ft_pb : ft l s lb pb SP SQ i))
    go_upto_region 12 with (fail)
    obtain ⟨w2, hw2⟩ : ∃ w', w1.setCell ⟨pb, t * 4, none⟩ (.int .i64 2) = w' := ⟨_, rfl⟩
    rw [hw2] at A2 g2 up2 ⊢
    clear hw2 v0 fv0 U2 A1 g1 up1 x0 x1 x2 x3 c1 c3
    have HX2 := Lib.hid (show (st.pls.set t ⟨2, xr, xn, xo⟩).getD t p0 = ⟨2, xr, xn, xo⟩ by rw [pl_set _ _ htp, if_pos rfl])
    have c1 := A2.top.cell (i := 1) rfl
    have c3 := A2.top.cell (i := 3) rfl
    have x2 := A2.cell ht 2 (by decide) _ rfl
    have x3 := A2.cell ht 3 (by decide) _ rfl
    rw [HX2.out] at x2 x3
    dsimp only at x2 x3
    have h2 := A2
    have KA := Port.casP w2.drew p SP k st.ws hs st.ts (g2.drewN 1) (by have := HFEW.out; omega) a (tl) xn 0 (by decide) (by decide)
    rw [HCB.out, if_pos rfl] at KA
    have HKA := Lib.hid KA
    clear KA
    go_wp2_with fail
    go_region_held3 (fun w' => w'.cell? ⟨l, 1, none⟩ = some (.pointer (some ⟨p, 0, none⟩)) ∧ w'.cell? ⟨l, 3, none⟩ = some (.int .i64 tl) ∧ w'.cell? ⟨pb, t * 4 + 2, none⟩ = some (.int .i64 xn)) ((first | exact ⟨c1, c3, x2⟩ | exact ⟨e1, e3, e2⟩))
      (((go_at_call 58; refine HKA.out.mono ?_; rintro e w5 ⟨rfl, hp5, u5⟩; have e1 := cell_upd u5 c1 (hsep l fa_l); have e2 := cell_upd u5 x2 (hsep pb fa_pb); have e3 := cell_upd u5 c3 (hsep l fa_l))))
    have A5 := (h2.keep ((Upd.refl (fun _ => False) w2).drewN 1) (fun _ _ => id)).keep u5 hsep
    have up5 : Upd (ft l s lb pb SP SQ) w1 w5 := (up2.drewN 1).trans (u5.mono fun i _ h => .inl h)
    have g5 := hp5
    clear e1 e2 e3 c1 c3 x2 x3 A2 g2 up2 h2
    have v0 := A5.cell ht 0 (by decide) _ rfl
    have fv0 := A5.plc.frozen (t * 4)
    rw [HX2.out] at v0
    dsimp only at v0
    rw [Nat.add_zero] at v0
    have A6 := A5.setP ht 0 (by decide) (.int .i64 5) ⟨5, xr, xn, xo⟩ (by rw [HX2.out]; rfl) ⟨(show (0 : Int) ≤ 5 ∧ (5 : Int) ≤ 7 by decide), o2, o3, o4⟩
    rw [Nat.add_zero] at A6
    have U6 := Upd.one w5 pb (t * 4) (.int .i64 5)
    have g6 := g5.keep U6 (fun i hi e => HSP.out i hi e)
    have up6 := up5.trans (U6.mono fun i _ e => (by rw [e]; exact ft_pb : ft l s lb pb SP SQ i))
    go_upto_region 24 with (fail)
    obtain ⟨w6, hw6⟩ : ∃ w', w5.setCell ⟨pb, t * 4, none⟩ (.int .i64 5) = w' := ⟨_, rfl⟩
    rw [hw6] at A6 g6 up6 ⊢
    clear hw6 v0 fv0 U6 A5 g5 up5
    go_wp2_with fail
    go_ret
    have E : unlS k tl st t a = (0, { st with pls := st.pls.set t ⟨5, xr, xn, xo⟩, ws := Mem.put st.ws (tl) 0, ts := Cache.after k st.ws.length st.ts a (tl) true }) := by
      unfold unlS; rw [HX.out]; dsimp only; rw [if_neg (show ¬ ((1 : Int) = 0 ∨ (1 : Int) = 2) by decide), if_pos rfl, HCB.out, if_pos rfl]
    have A99 := A6
    rw [List.set_set] at A99
    rw [E]
    exact ⟨rfl, ⟨A99, g6, Nat.le_trans (Cache.after_len _ _ _ _ _ _) (by have := HFEW.out; omega), hsep⟩, up6⟩
  | false =>
    have HCB := Lib.hid hcb
    clear hcb
    go_enter Try.func43, Try.ntmps43
    go_wp2_with fail
    refine HKNnv.out.mono ?_
    rintro e w' ⟨rfl, rfl⟩
    obtain ⟨w1, rfl⟩ : ∃ w1, w1 = W := ⟨_, rfl⟩
    have A1 := h1
    clear HKNnv h1
    have v0 := A1.cell ht 0 (by decide) _ rfl
    have fv0 := A1.plc.frozen (t * 4)
    rw [HX.out] at v0
    dsimp only at v0
    rw [Nat.add_zero] at v0
    have A2 := A1.setP ht 0 (by decide) (.int .i64 2) ⟨2, xr, xn, xo⟩ (by rw [HX.out]; rfl) ⟨(show (0 : Int) ≤ 2 ∧ (2 : Int) ≤ 7 by decide), o2, o3, o4⟩
    rw [Nat.add_zero] at A2
    have U2 := Upd.one w1 pb (t * 4) (.int .i64 2)
    have g2 := g1.keep U2 (fun i hi e => HSP.out i hi e)
    have up2 := up1.trans (U2.mono fun i _ e => (by rw [e]; exact ft_pb : ft l s lb pb SP SQ i))
    go_upto_region 12 with (fail)
    obtain ⟨w2, hw2⟩ : ∃ w', w1.setCell ⟨pb, t * 4, none⟩ (.int .i64 2) = w' := ⟨_, rfl⟩
    rw [hw2] at A2 g2 up2 ⊢
    clear hw2 v0 fv0 U2 A1 g1 up1 x0 x1 x2 x3 c1 c3
    have HX2 := Lib.hid (show (st.pls.set t ⟨2, xr, xn, xo⟩).getD t p0 = ⟨2, xr, xn, xo⟩ by rw [pl_set _ _ htp, if_pos rfl])
    have c1 := A2.top.cell (i := 1) rfl
    have c3 := A2.top.cell (i := 3) rfl
    have x2 := A2.cell ht 2 (by decide) _ rfl
    have x3 := A2.cell ht 3 (by decide) _ rfl
    rw [HX2.out] at x2 x3
    dsimp only at x2 x3
    have h2 := A2
    have KA := Port.casP w2.drew p SP k st.ws hs st.ts (g2.drewN 1) (by have := HFEW.out; omega) a (tl) xn 0 (by decide) (by decide)
    rw [HCB.out, if_neg (by decide)] at KA
    have HKA := Lib.hid KA
    clear KA
    go_wp2_with fail
    go_region_held3 (fun w' => w'.cell? ⟨l, 1, none⟩ = some (.pointer (some ⟨p, 0, none⟩)) ∧ w'.cell? ⟨l, 3, none⟩ = some (.int .i64 tl) ∧ w'.cell? ⟨pb, t * 4 + 2, none⟩ = some (.int .i64 xn)) ((first | exact ⟨c1, c3, x2⟩ | exact ⟨e1, e3, e2⟩))
      (((go_at_call 58; refine HKA.out.mono ?_; rintro e w5 ⟨rfl, hp5, u5⟩; have e1 := cell_upd u5 c1 (hsep l fa_l); have e2 := cell_upd u5 x2 (hsep pb fa_pb); have e3 := cell_upd u5 c3 (hsep l fa_l))))
    have A5 := (h2.keep ((Upd.refl (fun _ => False) w2).drewN 1) (fun _ _ => id)).keep u5 hsep
    have up5 : Upd (ft l s lb pb SP SQ) w1 w5 := (up2.drewN 1).trans (u5.mono fun i _ h => .inl h)
    have g5 := hp5
    clear e1 e2 e3 c1 c3 x2 x3 A2 g2 up2 h2
    go_wp2_with fail
    go_ret
    have E : unlS k tl st t a = (0, { st with pls := st.pls.set t ⟨2, xr, xn, xo⟩, ts := Cache.after k st.ws.length st.ts a (tl) true }) := by
      unfold unlS; rw [HX.out]; dsimp only; rw [if_neg (show ¬ ((1 : Int) = 0 ∨ (1 : Int) = 2) by decide), if_pos rfl, HCB.out, if_neg (by decide)]
    have A99 := A5
    rw [E]
    exact ⟨rfl, ⟨A99, g5, Nat.le_trans (Cache.after_len _ _ _ _ _ _) (by have := HFEW.out; omega), hsep⟩, up5⟩
set_option maxHeartbeats 8000000 in
set_option maxRecDepth 20000 in
theorem unl2 {w : World} {b : Nat} {st : St} (h : O l s lb pb cap q SQ c p SP k hs tl w b st) (hb : b < 1000000) (t : Nat) (ht : t < st.seats.length) (a : Int) (h0 : (st.pls.getD t p0).s = 2) :
    Calls Try.prog 43 #[.pointer (some ⟨l, 0, none⟩), .pointer (some ⟨pb, t * 4, none⟩), .int .i64 a] w fun e w' =>
      e = .returned (.int .i64 (unlS k tl st t a).1) ∧ O l s lb pb cap q SQ c p SP k hs tl w' (b + 1) (unlS k tl st t a).2 ∧ Upd (ft l s lb pb SP SQ) w w' := by
  obtain ⟨ha, hp, hf, hsep⟩ := h
  obtain ⟨W, rfl⟩ : ∃ W, W = w := ⟨_, rfl⟩
  have h1 := ha
  have g1 := hp
  have up1 : Upd (ft l s lb pb SP SQ) W W := Upd.refl _ _
  have tl0 := h1.tl0
  have c8 := h1.c8
  obtain ⟨⟨xs, xr, xn, xo⟩, hx⟩ : ∃ y, st.pls.getD t p0 = y := ⟨_, rfl⟩
  have hok := h1.ok t (by rw [h1.l1]; exact ht)
  have HFEW := Lib.hid hf
  have htp : t < st.pls.length := by rw [h1.l1]; exact ht
  rw [hx] at hok h0
  obtain ⟨o1, o2, o3, o4⟩ := hok
  dsimp only at o1 o2 o3 o4 h0
  subst h0
  have c1 := h1.top.cell (i := 1) rfl
  have c3 := h1.top.cell (i := 3) rfl
  have x0 := h1.cell ht 0 (by decide) _ rfl
  have x1 := h1.cell ht 1 (by decide) _ rfl
  have x2 := h1.cell ht 2 (by decide) _ rfl
  have x3 := h1.cell ht 3 (by decide) _ rfl
  rw [hx] at x0 x1 x2 x3
  rw [Nat.add_zero] at x0
  dsimp only at x0 x1 x2 x3
  have HX := Lib.hid hx
  have HSP : Hid (∀ i, SP i → i ≠ pb) := Lib.hid fun i hi e => hsep pb fa_pb (e ▸ hi)
  clear hx hf
  have KNnv := stC (W) c3 tl0 xn o3
  obtain ⟨nv, hnvnv⟩ : ∃ nv, stA tl xn = nv := ⟨_, rfl⟩
  have hnrnv : -2 ≤ nv ∧ nv ≤ 20000000000 := by rw [← hnvnv]; unfold stA; omega
  have HNVnv := Lib.hid hnvnv
  rw [hnvnv] at KNnv
  have HKNnv := Lib.hid KNnv
  clear KNnv hnvnv
  have hu1nv : IntKind.i64.wrap (nv + 1) = nv + 1 := IntWalk.i64_in _ (by omega)
  have hu2nv : IntKind.i64.wrap (nv + 2) = nv + 2 := IntWalk.i64_in _ (by omega)
  obtain ⟨gg, hg⟩ : ∃ y, rd k st.ws a (nv + 1) = y := ⟨_, rfl⟩
  have hgw := rd_wd g1.wd k a (nv + 1)
  rw [hg] at hgw
  have hgi : IntKind.i64.wrap gg = gg := IntWalk.i64_in _ (by omega)
  have KA := Port.loadP W p SP k st.ws hs st.ts g1 (by have := HFEW.out; omega) a (nv + 1)
  rw [show (if Mem.inB a k = true then Mem.get st.ws (nv + 1) else 0) = gg from hg] at KA
  have HKA := Lib.hid KA
  clear KA
  go_enter Try.func43, Try.ntmps43
  go_wp2_with fail
  refine HKNnv.out.mono ?_
  rintro e w' ⟨rfl, rfl⟩
  go_wp2_with fail
  refine HKA.out.mono ?_
  rintro e w5 ⟨rfl, hp5, u5⟩
  have A5 := h1.keep u5 hsep
  have up5 : Upd (ft l s lb pb SP SQ) W w5 := (up1).trans (u5.mono fun i _ h => .inl h)
  have g5 := hp5
  clear c1 c3 x0 x1 x2 x3
  have v3 := A5.cell ht 3 (by decide) _ rfl
  have fv3 := A5.plc.frozen (t * 4 + 3)
  rw [HX.out] at v3
  dsimp only at v3
  have A6 := A5.setP ht 3 (by decide) (.int .i64 gg) ⟨2, xr, xn, gg⟩ (by rw [HX.out]; rfl) ⟨o1, o2, o3, hgw⟩
  have U6 := Upd.one w5 pb (t * 4 + 3) (.int .i64 gg)
  have g6 := g5.keep U6 (fun i hi e => HSP.out i hi e)
  have up6 := up5.trans (U6.mono fun i _ e => (by rw [e]; exact ft_pb : ft l s lb pb SP SQ i))
  go_upto_region 6 with (fail)
  obtain ⟨w6, hw6⟩ : ∃ w', w5.setCell ⟨pb, t * 4 + 3, none⟩ (.int .i64 gg) = w' := ⟨_, rfl⟩
  rw [hw6] at A6 g6 up6 ⊢
  clear hw6 v3 fv3 U6 A5 g5 up5
  have HX6 := Lib.hid (show (st.pls.set t ⟨2, xr, xn, gg⟩).getD t p0 = ⟨2, xr, xn, gg⟩ by rw [pl_set _ _ htp, if_pos rfl])
  have x3 := A6.cell ht 3 (by decide) _ rfl
  have x0 := A6.cell ht 0 (by decide) _ rfl
  rw [HX6.out] at x3 x0
  rw [Nat.add_zero] at x0
  dsimp only at x3 x0
  by_cases hg0 : gg = 0
  · subst hg0
    go_wp2_with fail
    go_ret
    have E : unlS k tl st t a = (0, { st with pls := st.pls.set t ⟨2, xr, xn, 0⟩, ts := Cache.after k st.ws.length st.ts a (nv + 1) false }) := by
      unfold unlS; rw [HX.out]; dsimp only; rw [if_pos (show (2 : Int) = 0 ∨ (2 : Int) = 2 by decide), HNVnv.out, hg, if_neg (by decide), if_neg (by decide)]
    have A99 := A6
    rw [E]
    exact ⟨rfl, ⟨A99, g6, Nat.le_trans (Cache.after_len _ _ _ _ _ _) (by have := HFEW.out; omega), hsep⟩, up6⟩
  · have hg0' : (gg != 0) = true := by simpa using hg0
    have v0 := A6.cell ht 0 (by decide) _ rfl
    have fv0 := A6.plc.frozen (t * 4)
    rw [HX6.out] at v0
    dsimp only at v0
    rw [Nat.add_zero] at v0
    have A7 := A6.setP ht 0 (by decide) (.int .i64 3) ⟨3, xr, xn, gg⟩ (by rw [HX6.out]; rfl) ⟨(show (0 : Int) ≤ 3 ∧ (3 : Int) ≤ 7 by decide), o2, o3, hgw⟩
    rw [Nat.add_zero] at A7
    have U7 := Upd.one w6 pb (t * 4) (.int .i64 3)
    have g7 := g6.keep U7 (fun i hi e => HSP.out i hi e)
    have up7 := up6.trans (U7.mono fun i _ e => (by rw [e]; exact ft_pb : ft l s lb pb SP SQ i))
    go_upto_region 24 with (fail)
    obtain ⟨w7, hw7⟩ : ∃ w', w6.setCell ⟨pb, t * 4, none⟩ (.int .i64 3) = w' := ⟨_, rfl⟩
    rw [hw7] at A7 g7 up7 ⊢
    clear hw7 v0 fv0 U7 A6 g6 up6 x3 x0
    go_wp2_with fail
    go_ret
    have E : unlS k tl st t a = (0, { st with pls := st.pls.set t ⟨3, xr, xn, gg⟩, ts := Cache.after k st.ws.length st.ts a (nv + 1) false }) := by
      unfold unlS; rw [HX.out]; dsimp only; rw [if_pos (show (2 : Int) = 0 ∨ (2 : Int) = 2 by decide), HNVnv.out, hg, if_pos hg0]
    have A99 := A7
    rw [List.set_set] at A99
    rw [E]
    exact ⟨rfl, ⟨A99, g7, Nat.le_trans (Cache.after_len _ _ _ _ _ _) (by have := HFEW.out; omega), hsep⟩, up7⟩
set_option maxHeartbeats 8000000 in
set_option maxRecDepth 20000 in
theorem unl3 {w : World} {b : Nat} {st : St} (h : O l s lb pb cap q SQ c p SP k hs tl w b st) (hb : b < 1000000) (t : Nat) (ht : t < st.seats.length) (a : Int) (h0 : (st.pls.getD t p0).s = 3) :
    Calls Try.prog 43 #[.pointer (some ⟨l, 0, none⟩), .pointer (some ⟨pb, t * 4, none⟩), .int .i64 a] w fun e w' =>
      e = .returned (.int .i64 (unlS k tl st t a).1) ∧ O l s lb pb cap q SQ c p SP k hs tl w' (b + 1) (unlS k tl st t a).2 ∧ Upd (ft l s lb pb SP SQ) w w' := by
  obtain ⟨ha, hp, hf, hsep⟩ := h
  obtain ⟨W, rfl⟩ : ∃ W, W = w := ⟨_, rfl⟩
  have h1 := ha
  have g1 := hp
  have up1 : Upd (ft l s lb pb SP SQ) W W := Upd.refl _ _
  have tl0 := h1.tl0
  have c8 := h1.c8
  obtain ⟨⟨xs, xr, xn, xo⟩, hx⟩ : ∃ y, st.pls.getD t p0 = y := ⟨_, rfl⟩
  have hok := h1.ok t (by rw [h1.l1]; exact ht)
  have HFEW := Lib.hid hf
  have htp : t < st.pls.length := by rw [h1.l1]; exact ht
  rw [hx] at hok h0
  obtain ⟨o1, o2, o3, o4⟩ := hok
  dsimp only at o1 o2 o3 o4 h0
  subst h0
  have c1 := h1.top.cell (i := 1) rfl
  have c3 := h1.top.cell (i := 3) rfl
  have x0 := h1.cell ht 0 (by decide) _ rfl
  have x1 := h1.cell ht 1 (by decide) _ rfl
  have x2 := h1.cell ht 2 (by decide) _ rfl
  have x3 := h1.cell ht 3 (by decide) _ rfl
  rw [hx] at x0 x1 x2 x3
  rw [Nat.add_zero] at x0
  dsimp only at x0 x1 x2 x3
  have HX := Lib.hid hx
  have HSP : Hid (∀ i, SP i → i ≠ pb) := Lib.hid fun i hi e => hsep pb fa_pb (e ▸ hi)
  clear hx hf
  have KNnv := stC (W) c3 tl0 xn o3
  obtain ⟨nv, hnvnv⟩ : ∃ nv, stA tl xn = nv := ⟨_, rfl⟩
  have hnrnv : -2 ≤ nv ∧ nv ≤ 20000000000 := by rw [← hnvnv]; unfold stA; omega
  have HNVnv := Lib.hid hnvnv
  rw [hnvnv] at KNnv
  have HKNnv := Lib.hid KNnv
  clear KNnv hnvnv
  have hu1nv : IntKind.i64.wrap (nv + 1) = nv + 1 := IntWalk.i64_in _ (by omega)
  have hu2nv : IntKind.i64.wrap (nv + 2) = nv + 2 := IntWalk.i64_in _ (by omega)
  have KNno := stC (W) c3 tl0 xo o4
  obtain ⟨no, hnvno⟩ : ∃ nv, stA tl xo = nv := ⟨_, rfl⟩
  have hnrno : -2 ≤ no ∧ no ≤ 20000000000 := by rw [← hnvno]; unfold stA; omega
  have HNVno := Lib.hid hnvno
  rw [hnvno] at KNno
  clear KNno hnvno
  have hu1no : IntKind.i64.wrap (no + 1) = no + 1 := IntWalk.i64_in _ (by omega)
  have hu2no : IntKind.i64.wrap (no + 2) = no + 2 := IntWalk.i64_in _ (by omega)
  obtain ⟨cb, hcb⟩ : ∃ y, (Mem.inB a k && Mem.casB st.ws (no) 0) = y := ⟨_, rfl⟩
  cases cb with
  | true =>
    have HCB := Lib.hid hcb
    clear hcb
    go_enter Try.func43, Try.ntmps43
    go_wp2_with fail
    refine HKNnv.out.mono ?_
    rintro e w' ⟨rfl, rfl⟩
    obtain ⟨w1, rfl⟩ : ∃ w1, w1 = W := ⟨_, rfl⟩
    have A1 := h1
    clear HKNnv h1
    have v0 := A1.cell ht 0 (by decide) _ rfl
    have fv0 := A1.plc.frozen (t * 4)
    rw [HX.out] at v0
    dsimp only at v0
    rw [Nat.add_zero] at v0
    have A2 := A1.setP ht 0 (by decide) (.int .i64 4) ⟨4, xr, xn, xo⟩ (by rw [HX.out]; rfl) ⟨(show (0 : Int) ≤ 4 ∧ (4 : Int) ≤ 7 by decide), o2, o3, o4⟩
    rw [Nat.add_zero] at A2
    have U2 := Upd.one w1 pb (t * 4) (.int .i64 4)
    have g2 := g1.keep U2 (fun i hi e => HSP.out i hi e)
    have up2 := up1.trans (U2.mono fun i _ e => (by rw [e]; exact ft_pb : ft l s lb pb SP SQ i))
    go_upto_region 16 with (fail)
    obtain ⟨w2, hw2⟩ : ∃ w', w1.setCell ⟨pb, t * 4, none⟩ (.int .i64 4) = w' := ⟨_, rfl⟩
    rw [hw2] at A2 g2 up2 ⊢
    clear hw2 v0 fv0 U2 A1 g1 up1 x0 x1 x2 x3 c1 c3
    have HX2 := Lib.hid (show (st.pls.set t ⟨4, xr, xn, xo⟩).getD t p0 = ⟨4, xr, xn, xo⟩ by rw [pl_set _ _ htp, if_pos rfl])
    have c1 := A2.top.cell (i := 1) rfl
    have c3 := A2.top.cell (i := 3) rfl
    have x2 := A2.cell ht 2 (by decide) _ rfl
    have x3 := A2.cell ht 3 (by decide) _ rfl
    rw [HX2.out] at x2 x3
    dsimp only at x2 x3
    have h2 := A2
    have KNo := stC w2.drew c3 tl0 xo o4
    rw [HNVno.out] at KNo
    have HKNo := Lib.hid KNo
    clear KNo
    have KA := Port.casP w2.drew p SP k st.ws hs st.ts (g2.drewN 1) (by have := HFEW.out; omega) a (no) 0 1 (by decide) (by decide)
    rw [HCB.out, if_pos rfl] at KA
    have HKA := Lib.hid KA
    clear KA
    go_wp2_with fail
    go_region_held3 (fun w' => w'.cell? ⟨l, 1, none⟩ = some (.pointer (some ⟨p, 0, none⟩)) ∧ w'.cell? ⟨pb, t * 4 + 3, none⟩ = some (.int .i64 xo)) ((first | exact ⟨c1, x3⟩ | exact ⟨e1, e2⟩))
      ((first
        | (go_at_call 46; refine HKNo.out.mono ?_; rintro e w' ⟨rfl, rfl⟩)
        | (go_at_call 58; refine HKA.out.mono ?_; rintro e w5 ⟨rfl, hp5, u5⟩; have e1 := cell_upd u5 c1 (hsep l fa_l); have e2 := cell_upd u5 x3 (hsep pb fa_pb))))
    have A5 := (h2.keep ((Upd.refl (fun _ => False) w2).drewN 1) (fun _ _ => id)).keep u5 hsep
    have up5 : Upd (ft l s lb pb SP SQ) w1 w5 := (up2.drewN 1).trans (u5.mono fun i _ h => .inl h)
    have g5 := hp5
    clear e1 e2 c1 c3 x2 x3 A2 g2 up2 h2
    have v0 := A5.cell ht 0 (by decide) _ rfl
    have fv0 := A5.plc.frozen (t * 4)
    rw [HX2.out] at v0
    dsimp only at v0
    rw [Nat.add_zero] at v0
    have A6 := A5.setP ht 0 (by decide) (.int .i64 5) ⟨5, xr, xn, xo⟩ (by rw [HX2.out]; rfl) ⟨(show (0 : Int) ≤ 5 ∧ (5 : Int) ≤ 7 by decide), o2, o3, o4⟩
    rw [Nat.add_zero] at A6
    have U6 := Upd.one w5 pb (t * 4) (.int .i64 5)
    have g6 := g5.keep U6 (fun i hi e => HSP.out i hi e)
    have up6 := up5.trans (U6.mono fun i _ e => (by rw [e]; exact ft_pb : ft l s lb pb SP SQ i))
    go_upto_region 24 with (fail)
    obtain ⟨w6, hw6⟩ : ∃ w', w5.setCell ⟨pb, t * 4, none⟩ (.int .i64 5) = w' := ⟨_, rfl⟩
    rw [hw6] at A6 g6 up6 ⊢
    clear hw6 v0 fv0 U6 A5 g5 up5
    go_wp2_with fail
    go_ret
    have E : unlS k tl st t a = (0, { st with pls := st.pls.set t ⟨5, xr, xn, xo⟩, ws := Mem.put st.ws (no) 1, ts := Cache.after k st.ws.length st.ts a (no) true }) := by
      unfold unlS; rw [HX.out]; dsimp only; rw [if_neg (show ¬ ((3 : Int) = 0 ∨ (3 : Int) = 2) by decide), if_neg (show ¬ ((3 : Int) = 1) by decide), if_pos rfl, HNVno.out, HCB.out, if_pos rfl]
    have A99 := A6
    rw [List.set_set] at A99
    rw [E]
    exact ⟨rfl, ⟨A99, g6, Nat.le_trans (Cache.after_len _ _ _ _ _ _) (by have := HFEW.out; omega), hsep⟩, up6⟩
  | false =>
    have HCB := Lib.hid hcb
    clear hcb
    go_enter Try.func43, Try.ntmps43
    go_wp2_with fail
    refine HKNnv.out.mono ?_
    rintro e w' ⟨rfl, rfl⟩
    obtain ⟨w1, rfl⟩ : ∃ w1, w1 = W := ⟨_, rfl⟩
    have A1 := h1
    clear HKNnv h1
    have v0 := A1.cell ht 0 (by decide) _ rfl
    have fv0 := A1.plc.frozen (t * 4)
    rw [HX.out] at v0
    dsimp only at v0
    rw [Nat.add_zero] at v0
    have A2 := A1.setP ht 0 (by decide) (.int .i64 4) ⟨4, xr, xn, xo⟩ (by rw [HX.out]; rfl) ⟨(show (0 : Int) ≤ 4 ∧ (4 : Int) ≤ 7 by decide), o2, o3, o4⟩
    rw [Nat.add_zero] at A2
    have U2 := Upd.one w1 pb (t * 4) (.int .i64 4)
    have g2 := g1.keep U2 (fun i hi e => HSP.out i hi e)
    have up2 := up1.trans (U2.mono fun i _ e => (by rw [e]; exact ft_pb : ft l s lb pb SP SQ i))
    go_upto_region 16 with (fail)
    obtain ⟨w2, hw2⟩ : ∃ w', w1.setCell ⟨pb, t * 4, none⟩ (.int .i64 4) = w' := ⟨_, rfl⟩
    rw [hw2] at A2 g2 up2 ⊢
    clear hw2 v0 fv0 U2 A1 g1 up1 x0 x1 x2 x3 c1 c3
    have HX2 := Lib.hid (show (st.pls.set t ⟨4, xr, xn, xo⟩).getD t p0 = ⟨4, xr, xn, xo⟩ by rw [pl_set _ _ htp, if_pos rfl])
    have c1 := A2.top.cell (i := 1) rfl
    have c3 := A2.top.cell (i := 3) rfl
    have x2 := A2.cell ht 2 (by decide) _ rfl
    have x3 := A2.cell ht 3 (by decide) _ rfl
    rw [HX2.out] at x2 x3
    dsimp only at x2 x3
    have h2 := A2
    have KNo := stC w2.drew c3 tl0 xo o4
    rw [HNVno.out] at KNo
    have HKNo := Lib.hid KNo
    clear KNo
    have KA := Port.casP w2.drew p SP k st.ws hs st.ts (g2.drewN 1) (by have := HFEW.out; omega) a (no) 0 1 (by decide) (by decide)
    rw [HCB.out, if_neg (by decide)] at KA
    have HKA := Lib.hid KA
    clear KA
    go_wp2_with fail
    go_region_held3 (fun w' => w'.cell? ⟨l, 1, none⟩ = some (.pointer (some ⟨p, 0, none⟩)) ∧ w'.cell? ⟨pb, t * 4 + 3, none⟩ = some (.int .i64 xo)) ((first | exact ⟨c1, x3⟩ | exact ⟨e1, e2⟩))
      ((first
        | (go_at_call 46; refine HKNo.out.mono ?_; rintro e w' ⟨rfl, rfl⟩)
        | (go_at_call 58; refine HKA.out.mono ?_; rintro e w5 ⟨rfl, hp5, u5⟩; have e1 := cell_upd u5 c1 (hsep l fa_l); have e2 := cell_upd u5 x3 (hsep pb fa_pb))))
    have A5 := (h2.keep ((Upd.refl (fun _ => False) w2).drewN 1) (fun _ _ => id)).keep u5 hsep
    have up5 : Upd (ft l s lb pb SP SQ) w1 w5 := (up2.drewN 1).trans (u5.mono fun i _ h => .inl h)
    have g5 := hp5
    clear e1 e2 c1 c3 x2 x3 A2 g2 up2 h2
    go_wp2_with fail
    go_ret
    have E : unlS k tl st t a = (0, { st with pls := st.pls.set t ⟨4, xr, xn, xo⟩, ts := Cache.after k st.ws.length st.ts a (no) true }) := by
      unfold unlS; rw [HX.out]; dsimp only; rw [if_neg (show ¬ ((3 : Int) = 0 ∨ (3 : Int) = 2) by decide), if_neg (show ¬ ((3 : Int) = 1) by decide), if_pos rfl, HNVno.out, HCB.out, if_neg (by decide)]
    have A99 := A5
    rw [E]
    exact ⟨rfl, ⟨A99, g5, Nat.le_trans (Cache.after_len _ _ _ _ _ _) (by have := HFEW.out; omega), hsep⟩, up5⟩
set_option maxHeartbeats 8000000 in
set_option maxRecDepth 20000 in
theorem unl4 {w : World} {b : Nat} {st : St} (h : O l s lb pb cap q SQ c p SP k hs tl w b st) (hb : b < 1000000) (t : Nat) (ht : t < st.seats.length) (a : Int) (h0 : (st.pls.getD t p0).s = 4) :
    Calls Try.prog 43 #[.pointer (some ⟨l, 0, none⟩), .pointer (some ⟨pb, t * 4, none⟩), .int .i64 a] w fun e w' =>
      e = .returned (.int .i64 (unlS k tl st t a).1) ∧ O l s lb pb cap q SQ c p SP k hs tl w' (b + 1) (unlS k tl st t a).2 ∧ Upd (ft l s lb pb SP SQ) w w' := by
  obtain ⟨ha, hp, hf, hsep⟩ := h
  obtain ⟨W, rfl⟩ : ∃ W, W = w := ⟨_, rfl⟩
  have h1 := ha
  have g1 := hp
  have up1 : Upd (ft l s lb pb SP SQ) W W := Upd.refl _ _
  have tl0 := h1.tl0
  have c8 := h1.c8
  obtain ⟨⟨xs, xr, xn, xo⟩, hx⟩ : ∃ y, st.pls.getD t p0 = y := ⟨_, rfl⟩
  have hok := h1.ok t (by rw [h1.l1]; exact ht)
  have HFEW := Lib.hid hf
  have htp : t < st.pls.length := by rw [h1.l1]; exact ht
  rw [hx] at hok h0
  obtain ⟨o1, o2, o3, o4⟩ := hok
  dsimp only at o1 o2 o3 o4 h0
  subst h0
  have c1 := h1.top.cell (i := 1) rfl
  have c3 := h1.top.cell (i := 3) rfl
  have x0 := h1.cell ht 0 (by decide) _ rfl
  have x1 := h1.cell ht 1 (by decide) _ rfl
  have x2 := h1.cell ht 2 (by decide) _ rfl
  have x3 := h1.cell ht 3 (by decide) _ rfl
  rw [hx] at x0 x1 x2 x3
  rw [Nat.add_zero] at x0
  dsimp only at x0 x1 x2 x3
  have HX := Lib.hid hx
  have HSP : Hid (∀ i, SP i → i ≠ pb) := Lib.hid fun i hi e => hsep pb fa_pb (e ▸ hi)
  clear hx hf
  have KNnv := stC (W) c3 tl0 xn o3
  obtain ⟨nv, hnvnv⟩ : ∃ nv, stA tl xn = nv := ⟨_, rfl⟩
  have hnrnv : -2 ≤ nv ∧ nv ≤ 20000000000 := by rw [← hnvnv]; unfold stA; omega
  have HNVnv := Lib.hid hnvnv
  rw [hnvnv] at KNnv
  have HKNnv := Lib.hid KNnv
  clear KNnv hnvnv
  have hu1nv : IntKind.i64.wrap (nv + 1) = nv + 1 := IntWalk.i64_in _ (by omega)
  have hu2nv : IntKind.i64.wrap (nv + 2) = nv + 2 := IntWalk.i64_in _ (by omega)
  have KA := Port.storeP W p SP k st.ws hs st.ts g1 (by have := HFEW.out; omega) a (nv + 2) 0 (by decide) (by decide)
  have HKA := Lib.hid KA
  clear KA
  go_enter Try.func43, Try.ntmps43
  go_wp2_with fail
  refine HKNnv.out.mono ?_
  rintro e w' ⟨rfl, rfl⟩
  go_wp2_with fail
  refine HKA.out.mono ?_
  rintro e w5 ⟨rfl, hp5, u5⟩
  have A5 := h1.keep u5 hsep
  have up5 : Upd (ft l s lb pb SP SQ) W w5 := (up1).trans (u5.mono fun i _ h => .inl h)
  have g5 := hp5
  clear c1 c3 x0 x1 x2 x3
  have v0 := A5.cell ht 0 (by decide) _ rfl
  have v1 := A5.cell ht 1 (by decide) _ rfl
  have v2 := A5.cell ht 2 (by decide) _ rfl
  have v3 := A5.cell ht 3 (by decide) _ rfl
  have fv0 := A5.plc.frozen (t * 4)
  have fv1 := A5.plc.frozen (t * 4 + 1)
  have fv2 := A5.plc.frozen (t * 4 + 2)
  have fv3 := A5.plc.frozen (t * 4 + 3)
  rw [HX.out] at v0 v1 v2 v3
  rw [Nat.add_zero] at v0
  dsimp only at v0 v1 v2 v3
  have A6 := A5.setP ht 0 (by decide) (.int .i64 0) ⟨0, xr, xn, xo⟩ (by rw [HX.out]; rfl) ⟨(show (0 : Int) ≤ 0 ∧ (0 : Int) ≤ 7 by decide), o2, o3, o4⟩
  rw [Nat.add_zero] at A6
  have A7 := A6.setP ht 1 (by decide) (.int .i64 0) ⟨0, 0, xn, xo⟩ (by rw [pl_set _ _ htp, if_pos rfl]; rfl) ⟨(show (0 : Int) ≤ 0 ∧ (0 : Int) ≤ 7 by decide), (show (0 : Int) ≤ 0 ∧ (0 : Int) ≤ 8 by decide), o3, o4⟩
  rw [List.set_set] at A7
  have A8 := A7.setP ht 2 (by decide) (.int .i64 xo) ⟨0, 0, xo, xo⟩ (by rw [pl_set _ _ htp, if_pos rfl]; rfl) ⟨(show (0 : Int) ≤ 0 ∧ (0 : Int) ≤ 7 by decide), (show (0 : Int) ≤ 0 ∧ (0 : Int) ≤ 8 by decide), o4, o4⟩
  rw [List.set_set] at A8
  have A9 := A8.setP ht 3 (by decide) (.int .i64 0) ⟨0, 0, xo, 0⟩ (by rw [pl_set _ _ htp, if_pos rfl]; rfl) ⟨(show (0 : Int) ≤ 0 ∧ (0 : Int) ≤ 7 by decide), (show (0 : Int) ≤ 0 ∧ (0 : Int) ≤ 8 by decide), o4, (show (0 : Int) ≤ 0 ∧ (0 : Int) < 4294967296 by decide)⟩
  rw [List.set_set] at A9
  have U9 := (((Upd.one w5 pb (t * 4) (.int .i64 0)).trans (Upd.one _ pb (t * 4 + 1) (.int .i64 0))).trans (Upd.one _ pb (t * 4 + 2) (.int .i64 xo))).trans (Upd.one _ pb (t * 4 + 3) (.int .i64 0))
  have g9 := g5.keep U9 (fun i hi e => HSP.out i hi e)
  have up9 := up5.trans (U9.mono fun i _ e => (by rw [e]; exact ft_pb : ft l s lb pb SP SQ i))
  go_wp2_with fail
  go_ret
  have E : unlS k tl st t a = (0, { st with pls := st.pls.set t ⟨0, 0, xo, 0⟩, ws := wrt k st.ws a (nv + 2) 0, ts := Cache.after k st.ws.length st.ts a (nv + 2) true }) := by
    unfold unlS; rw [HX.out]; dsimp only; rw [if_neg (show ¬ ((4 : Int) = 0 ∨ (4 : Int) = 2) by decide), if_neg (show ¬ ((4 : Int) = 1) by decide), if_neg (show ¬ ((4 : Int) = 3) by decide), if_pos rfl, HNVnv.out]
  have A99 := A9
  rw [E]
  exact ⟨rfl, ⟨A99, g9, Nat.le_trans (Cache.after_len _ _ _ _ _ _) (by have := HFEW.out; omega), hsep⟩, up9⟩
set_option maxHeartbeats 8000000 in
set_option maxRecDepth 20000 in
theorem unl5 {w : World} {b : Nat} {st : St} (h : O l s lb pb cap q SQ c p SP k hs tl w b st) (hb : b < 1000000) (t : Nat) (ht : t < st.seats.length) (a : Int) (h0 : (st.pls.getD t p0).s = 5) :
    Calls Try.prog 43 #[.pointer (some ⟨l, 0, none⟩), .pointer (some ⟨pb, t * 4, none⟩), .int .i64 a] w fun e w' =>
      e = .returned (.int .i64 (unlS k tl st t a).1) ∧ O l s lb pb cap q SQ c p SP k hs tl w' (b + 1) (unlS k tl st t a).2 ∧ Upd (ft l s lb pb SP SQ) w w' := by
  obtain ⟨ha, hp, hf, hsep⟩ := h
  obtain ⟨W, rfl⟩ : ∃ W, W = w := ⟨_, rfl⟩
  have h1 := ha
  have g1 := hp
  have up1 : Upd (ft l s lb pb SP SQ) W W := Upd.refl _ _
  have tl0 := h1.tl0
  have c8 := h1.c8
  obtain ⟨⟨xs, xr, xn, xo⟩, hx⟩ : ∃ y, st.pls.getD t p0 = y := ⟨_, rfl⟩
  have hok := h1.ok t (by rw [h1.l1]; exact ht)
  have HFEW := Lib.hid hf
  have htp : t < st.pls.length := by rw [h1.l1]; exact ht
  rw [hx] at hok h0
  obtain ⟨o1, o2, o3, o4⟩ := hok
  dsimp only at o1 o2 o3 o4 h0
  subst h0
  have c1 := h1.top.cell (i := 1) rfl
  have c3 := h1.top.cell (i := 3) rfl
  have x0 := h1.cell ht 0 (by decide) _ rfl
  have x1 := h1.cell ht 1 (by decide) _ rfl
  have x2 := h1.cell ht 2 (by decide) _ rfl
  have x3 := h1.cell ht 3 (by decide) _ rfl
  rw [hx] at x0 x1 x2 x3
  rw [Nat.add_zero] at x0
  dsimp only at x0 x1 x2 x3
  have HX := Lib.hid hx
  have HSP : Hid (∀ i, SP i → i ≠ pb) := Lib.hid fun i hi e => hsep pb fa_pb (e ▸ hi)
  clear hx hf
  have KNnv := stC (W) c3 tl0 xn o3
  obtain ⟨nv, hnvnv⟩ : ∃ nv, stA tl xn = nv := ⟨_, rfl⟩
  have hnrnv : -2 ≤ nv ∧ nv ≤ 20000000000 := by rw [← hnvnv]; unfold stA; omega
  have HNVnv := Lib.hid hnvnv
  rw [hnvnv] at KNnv
  have HKNnv := Lib.hid KNnv
  clear KNnv hnvnv
  have hu1nv : IntKind.i64.wrap (nv + 1) = nv + 1 := IntWalk.i64_in _ (by omega)
  have hu2nv : IntKind.i64.wrap (nv + 2) = nv + 2 := IntWalk.i64_in _ (by omega)
  have KA := Port.storeP W p SP k st.ws hs st.ts g1 (by have := HFEW.out; omega) a (nv + 2) 0 (by decide) (by decide)
  have HKA := Lib.hid KA
  clear KA
  go_enter Try.func43, Try.ntmps43
  go_wp2_with fail
  refine HKNnv.out.mono ?_
  rintro e w' ⟨rfl, rfl⟩
  go_wp2_with fail
  refine HKA.out.mono ?_
  rintro e w5 ⟨rfl, hp5, u5⟩
  have A5 := h1.keep u5 hsep
  have up5 : Upd (ft l s lb pb SP SQ) W w5 := (up1).trans (u5.mono fun i _ h => .inl h)
  have g5 := hp5
  clear c1 c3 x0 x1 x2 x3
  go_wp2_with fail
  go_ret
  have E : unlS k tl st t a = (3, { st with ws := wrt k st.ws a (nv + 2) 0, ts := Cache.after k st.ws.length st.ts a (nv + 2) true }) := by
    unfold unlS; rw [HX.out]; dsimp only; rw [if_neg (show ¬ ((5 : Int) = 0 ∨ (5 : Int) = 2) by decide), if_neg (show ¬ ((5 : Int) = 1) by decide), if_neg (show ¬ ((5 : Int) = 3) by decide), if_neg (show ¬ ((5 : Int) = 4) by decide), if_pos rfl, HNVnv.out]
  have A99 := A5
  rw [E]
  exact ⟨rfl, ⟨A99, g5, Nat.le_trans (Cache.after_len _ _ _ _ _ _) (by have := HFEW.out; omega), hsep⟩, up5⟩
set_option maxHeartbeats 8000000 in
set_option maxRecDepth 20000 in
theorem unl6 {w : World} {b : Nat} {st : St} (h : O l s lb pb cap q SQ c p SP k hs tl w b st) (t : Nat) (ht : t < st.seats.length) (a : Int) (h0 : (st.pls.getD t p0).s = 6) :
    Calls Try.prog 43 #[.pointer (some ⟨l, 0, none⟩), .pointer (some ⟨pb, t * 4, none⟩), .int .i64 a] w fun e w' =>
      e = .returned (.int .i64 (unlS k tl st t a).1) ∧ O l s lb pb cap q SQ c p SP k hs tl w' (b + 1) (unlS k tl st t a).2 ∧ Upd (ft l s lb pb SP SQ) w w' := by
  obtain ⟨ha, hp, hf, hsep⟩ := h
  obtain ⟨W, rfl⟩ : ∃ W, W = w := ⟨_, rfl⟩
  have h1 := ha
  have g1 := hp
  have up1 : Upd (ft l s lb pb SP SQ) W W := Upd.refl _ _
  have tl0 := h1.tl0
  have c8 := h1.c8
  obtain ⟨⟨xs, xr, xn, xo⟩, hx⟩ : ∃ y, st.pls.getD t p0 = y := ⟨_, rfl⟩
  have hok := h1.ok t (by rw [h1.l1]; exact ht)
  have HFEW := Lib.hid hf
  have htp : t < st.pls.length := by rw [h1.l1]; exact ht
  rw [hx] at hok h0
  obtain ⟨o1, o2, o3, o4⟩ := hok
  dsimp only at o1 o2 o3 o4 h0
  subst h0
  have c1 := h1.top.cell (i := 1) rfl
  have c3 := h1.top.cell (i := 3) rfl
  have x0 := h1.cell ht 0 (by decide) _ rfl
  have x1 := h1.cell ht 1 (by decide) _ rfl
  have x2 := h1.cell ht 2 (by decide) _ rfl
  have x3 := h1.cell ht 3 (by decide) _ rfl
  rw [hx] at x0 x1 x2 x3
  rw [Nat.add_zero] at x0
  dsimp only at x0 x1 x2 x3
  have HX := Lib.hid hx
  have HSP : Hid (∀ i, SP i → i ≠ pb) := Lib.hid fun i hi e => hsep pb fa_pb (e ▸ hi)
  clear hx hf
  have KNnv := stC (W) c3 tl0 xn o3
  obtain ⟨nv, hnvnv⟩ : ∃ nv, stA tl xn = nv := ⟨_, rfl⟩
  have hnrnv : -2 ≤ nv ∧ nv ≤ 20000000000 := by rw [← hnvnv]; unfold stA; omega
  have HNVnv := Lib.hid hnvnv
  rw [hnvnv] at KNnv
  have HKNnv := Lib.hid KNnv
  clear KNnv hnvnv
  have hu1nv : IntKind.i64.wrap (nv + 1) = nv + 1 := IntWalk.i64_in _ (by omega)
  have hu2nv : IntKind.i64.wrap (nv + 2) = nv + 2 := IntWalk.i64_in _ (by omega)
  go_enter Try.func43, Try.ntmps43
  go_wp2_with fail
  refine HKNnv.out.mono ?_
  rintro e w' ⟨rfl, rfl⟩
  go_wp2_with fail
  go_ret
  have E : unlS k tl st t a = (0, st) := by
    unfold unlS; rw [HX.out]; dsimp only; rw [if_neg (show ¬ ((6 : Int) = 0 ∨ (6 : Int) = 2) by decide), if_neg (show ¬ ((6 : Int) = 1) by decide), if_neg (show ¬ ((6 : Int) = 3) by decide), if_neg (show ¬ ((6 : Int) = 4) by decide), if_neg (show ¬ ((6 : Int) = 5) by decide)]
  rw [E]
  exact ⟨rfl, ⟨h1, g1, Nat.le_succ_of_le HFEW.out, hsep⟩, up1⟩
set_option maxHeartbeats 8000000 in
set_option maxRecDepth 20000 in
theorem unl7 {w : World} {b : Nat} {st : St} (h : O l s lb pb cap q SQ c p SP k hs tl w b st) (t : Nat) (ht : t < st.seats.length) (a : Int) (h0 : (st.pls.getD t p0).s = 7) :
    Calls Try.prog 43 #[.pointer (some ⟨l, 0, none⟩), .pointer (some ⟨pb, t * 4, none⟩), .int .i64 a] w fun e w' =>
      e = .returned (.int .i64 (unlS k tl st t a).1) ∧ O l s lb pb cap q SQ c p SP k hs tl w' (b + 1) (unlS k tl st t a).2 ∧ Upd (ft l s lb pb SP SQ) w w' := by
  obtain ⟨ha, hp, hf, hsep⟩ := h
  obtain ⟨W, rfl⟩ : ∃ W, W = w := ⟨_, rfl⟩
  have h1 := ha
  have g1 := hp
  have up1 : Upd (ft l s lb pb SP SQ) W W := Upd.refl _ _
  have tl0 := h1.tl0
  have c8 := h1.c8
  obtain ⟨⟨xs, xr, xn, xo⟩, hx⟩ : ∃ y, st.pls.getD t p0 = y := ⟨_, rfl⟩
  have hok := h1.ok t (by rw [h1.l1]; exact ht)
  have HFEW := Lib.hid hf
  have htp : t < st.pls.length := by rw [h1.l1]; exact ht
  rw [hx] at hok h0
  obtain ⟨o1, o2, o3, o4⟩ := hok
  dsimp only at o1 o2 o3 o4 h0
  subst h0
  have c1 := h1.top.cell (i := 1) rfl
  have c3 := h1.top.cell (i := 3) rfl
  have x0 := h1.cell ht 0 (by decide) _ rfl
  have x1 := h1.cell ht 1 (by decide) _ rfl
  have x2 := h1.cell ht 2 (by decide) _ rfl
  have x3 := h1.cell ht 3 (by decide) _ rfl
  rw [hx] at x0 x1 x2 x3
  rw [Nat.add_zero] at x0
  dsimp only at x0 x1 x2 x3
  have HX := Lib.hid hx
  have HSP : Hid (∀ i, SP i → i ≠ pb) := Lib.hid fun i hi e => hsep pb fa_pb (e ▸ hi)
  clear hx hf
  have KNnv := stC (W) c3 tl0 xn o3
  obtain ⟨nv, hnvnv⟩ : ∃ nv, stA tl xn = nv := ⟨_, rfl⟩
  have hnrnv : -2 ≤ nv ∧ nv ≤ 20000000000 := by rw [← hnvnv]; unfold stA; omega
  have HNVnv := Lib.hid hnvnv
  rw [hnvnv] at KNnv
  have HKNnv := Lib.hid KNnv
  clear KNnv hnvnv
  have hu1nv : IntKind.i64.wrap (nv + 1) = nv + 1 := IntWalk.i64_in _ (by omega)
  have hu2nv : IntKind.i64.wrap (nv + 2) = nv + 2 := IntWalk.i64_in _ (by omega)
  go_enter Try.func43, Try.ntmps43
  go_wp2_with fail
  refine HKNnv.out.mono ?_
  rintro e w' ⟨rfl, rfl⟩
  go_wp2_with fail
  go_ret
  have E : unlS k tl st t a = (0, st) := by
    unfold unlS; rw [HX.out]; dsimp only; rw [if_neg (show ¬ ((7 : Int) = 0 ∨ (7 : Int) = 2) by decide), if_neg (show ¬ ((7 : Int) = 1) by decide), if_neg (show ¬ ((7 : Int) = 3) by decide), if_neg (show ¬ ((7 : Int) = 4) by decide), if_neg (show ¬ ((7 : Int) = 5) by decide)]
  rw [E]
  exact ⟨rfl, ⟨h1, g1, Nat.le_succ_of_le HFEW.out, hsep⟩, up1⟩
theorem lockC {w : World} {b : Nat} {st : St} (h : O l s lb pb cap q SQ c p SP k hs tl w b st) (hb : b < 1000000) (t : Nat) (ht : t < st.seats.length) (a : Int) (late : Bool) (rv : Value) (hrv : Src1 w rv .i64 (rowL c t)) (hr : (st.pls.getD t p0).s = 0 → (st.pls.getD t p0).r < c) :
    Calls Try.prog 41 #[.pointer (some ⟨l, 0, none⟩), .pointer (some ⟨pb, t * 4, none⟩), rv, .int .i64 a, .bool late] w fun e w' =>
      e = .returned (didv (lockS k tl c st t a late).1) ∧ O l s lb pb cap q SQ c p SP k hs tl w' (b + 1) (lockS k tl c st t a late).2 ∧ Upd (ft l s lb pb SP SQ) w w' := by
  obtain ⟨⟨o1, o2⟩, _⟩ := h.at_.ok t (by rw [h.at_.l1]; exact ht)
  have hc : t * c ≤ 100000 := by
    have h1 := h.at_.pool.size.1
    rw [Pool.newRows_len] at h1
    have := Nat.mul_le_mul (show t ≤ 64 by omega) h.at_.c8.2
    omega
  rcases (show (st.pls.getD t p0).s = 0 ∨ (st.pls.getD t p0).s = 1 ∨ (st.pls.getD t p0).s = 2 ∨ (st.pls.getD t p0).s = 3 ∨ (st.pls.getD t p0).s = 4 ∨ (st.pls.getD t p0).s = 5 ∨ (st.pls.getD t p0).s = 6 ∨ (st.pls.getD t p0).s = 7 by omega) with e | e | e | e | e | e | e | e
  · exact lock0 h hb t ht a late rv hrv (hr e) hc e
  · exact lock1 h hb t ht a late rv e
  · exact lock2 h hb t ht a late rv e
  · exact lock3 h hb t ht a late rv e
  · exact lock4 h hb t ht a late rv e
  · exact lock5 h hb t ht a late rv e
  · exact lock6 h hb t ht a late rv e
  · exact lock7 h hb t ht a late rv e
theorem unlC {w : World} {b : Nat} {st : St} (h : O l s lb pb cap q SQ c p SP k hs tl w b st) (hb : b < 1000000) (t : Nat) (ht : t < st.seats.length) (a : Int) :
    Calls Try.prog 43 #[.pointer (some ⟨l, 0, none⟩), .pointer (some ⟨pb, t * 4, none⟩), .int .i64 a] w fun e w' =>
      e = .returned (.int .i64 (unlS k tl st t a).1) ∧ O l s lb pb cap q SQ c p SP k hs tl w' (b + 1) (unlS k tl st t a).2 ∧ Upd (ft l s lb pb SP SQ) w w' := by
  obtain ⟨⟨o1, o2⟩, _⟩ := h.at_.ok t (by rw [h.at_.l1]; exact ht)
  rcases (show (st.pls.getD t p0).s = 0 ∨ (st.pls.getD t p0).s = 1 ∨ (st.pls.getD t p0).s = 2 ∨ (st.pls.getD t p0).s = 3 ∨ (st.pls.getD t p0).s = 4 ∨ (st.pls.getD t p0).s = 5 ∨ (st.pls.getD t p0).s = 6 ∨ (st.pls.getD t p0).s = 7 by omega) with e | e | e | e | e | e | e | e
  · exact unl0 h hb t ht a e
  · exact unl1 h hb t ht a e
  · exact unl2 h hb t ht a e
  · exact unl3 h hb t ht a e
  · exact unl4 h hb t ht a e
  · exact unl5 h hb t ht a e
  · exact unl6 h t ht a e
  · exact unl7 h t ht a e
end Go.Proofs.Ytlkpfdboagjaoaa.Abort
