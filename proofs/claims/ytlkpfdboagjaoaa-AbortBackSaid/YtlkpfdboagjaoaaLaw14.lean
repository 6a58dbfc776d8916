/- Layer 14 (abort): Out; the laws' own helpers, walked. -/
import Derived.Test.YtlkpfdboagjaoaaAbort3
namespace Go.Proofs.Ytlkpfdboagjaoaa.Law14
open Go Go.RowKit Go.Proofs.Ytlkpfdboagjaoaa.Heap Go.Proofs.Ytlkpfdboagjaoaa.Open Go.Proofs.Ytlkpfdboagjaoaa.Seat Go.Proofs.Ytlkpfdboagjaoaa.Mach Go.Proofs.Ytlkpfdboagjaoaa.Has Go.Proofs.Ytlkpfdboagjaoaa.Lk Go.Proofs.Ytlkpfdboagjaoaa.StepU Go.Proofs.Ytlkpfdboagjaoaa.Abort

/-- How many of a context's first j nodes are out. -/
def cntO (tl : Int) (ws : List Int) (c t : Nat) : Nat → Int
  | 0 => 0
  | j + 1 => cntO tl ws c t j + if ws.getD (tl + 3 * ((t : Int) * c + j + 1)).toNat 0 = 0 then 0 else 1
theorem cntO_le (tl : Int) (ws : List Int) (c t : Nat) : ∀ j, 0 ≤ cntO tl ws c t j ∧ cntO tl ws c t j ≤ j
  | 0 => ⟨Int.le_refl _, Int.le_refl _⟩
  | j + 1 => by
    have := cntO_le tl ws c t j
    unfold cntO
    split <;> omega
set_option maxHeartbeats 4000000 in
theorem outC {l s lb pb cap q p c k b : Nat} {SP SQ : Nat → Prop} {hs : List Int} {tl : Int} {w : World} {st : St} (h : O l s lb pb cap q SQ c p SP k hs tl w b st) (hlen : (st.ws.length : Int) = tl + 1 + 3 * ((st.seats.length * c : Nat) : Int)) (h40 : st.ws.length ≤ 4096) (t : Nat) (ht : t < st.seats.length) :
    Calls Try.prog 23 #[.pointer (some ⟨l, 0, none⟩), .int .i64 t] w fun e w' => e = .returned (.int .i64 (cntO tl st.ws c t c)) ∧ Below w.heap.size w w' := by
  obtain ⟨mm, S1, q0, hm, -⟩ := h.port.step
  have KW := Mem.wordsO w mm S1 st.ws hs hm h40
  have HKW := Lib.hid KW
  have hR : ∀ w4 : World, Below w.heap.size w w4 → Calls Try.prog 42 #[.pointer (some ⟨q, 0, none⟩), .int .i64 t] w4 fun e w' => ∃ v, e = .returned v ∧ w'.ownsRow w4.heap.size 3 1 v c (ints .i64 (rowL c t)) ∧ Below w4.heap.size w4 w' := fun w4 hB => by
    have KR := Pool.row_all w4 _ _ _ _ (h.at_.pool.below hB) (t : Int)
    rw [row_of _ _ _ ht, rowL_len] at KR
    exact KR
  have HKR := Lib.hid hR
  have tl0 := h.at_.tl0
  have c8 := h.at_.c8
  have n64 : st.seats.length ≤ 64 := by have := h.at_.pool.size.1; rw [Pool.newRows_len] at this; exact this
  have c1 := h.at_.top.cell (i := 1) rfl
  have c2 := h.at_.top.cell (i := 2) rfl
  have c3 := h.at_.top.cell (i := 3) rfl
  have htc : (t + 1) * c ≤ st.seats.length * c := Nat.mul_le_mul_right c ht
  have htc2 : st.seats.length * c ≤ 64 * 8 := Nat.mul_le_mul n64 c8.2
  have HW := Lib.hid (fun wx : World => fun (hc : wx.cell? ⟨l, 3, none⟩ = some (.int .i64 tl)) (x : Int) (hx : 0 ≤ x ∧ x < 4294967296) => stC (tl := tl) (l := l) wx hc tl0 x hx)
  rw [Nat.add_one_mul] at htc
  clear hm KW h hR
  go_enter Try.func23, Try.ntmps23
  go_wp2_with fail
  refine HKW.out.mono ?_
  rintro e w4 ⟨rfl, hrow, hB4⟩
  have c2' := (hB4.cell (World.block_lt_of_cell? _ _ c2)).trans c2
  go_wp2_with fail
  refine (HKR.out w4 hB4).mono ?_
  rintro e w5 ⟨rv, rfl, hown, hB5⟩
  obtain ⟨rb, rcap, rfl, hrb, hrp⟩ := owned hown (by omega)
  have c3' := (hB5.cell (World.block_lt_of_cell? _ _ ((hB4.cell (World.block_lt_of_cell? _ _ c3)).trans c3))).trans ((hB4.cell (World.block_lt_of_cell? _ _ c3)).trans c3)
  have hrow5 := hrow.below hB5 hrow.lt
  have hB9 := hB4.trans (hB5.mono hB4.size)
  have HR := Lib.hid hrp
  have HRW := Lib.hid hrow5
  have n3 : (0 : Int) < (c : Int) := by omega
  obtain ⟨D, hD⟩ : ∃ D, w.heap.size = D := ⟨_, rfl⟩
  rw [hD] at HRW ⊢
  clear hrow hrow5 hrp hown c2' c1 c2 c3 q0 HKW HKR hB4 hB5 hrb
  go_wp2_with fail
  go_loop [5, 24] (fun nn i => ∃ j : Nat, j ≤ c ∧ i = .int .i64 j ∧ nn = .int .i64 (cntO tl st.ws c t j)) (fun _ i => c - (intOf i).toNat)
  case atStart => exact ⟨0, Nat.zero_le _, rfl, rfl⟩
  case round =>
    obtain ⟨j, hj, rfl, rfl⟩ := hrel
    by_cases hlt : j < c
    · have cj := HR.out.cell (i := j) (ints_get (by rw [rowL_len]; exact hlt))
      rw [rowL_get c t j hlt] at cj
      obtain ⟨x, hx⟩ : ∃ x : Int, (t : Int) * c + j + 1 = x := ⟨_, rfl⟩
      rw [hx] at cj
      have hxr : 1 ≤ x ∧ x ≤ ((st.seats.length * c : Nat) : Int) := by rw [← hx, ← Int.natCast_mul]; omega
      obtain ⟨i9, hi9⟩ : ∃ i : Nat, (i : Int) = tl + 3 * x := ⟨(tl + 3 * x).toNat, by omega⟩
      have hil : i9 < st.ws.length := by omega
      have cw := HRW.out.cell (i := i9) (ints_get hil)
      obtain ⟨y, hy⟩ : ∃ y, st.ws.getD i9 0 = y := ⟨_, rfl⟩
      rw [hy] at cw
      have KS := HW.out w5 c3' x (by omega)
      have hsx : stA tl x = (i9 : Int) - 2 := by unfold stA; omega
      rw [hsx] at KS
      have HKS := Lib.hid KS
      have hu1 : IntKind.i64.wrap ((i9 : Int) - 2 + 2) = (i9 : Int) := by rw [show (i9 : Int) - 2 + 2 = i9 by omega]; exact IntWalk.i64_in _ (by omega)
      have hu2 : (i9 : Int) - 2 + 2 = (i9 : Int) := by omega
      have hlt' : (j : Int) < (c : Int) := by omega
      have hil' : (i9 : Int) < (st.ws.length : Int) := by omega
      have EN : Hid (cntO tl st.ws c t (j + 1) = cntO tl st.ws c t j + if y = 0 then 0 else 1) := Lib.hid (by
        show cntO tl st.ws c t j + (if st.ws.getD (tl + 3 * ((t : Int) * c + j + 1)).toNat 0 = 0 then 0 else 1) = _
        rw [hx, ← hi9, Int.toNat_natCast, hy])
      have hcn := cntO_le tl st.ws c t j
      obtain ⟨g, hg⟩ : ∃ g, cntO tl st.ws c t j = g := ⟨_, rfl⟩
      rw [hg] at hcn EN ⊢
      have hu3 : IntKind.i64.wrap (g + 1) = g + 1 := IntWalk.i64_in _ (by omega)
      clear KS hx hy hg hi9 hsx
      go_wp2_with fail
      refine HKS.out.mono ?_
      rintro e w' ⟨rfl, rfl⟩
      by_cases hy0 : y = 0
      · subst hy0
        go_wp2_with fail
        go_round
        case rel => exact ⟨j + 1, by omega, by go_num, by rw [EN.out]; simp⟩
        case measure => simp [intOf]; omega
      · have hy0' : (y != 0) = true := by simpa using hy0
        go_wp2_with fail
        go_round
        case rel => exact ⟨j + 1, by omega, by go_num, by rw [EN.out, if_neg hy0]⟩
        case measure => simp [intOf]; omega
    · obtain rfl : j = c := by omega
      go_wp2_with fail
      go_ret
      exact ⟨rfl, hD ▸ hB9⟩
/-- The homes of a new lock's words, and the words. -/
def hh (c : Nat) (hs : List Int) : List Int := [] ++ [hs.getD 0 0] ++ nodeH c hs
def wz (c n : Nat) : List Int := [] ++ [0] ++ List.replicate (n * (3 * c)) 0
theorem wz_len (c n : Nat) : (wz c n).length = 1 + n * (3 * c) := by unfold wz; rw [List.length_append, List.length_append, List.length_replicate]; rfl
theorem wz_wd (c n : Nat) : Mem.Wd (wz c n) := by
  intro y hy
  simp only [wz, List.nil_append, List.mem_append, List.mem_singleton, List.mem_replicate] at hy
  omega
theorem hh_ok (c : Nat) (hs : List Int) (n1 : 1 ≤ hs.length) (h : Mem.homesOk hs = true) : Mem.homesOk (hh c hs) = true := by
  unfold Mem.homesOk at h ⊢
  rw [List.all_eq_true] at h ⊢
  intro y hy
  refine h y ?_
  unfold hh nodeH at hy
  simp only [List.nil_append, List.mem_append, List.mem_singleton, List.mem_flatMap, List.mem_replicate] at hy
  rcases hy with rfl | ⟨x, hx, _, rfl⟩
  · rw [getD_lt _ _ _ (by omega)]; exact List.getElem_mem _
  · exact hx
/-- Use, then the lock and the port are one. -/
theorem useO {l s lb pb cap q p c : Nat} {SP SQ : Nat → Prop} {k : Nat} {hs : List Int} {tl : Int} {w : World} {sl : List (Int × Int)} {pl : List P} {ws : List Int} {pv : Value} (h : At w l s lb pb cap q SQ c pv tl sl pl) (hp : Port.O w p SP k ws hs []) (hsep : ∀ i, fa l s lb pb SQ i → ¬ SP i) :
    Calls Try.prog 37 #[.pointer (some ⟨l, 0, none⟩), .pointer (some ⟨p, 0, none⟩)] w fun e w' => e = .returned (.tuple #[]) ∧ O l s lb pb cap q SQ c p SP k hs tl w' 0 ⟨sl, pl, ws, []⟩ ∧ Upd (ft l s lb pb SP SQ) w w' :=
  (useC w pv sl pl h).mono fun e w' ⟨he, ha, hu⟩ => ⟨he, ⟨ha, hp.keep hu (fun i hi e => hsep l (by simp [fa]) (e ▸ hi)), Nat.le_refl _, hsep⟩, hu.mono fun i _ e => by rw [e]; simp [ft, fa]⟩
/-- A new lock as an object, with all that the laws need of it. -/
structure Made (w w' : World) (hs : List Int) (c l s lb pb cap q : Nat) (SQ : Nat → Prop) (p : Nat) (SP : Nat → Prop) : Prop where
  obj : O l s lb pb cap q SQ c p SP hs.length (hh c hs) 0 w' 0 (st0 hs.length (wz c hs.length))
  ge : ∀ i, ft l s lb pb SP SQ i → w.heap.size ≤ i
  bel : Below w.heap.size w w'
set_option maxHeartbeats 4000000 in
theorem madeC (w : World) (v : Value) (hs : List Int) (c : Nat) (h0 : Src1 w v .i64 hs) (n1 : 1 ≤ hs.length) (n2 : hs.length ≤ 64) (hok : Mem.homesOk hs = true) (hc1 : 1 ≤ c) (hc8 : c ≤ 8) :
    Calls Try.prog 17 #[v, .int .i64 (c : Int)] w fun e w' => ∃ l s lb pb cap q SQ p SP, e = .returned (.tuple #[.pointer (some ⟨l, 0, none⟩), .pointer (some ⟨p, 0, none⟩)]) ∧ Made w w' hs c l s lb pb cap q SQ p SP := by
  have HSRC := Lib.hid h0
  obtain ⟨a, cv, rfl, -, hcell⟩ := h0
  obtain ⟨hb, off, rfl, hbw, hcell⟩ := hcell (by omega)
  clear hcell
  go_enter Try.func17, Try.ntmps17
  go_wp2_with fail
  refine (Plan.newPl _ hs.length).mono ?_
  rintro e w1 ⟨pl, rfl, hpl, hB1⟩
  have hz1 := hB1.size
  go_wp2_with fail
  refine (Abort.new_yes _ pl (Mem.Btw w w1) hs.length [] [] hpl (by decide) _ hs c (HSRC.out.below hB1) n1 n2 hok (by
    intro b hb9 h
    simp [Value.ownBlock] at hb9
    have := h.1; omega) hc1 hc8).mono ?_
  rintro e w2 ⟨l, s, lb, pb, q, SQ, S3, rfl, hP⟩
  have hB2 : Below w.heap.size w w2 := hP.upd.below hB1 hz1 (fun i hi => hi.1)
  have hz2 := hB2.size
  have hnc : hs.length * (3 * c) ≤ 64 * 24 := Nat.mul_le_mul n2 (by omega)
  go_wp2_with fail
  refine (Plan.portPl _ pl S3 hs.length (hh c hs) (wz c hs.length) hP.plan (by rw [wz_len]; omega) (hh_ok c hs n1 hok) (wz_wd c hs.length) n1 (by omega)).mono ?_
  rintro e w3 ⟨p, rfl, hpo, hB3⟩
  have ha3 := hP.at_.keep (Upd.of_below (S := fun _ => False) hB3) (fun _ _ => id)
  have hB4 := hB2.trans (hB3.mono hz2)
  have sep : ∀ i, fa l s lb pb SQ i → ¬ Mem.Btw w2 w3 i := fun i hi h => by have := hP.at_.lt i hi; have := h.1; omega
  have hft : ∀ i, ft l s lb pb (Mem.Btw w2 w3) SQ i → w.heap.size ≤ i := by
    intro i hi
    rcases hi with hi | hi
    · have := hi.1; omega
    · have := hP.lo i hi; omega
  have HU := Lib.hid (useO ha3 hpo sep)
  clear ha3 hpo hpl hB1 hP
  go_wp2_with fail
  refine HU.out.mono ?_
  rintro e w4 ⟨rfl, ho, hu⟩
  go_wp2_with fail
  go_ret2
  exact ⟨l, s, lb, pb, hs.length, q, SQ, p, Mem.Btw w2 w3, rfl, ho, hft, hu.below hB4 hB4.size hft⟩
theorem did_eq0 (w : World) : (binOp .eql 51 (.agg #[.int .i64 0, .bool false, .bool false, .bool false]) (.agg #[.int .i64 0, .bool false, .bool false, .bool false])).run Try.prog w = .ok (.bool true) w := by kernel_rfl
theorem did_eq2 (w : World) : (binOp .eql 51 (.agg #[.int .i64 2, .bool false, .bool false, .bool false]) (.agg #[.int .i64 2, .bool false, .bool false, .bool false])).run Try.prog w = .ok (.bool true) w := by kernel_rfl
/-- The example's states. -/
def exA : Nat → St
  | 0 => setS (st0 2 (wz 1 2)) (lock (st0 2 (wz 1 2)).seats true 0 (-1)).2
  | j + 1 => (Abort.step 2 0 1 (exA j) 0 0 0).2
def exB : Nat → St
  | 0 => setS (exA 5) (lock (exA 5).seats true 1 3).2
  | j + 1 => (Abort.step 2 0 1 (exB j) 1 1 2).2
def exC : St := (Abort.step 2 0 1 (exB 7) 1 1 3).2
def exD : St := (Abort.step 2 0 1 exC 1 1 3).2
set_option maxHeartbeats 8000000 in
theorem awake (w : World) : Calls Try.prog 9 #[] w fun e w' => e = .returned (.bool true) ∧ Below w.heap.size w w' := by
  go_enter Try.func9, Try.ntmps9
  go_wp2_with fail
  refine (madeC _ _ [0, 0] 1 (src_lit _ .i64 [0, 0] _ _ _ _ _ rfl rfl rfl) (by decide) (by decide) (by decide) (by decide) (by decide)).mono ?_
  rintro e w1 ⟨l, s, lb, pb, cap, q, SQ, p, SP, rfl, hM⟩
  have hB1 : Below w.heap.size w w1 := ((Below.refl _ _).alloc (Nat.le_refl _) _).trans (hM.bel.mono (by simp))
  have hft : ∀ i, ft l s lb pb SP SQ i → w.heap.size ≤ i := fun i hi => by have := hM.ge i hi; simp at this; omega
  have M := mach (l := l) (s := s) (lb := lb) (pb := pb) (cap := cap) (q := q) (SQ := SQ) (c := 1) (p := p) (SP := SP) (k := 2) (hs := hh 1 [0, 0]) (tl := 0) 2
  have h1 : O l s lb pb cap q SQ 1 p SP 2 (hh 1 [0, 0]) 0 w1 0 (st0 2 (wz 1 2)) ∧ RR 1 (st0 2 (wz 1 2)).pls ∧ (st0 2 (wz 1 2)).seats.length = 2 := ⟨hM.obj, zeros_rr 2 (by decide), rfl⟩
  have c1 := M.ptr h1
  have KL := M.lockC h1 0 (-1)
  rw [show (lock (st0 2 (wz 1 2)).seats true 0 (-1)).1 = 0 by decide +kernel] at KL
  have HKL := Lib.hid KL
  have HM := Lib.hid M
  clear KL hM M
  go_wp2_with fail
  refine HKL.out.mono ?_
  rintro e w2 ⟨rfl, h2, hu2⟩
  have hB2 := hu2.below hB1 hB1.size hft
  have h2 : O l s lb pb cap q SQ 1 p SP 2 (hh 1 [0, 0]) 0 w2 0 (exA 0) ∧ RR 1 (exA 0).pls ∧ (exA 0).seats.length = 2 := h2
  clear h1 c1 hu2 hB1 HKL
  go_wp2_with fail
  go_loopw [21] (fun i wr => ∃ j : Nat, j ≤ 5 ∧ i = .int .i64 j ∧ (O l s lb pb cap q SQ 1 p SP 2 (hh 1 [0, 0]) 0 wr j (exA j) ∧ RR 1 (exA j).pls ∧ (exA j).seats.length = 2) ∧ Below w.heap.size w wr) (fun i _ => 5 - (intOf i).toNat)
  case atStart => exact ⟨0, Nat.zero_le _, rfl, h2, hB2⟩
  case round =>
    clear h2 hB2
    obtain ⟨j, hj, rfl, h3, hB3⟩ := hrel
    by_cases hlt : j < 5
    · have KS := HM.out.stepC h3 (by omega) 0 0 0
      have HKS := Lib.hid KS
      have hlt' : (j : Int) < 5 := by omega
      clear KS h3
      go_wp2_with fail
      refine HKS.out.mono ?_
      rintro e w4 ⟨rfl, h4, hu4⟩
      have hB4 := hu4.below hB3 hB3.size hft
      clear HKS
      go_wp2_with fail
      go_roundw
      case rel => exact ⟨j + 1, by omega, by go_num, h4, hB4⟩
      case measure => simp [intOf]; omega
    · obtain rfl : j = 5 := by omega
      have c1 := HM.out.ptr h3
      have KL := HM.out.lockC h3 1 3
      rw [show (lock (exA 5).seats true 1 3).1 = 0 by decide +kernel] at KL
      have HKL := Lib.hid KL
      clear KL
      go_wp2_with fail
      refine HKL.out.mono ?_
      rintro e w2 ⟨rfl, h2, hu2⟩
      have hB2 := hu2.below hB3 hB3.size hft
      have h2 : O l s lb pb cap q SQ 1 p SP 2 (hh 1 [0, 0]) 0 w2 5 (exB 0) ∧ RR 1 (exB 0).pls ∧ (exB 0).seats.length = 2 := h2
      clear h3 c1 hu2 hB3 HKL
      go_wp2_with fail
      go_loopw [31] (fun i wr => ∃ j : Nat, j ≤ 7 ∧ i = .int .i64 j ∧ (O l s lb pb cap q SQ 1 p SP 2 (hh 1 [0, 0]) 0 wr (5 + j) (exB j) ∧ RR 1 (exB j).pls ∧ (exB j).seats.length = 2) ∧ Below w.heap.size w wr) (fun i _ => 7 - (intOf i).toNat)
      case atStart => exact ⟨0, Nat.zero_le _, rfl, h2, hB2⟩
      case round =>
        clear h2 hB2
        obtain ⟨j, hj, rfl, h3, hB3⟩ := hrel
        by_cases hlt : j < 7
        · have KS := HM.out.stepC h3 (by omega) 1 1 2
          have HKS := Lib.hid KS
          have hlt' : (j : Int) < 7 := by omega
          clear KS h3
          go_wp2_with fail
          refine HKS.out.mono ?_
          rintro e w4 ⟨rfl, h4, hu4⟩
          have hB4 := hu4.below hB3 hB3.size hft
          clear HKS
          go_wp2_with fail
          go_roundw
          case rel => exact ⟨j + 1, by omega, by go_num, h4, hB4⟩
          case measure => simp [intOf]; omega
        · obtain rfl : j = 7 := by omega
          have KS := HM.out.stepC h3 (by omega) 1 1 3
          rw [show (Abort.step 2 0 1 (exB 7) 1 1 3).1 = (0, false, false, false) by decide +kernel] at KS
          have HKS : Hid (Calls Try.prog 20 #[.pointer (some ⟨l, 0, none⟩), .int .i64 1, .int .i64 1, .int .i64 3] wr fun e w' => e = .returned (didv (0, false, false, false)) ∧ (O l s lb pb cap q SQ 1 p SP 2 (hh 1 [0, 0]) 0 w' (5 + 7 + 1) exC ∧ RR 1 exC.pls ∧ exC.seats.length = 2) ∧ Upd (ft l s lb pb SP SQ) wr w') := Lib.hid KS
          have q0 := did_eq0
          have q2 := did_eq2
          clear KS h3
          go_wp2_with fail
          refine HKS.out.mono ?_
          rintro e w4 ⟨rfl, h4, hu4⟩
          have hB4 := hu4.below hB3 hB3.size hft
          have KS := HM.out.stepC h4 (by omega) 1 1 3
          rw [show (Abort.step 2 0 1 exC 1 1 3).1 = (2, false, false, false) by decide +kernel] at KS
          have HKS : Hid (Calls Try.prog 20 #[.pointer (some ⟨l, 0, none⟩), .int .i64 1, .int .i64 1, .int .i64 3] w4 fun e w' => e = .returned (didv (2, false, false, false)) ∧ (O l s lb pb cap q SQ 1 p SP 2 (hh 1 [0, 0]) 0 w' (5 + 7 + 1 + 1) exD ∧ RR 1 exD.pls ∧ exD.seats.length = 2) ∧ Upd (ft l s lb pb SP SQ) w4 w') := Lib.hid KS
          clear KS hu4 h4
          go_wp2_with fail
          refine HKS.out.mono ?_
          rintro e w5 ⟨rfl, h5, hu5⟩
          have hB5 := hu5.below hB4 hB4.size hft
          have D5 : ∀ (o1 o2 : Obj), Upd (fun _ => False) w5 ((w5.alloc o1).alloc o2) := fun o1 o2 => ((Upd.refl _ _).alloc _).alloc _
          unfold didv
          have h6 := HM.out.keep h5 (D5 (.cells #[.int .i64 0, .bool false, .bool false, .bool false] 51) (.cells #[.int .i64 2, .bool false, .bool false, .bool false] 51)) (fun _ _ => id)
          have R0 : Row ((w5.alloc (.cells #[.int .i64 0, .bool false, .bool false, .bool false] 51)).alloc (.cells #[.int .i64 2, .bool false, .bool false, .bool false] 51)) w5.heap.size [.int .i64 0, .bool false, .bool false, .bool false] := (Row.new' rfl).alloc _
          have R1 : Row ((w5.alloc (.cells #[.int .i64 0, .bool false, .bool false, .bool false] 51)).alloc (.cells #[.int .i64 2, .bool false, .bool false, .bool false] 51)) (w5.heap.size + 1) [.int .i64 2, .bool false, .bool false, .bool false] := Row.new' (by simp)
          have B6 : Below w.heap.size w ((w5.alloc (.cells #[.int .i64 0, .bool false, .bool false, .bool false] 51)).alloc (.cells #[.int .i64 2, .bool false, .bool false, .bool false] 51)) := (hB5.alloc hB5.size _).alloc (by simp; have := hB5.size; omega) _
          obtain ⟨D, hD⟩ : ∃ D, w5.heap.size = D := ⟨_, rfl⟩
          obtain ⟨w6, hw6⟩ : ∃ w6, (w5.alloc (.cells #[.int .i64 0, .bool false, .bool false, .bool false] 51)).alloc (.cells #[.int .i64 2, .bool false, .bool false, .bool false] 51) = w6 := ⟨_, rfl⟩
          rw [hw6] at h6 R0 R1 B6
          rw [hD] at R0 R1
          have HW6 := Lib.hid hw6
          have HD := Lib.hid hD
          have c0 := HM.out.ptr h6
          have KT := HM.out.stateC h6 0
          rw [show state exD.seats 0 = 2 by decide +kernel] at KT
          have HKT := Lib.hid KT
          have KO := outC h6.1 (by decide +kernel) (by decide +kernel) 1 (by decide +kernel)
          rw [show cntO 0 exD.ws 1 1 1 = 1 by decide +kernel] at KO
          have HKO : Hid (Calls Try.prog 23 #[.pointer (some ⟨l, 0, none⟩), .int .i64 1] w6 fun e w' => e = .returned (.int .i64 1) ∧ Below w6.heap.size w6 w') := Lib.hid KO
          have x0 := R0.cell (i := 0) rfl
          have x1 := R0.cell (i := 1) rfl
          have x2 := R0.cell (i := 2) rfl
          have x3 := R0.cell (i := 3) rfl
          have y0 := R1.cell (i := 0) rfl
          have y1 := R1.cell (i := 1) rfl
          have y2 := R1.cell (i := 2) rfl
          have y3 := R1.cell (i := 3) rfl
          clear KT KO hw6 hD h5 hu5 hB5 hB4 hB3 D5 h6
          go_upto_region 15 with (fail)
          rw [HW6.out, HD.out]
          go_wp2_with fail
          refine HKT.out.mono ?_
          rintro e w' ⟨rfl, rfl⟩
          go_wp2_with fail
          refine HKO.out.mono ?_
          rintro e w9 ⟨rfl, u9⟩
          go_wp2_with fail
          go_ret
          exact ⟨rfl, B6.trans (u9.mono B6.size)⟩
end Go.Proofs.Ytlkpfdboagjaoaa.Law14
