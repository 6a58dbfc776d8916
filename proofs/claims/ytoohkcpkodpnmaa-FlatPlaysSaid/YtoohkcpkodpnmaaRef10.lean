/- The document's ticket lock: its own step, by value: the same as the program's. -/
import Derived.Test.YtoohkcpkodpnmaaModl
import Derived.Test.YtoohkcpkodpnmaaFlat3
namespace Go.Proofs.Ytoohkcpkodpnmaa.Ref10
open Go Go.RowKit Go.Proofs.Ytoohkcpkodpnmaa.Heap Go.Proofs.Ytoohkcpkodpnmaa.Open Go.Proofs.Ytoohkcpkodpnmaa.Seat Go.Proofs.Ytoohkcpkodpnmaa.Mach Go.Proofs.Ytoohkcpkodpnmaa.Has Go.Proofs.Ytoohkcpkodpnmaa.Ref09 Go.Proofs.Ytoohkcpkodpnmaa.Modl Go.Proofs.Ytoohkcpkodpnmaa.SeatP Go.Proofs.Ytoohkcpkodpnmaa.Flat

theorem wd_get {l : List Int} (h : Mem.Wd l) (q : Nat) : 0 ≤ l.getD q 0 ∧ l.getD q 0 < 4294967296 := by
  rcases Nat.lt_or_ge q l.length with h' | h'
  · rw [getD_lt _ _ _ h']; exact h _ (List.getElem_mem h')
  · simp [List.getD, h']
def pcs (l : List Bool) : List Value := l.map fun b => .int .i64 (b2i b)
theorem pcs_len (l : List Bool) : (pcs l).length = l.length := by simp [pcs]
theorem pcs_get {l : List Bool} {t : Nat} (h : t < l.length) : (pcs l)[t]? = some (.int .i64 (b2i (l.getD t false))) := by simp [pcs, List.getD, h]
theorem pcs_set (l : List Bool) (t : Nat) (b : Bool) : (pcs l).set t (.int .i64 (b2i b)) = pcs (l.set t b) := by simp [pcs, List.map_set]
theorem ints_set1 (l : List Int) (t : Nat) (v : Int) : (ints .u32 l).set t (.int .u32 v) = ints .u32 (l.set t v) := by simp [ints, List.map_set]
theorem ints_get1 {l : List Int} {t : Nat} (h : t < l.length) : (ints .u32 l)[t]? = some (.int .u32 (l.getD t 0)) := by simp [ints, List.getD, h]
/-- The document's lock: its block, its seats' three, steps, numbers. -/
structure MAt (x sx sb db pc mb : Nat) (w : World) (sl : List (Int × Int)) (drew : List Bool) (nums : List Int) : Prop where
  top : Row w x [.pointer (some ⟨sx, 0, none⟩), .int .i64 0, .slice (some ⟨pc, 0, none⟩) sl.length sl.length, .slice (some ⟨mb, 0, none⟩) sl.length sl.length]
  seat : RAt w sx sb db sl false true
  prow : Row w pc (pcs drew)
  mrow : Row w mb (ints .u32 nums)
  l1 : nums.length = sl.length
  l2 : drew.length = sl.length
  e1 : x ≠ sx ∧ x ≠ sb ∧ x ≠ db ∧ x ≠ pc ∧ x ≠ mb
  e2 : pc ≠ sx ∧ pc ≠ sb ∧ pc ≠ db ∧ pc ≠ mb
  e3 : mb ≠ sx ∧ mb ≠ sb ∧ mb ≠ db
  wd : Mem.Wd nums
def fm (x sx sb db pc mb : Nat) : Nat → Prop := fun i => i = x ∨ i = sx ∨ i = sb ∨ i = db ∨ i = pc ∨ i = mb
variable {x sx sb db pc mb : Nat}
theorem MAt.keep {w w' : World} {sl : List (Int × Int)} {drew : List Bool} {nums : List Int} {T : Nat → Prop} (h : MAt x sx sb db pc mb w sl drew nums) (hu : Upd T w w') (hd : ∀ i, fm x sx sb db pc mb i → ¬ T i) : MAt x sx sb db pc mb w' sl drew nums :=
  ⟨h.top.upd hu (hd _ (by simp [fm])), h.seat.upd hu (hd _ (by simp [fm])) (hd _ (by simp [fm])) (hd _ (by simp [fm])), h.prow.upd hu (hd _ (by simp [fm])), h.mrow.upd hu (hd _ (by simp [fm])), h.l1, h.l2, h.e1, h.e2, h.e3, h.wd⟩
theorem MAt.lt {w : World} {sl : List (Int × Int)} {drew : List Bool} {nums : List Int} (h : MAt x sx sb db pc mb w sl drew nums) : ∀ i, fm x sx sb db pc mb i → i < w.heap.size := by
  intro i hi
  obtain ⟨cs, cd, ht⟩ := h.seat.top
  rcases hi with rfl | rfl | rfl | rfl | rfl | rfl
  · exact h.top.lt
  · exact ht.lt
  · exact h.seat.st.lt
  · exact h.seat.dl.lt
  · exact h.prow.lt
  · exact h.mrow.lt
theorem MAt.seats {w w' : World} {sl sl' : List (Int × Int)} {drew : List Bool} {nums : List Int} (h : MAt x sx sb db pc mb w sl drew nums) (hl : sl'.length = sl.length) (hs : RAt w' sx sb db sl' false true) (hu : Upd (fun i => i = sb ∨ i = db) w w') : MAt x sx sb db pc mb w' sl' drew nums :=
  ⟨by rw [hl]; exact h.top.upd hu (fun e => by rcases e with e | e; exact h.e1.2.1 e; exact h.e1.2.2.1 e), hs, h.prow.upd hu (fun e => by rcases e with e | e; exact h.e2.2.1 e; exact h.e2.2.2.1 e), h.mrow.upd hu (fun e => by rcases e with e | e; exact h.e3.2.1 e; exact h.e3.2.2 e), by rw [hl]; exact h.l1, by rw [hl]; exact h.l2, h.e1, h.e2, h.e3, h.wd⟩
theorem MAt.setPc {w : World} {sl : List (Int × Int)} {drew : List Bool} {nums : List Int} (h : MAt x sx sb db pc mb w sl drew nums) (t : Nat) (b : Bool) (v : Int) (hv : v = b2i b) : MAt x sx sb db pc mb (w.setCell ⟨pc, t, none⟩ (.int .i64 v)) sl (drew.set t b) nums := by
  subst hv
  have hu := Upd.one w pc t (.int .i64 (b2i b))
  exact ⟨h.top.upd hu h.e1.2.2.2.1, h.seat.upd hu (fun e => h.e2.1 e.symm) (fun e => h.e2.2.1 e.symm) (fun e => h.e2.2.2.1 e.symm), by rw [← pcs_set]; exact h.prow.set _ _, h.mrow.upd hu (fun e => h.e2.2.2.2 e.symm), h.l1, by simpa using h.l2, h.e1, h.e2, h.e3, h.wd⟩
theorem MAt.setMine {w : World} {sl : List (Int × Int)} {drew : List Bool} {nums : List Int} (h : MAt x sx sb db pc mb w sl drew nums) (t : Nat) (v : Int) (h0 : 0 ≤ v ∧ v < 4294967296) : MAt x sx sb db pc mb (w.setCell ⟨mb, t, none⟩ (.int .u32 v)) sl drew (nums.set t v) := by
  have hu := Upd.one w mb t (.int .u32 v)
  exact ⟨h.top.upd hu h.e1.2.2.2.2, h.seat.upd hu (fun e => h.e3.1 e.symm) (fun e => h.e3.2.1 e.symm) (fun e => h.e3.2.2 e.symm), h.prow.upd hu h.e2.2.2.2, by rw [← ints_set1]; exact h.mrow.set _ _, by simpa using h.l1, h.l2, h.e1, h.e2, h.e3, h.wd.set t h0.1 h0.2⟩
/-- How a step ends. -/
theorem ends (k : Nat) (nx ow : Int) (st : St) (q : Nat) (a : Int) (z : Int) (hz : state st.seats (q : Int) = z) :
    (midS k nx ow st q a).2.seats = st.seats ∧ ((z = 3 ∧ fin st.seats (q : Int) (midS k nx ow st q a).1.1 = (true, st.seats.set q (0, -1)) ∧ (midS k nx ow st q a).2.drew = st.drew.set q false) ∨ (z ≠ 3 ∧ fin st.seats (q : Int) (midS k nx ow st q a).1.1 = (false, st.seats)) ∨ (z ≠ 3 ∧ fin st.seats (q : Int) (midS k nx ow st q a).1.1 = (true, st.seats.set q (2, -1)))) := by
  have key : ∀ ev, fin st.seats (q : Int) ev = if Seat.next z ev < 0 then (false, st.seats) else (true, st.seats.set q (Seat.next z ev, -1)) := fun ev => by
    unfold fin
    rw [hz, Int.toNat_natCast]
  unfold midS
  rw [hz, Int.toNat_natCast]
  by_cases h1 : z = 1
  · subst h1
    rw [if_pos rfl]
    unfold lockS
    split
    · exact ⟨rfl, .inr (.inl ⟨by decide, by rw [key]; rfl⟩)⟩
    · refine ⟨rfl, ?_⟩
      dsimp only
      split
      · exact .inr (.inr ⟨by decide, by rw [key]; rfl⟩)
      · exact .inr (.inl ⟨by decide, by rw [key]; rfl⟩)
  · rw [if_neg h1]
    by_cases h3 : z = 3
    · subst h3
      rw [if_pos rfl]
      exact ⟨rfl, .inl ⟨rfl, by rw [key]; rfl, rfl⟩⟩
    · rw [if_neg h3]
      by_cases h4 : z = 4
      · subst h4
        rw [if_pos rfl]
        refine ⟨rfl, .inr (.inr ⟨by decide, ?_⟩)⟩
        dsimp only
        split
        · rw [key]; rfl
        · rw [key]; rfl
      · rw [if_neg h4]
        refine ⟨rfl, .inr (.inl ⟨h3, ?_⟩)⟩
        rw [key, if_pos]
        unfold Seat.next
        rw [if_neg h1, if_neg h3, if_neg h4]; decide
set_option maxHeartbeats 8000000 in
set_option maxRecDepth 20000 in
theorem stepR {w : World} {st : St} {y n : Nat} {R : Nat → Prop} (h : MAt x sx sb db pc mb w st.seats st.drew st.nums) (hn : st.seats.length = n) (n8 : n ≤ 8) (hR : Ref04.RO w y R n st.ws st.ts) (hd : ∀ i, R i → ¬ fm x sx sb db pc mb i) (hf : st.ts.length < 1000000) (hws : st.ws.length ≤ 100000) (hwd : Mem.Wd st.ws) (t now : Int) :
    Calls Try.prog 90 #[.pointer (some ⟨x, 0, none⟩), .pointer (some ⟨y, 0, none⟩), .int .i64 t, .int .i64 t, .int .i64 now] w fun e w' =>
      e = .returned (didm (Flat.step n 0 1 st t t now).1) ∧ MAt x sx sb db pc mb w' (Flat.step n 0 1 st t t now).2.seats (Flat.step n 0 1 st t t now).2.drew (Flat.step n 0 1 st t t now).2.nums ∧
      ∃ R', Ref04.RO w' y R' n (Flat.step n 0 1 st t t now).2.ws (Flat.step n 0 1 st t t now).2.ts ∧ Upd (fun i => fm x sx sb db pc mb i ∨ R i) w w' ∧ ∀ i, R' i → R i ∨ w.heap.size ≤ i := by
  have c0 := h.top.cell (i := 0) rfl
  have c2 := h.top.cell (i := 2) rfl
  have hxl := h.top.lt
  cases hin : inB t st.seats.length with
  | false =>
    have hz : state st.seats t = 0 := by unfold state; rw [hin]; rfl
    have e : Flat.step n 0 1 st t t now = ((0, false, false, false), st) := by
      have hm : midS n 0 1 st t t = ((0, false, false, false), st) := by
        unfold midS
        rw [hz, if_neg (by decide), if_neg (by decide), if_neg (by decide)]
      show ((midS n 0 1 st t t).1, { (midS n 0 1 st t t).2 with seats := (fin (midS n 0 1 st t t).2.seats t (midS n 0 1 st t t).1.1).2 }) = _
      rw [hm]
      dsimp only
      rw [fin_none]
    rw [e]
    have HB := Lib.hid (⟨h, hR⟩ : _ ∧ _)
    have fin0 : ∀ w', Below w.heap.size w w' → MAt x sx sb db pc mb w' st.seats st.drew st.nums ∧ ∃ R', Ref04.RO w' y R' n st.ws st.ts ∧ Upd (fun i => fm x sx sb db pc mb i ∨ R i) w w' ∧ ∀ i, R' i → R i ∨ w.heap.size ≤ i := fun w' hB =>
      ⟨h.keep (Upd.of_below (S := fun _ => False) hB) (fun _ _ => id), R, hR.below hB, Upd.of_below hB, fun i hi => .inl hi⟩
    have FIN := Lib.hid fin0
    have hb : ∀ o : Obj, Below w.heap.size w (w.alloc o) := fun o => (Below.refl _ _).alloc (Nat.le_refl _) _
    clear fin0 h hR e hz
    by_cases t0 : t < 0
    · go_enter Try.func90, Try.ntmps90
      go_wp2_with fail
      refine bodyPost_ret (v := didm (0, false, false, false)) (by simp [results, Try.results90, go_sem, didm, b2i]) rfl ?_
      exact ⟨rfl, FIN.out _ (hb _)⟩
    · have t1 : (st.seats.length : Int) ≤ t := by simp [inB] at hin; omega
      have t0' : decide (t < 0) = false := by simpa using t0
      clear hin
      go_enter Try.func90, Try.ntmps90
      go_wp2_with fail
      refine bodyPost_ret (v := didm (0, false, false, false)) (by simp [results, Try.results90, go_sem, didm, b2i]) rfl ?_
      exact ⟨rfl, FIN.out _ (hb _)⟩
  | true =>
    obtain ⟨q, rfl, hq⟩ := inB_nat hin
    have D1 : Upd (fun _ => False) w ((w.alloc (.cells #[.int .i64 0, .int .i64 0, .int .i64 0, .int .i64 0] 120)).alloc (.cells #[.int .i64 0, .int .i64 0, .int .i64 0, .int .i64 0] 120)) := ((Upd.refl _ w).alloc _).alloc _
    have h1 := h.keep D1 (fun _ _ => id)
    have g1 := hR.keep D1 (fun _ _ => id)
    have R0 : Row ((w.alloc (.cells #[.int .i64 0, .int .i64 0, .int .i64 0, .int .i64 0] 120)).alloc (.cells #[.int .i64 0, .int .i64 0, .int .i64 0, .int .i64 0] 120)) w.heap.size [.int .i64 0, .int .i64 0, .int .i64 0, .int .i64 0] := (Row.new' rfl).alloc _
    have R1 : Row ((w.alloc (.cells #[.int .i64 0, .int .i64 0, .int .i64 0, .int .i64 0] 120)).alloc (.cells #[.int .i64 0, .int .i64 0, .int .i64 0, .int .i64 0] 120)) (w.heap.size + 1) [.int .i64 0, .int .i64 0, .int .i64 0, .int .i64 0] := Row.new' (by simp)
    have up1 : Upd (fun i => fm x sx sb db pc mb i ∨ R i) w ((w.alloc (.cells #[.int .i64 0, .int .i64 0, .int .i64 0, .int .i64 0] 120)).alloc (.cells #[.int .i64 0, .int .i64 0, .int .i64 0, .int .i64 0] 120)) := D1.mono fun _ _ z => z.elim
    have hlm := h.lt
    have hlr := hR.lt
    have b1 : decide ((q : Int) < 0) = false := by rw [decide_eq_false_iff_not]; omega
    have b2 : decide ((st.seats.length : Int) ≤ (q : Int)) = false := by rw [decide_eq_false_iff_not]; omega
    have b3 : decide (st.seats.length ≤ q) = false := by rw [decide_eq_false_iff_not]; omega
    have HF := Lib.hid hf
    have HWS := Lib.hid hws
    have HN := Lib.hid hn
    have HN8 := Lib.hid n8
    have HWD := Lib.hid hwd
    obtain ⟨D, hD⟩ : ∃ D, w.heap.size = D := ⟨_, rfl⟩
    have HD := Lib.hid hD
    obtain ⟨W, hW⟩ : ∃ W, (w.alloc (.cells #[.int .i64 0, .int .i64 0, .int .i64 0, .int .i64 0] 120)).alloc (.cells #[.int .i64 0, .int .i64 0, .int .i64 0, .int .i64 0] 120) = W := ⟨_, rfl⟩
    rw [hD] at R0 R1 hlm hlr
    rw [hW] at h1 g1 R0 R1 up1
    have HW := Lib.hid hW
    have HLM := Lib.hid hlm
    have HLR := Lib.hid hlr
    have HDD := Lib.hid hd
    have UP1 := Lib.hid up1
    clear hin h hR D1 hf hws hn hwd n8 hW hD hlm hlr hd up1
    go_enter Try.func90, Try.ntmps90
    go_upto_region 4 with (fail)
    rw [HW.out, HD.out]
    clear c0 c2 hxl b1 b2 b3
    have hq1 : (0 : Int) ≤ (q : Int) := by omega
    have hq2 : (q : Int) < (st.seats.length : Int) := by omega
    have c0 := h1.top.cell (i := 0) rfl
    have c1 := h1.top.cell (i := 1) rfl
    have c2 := h1.top.cell (i := 2) rfl
    have c3 := h1.top.cell (i := 3) rfl
    obtain ⟨cs, cd, htop⟩ := h1.seat.top
    have s0 := htop.cell (i := 0) rfl
    obtain ⟨z, hz⟩ : ∃ z, state st.seats (q : Int) = z := ⟨_, rfl⟩
    have s1 := h1.seat.st.cell (sts_get hq)
    have hzq : (st.seats.getD q (0, -1)).1 = z := by rw [← hz]; unfold state; rw [inB_mk hq, if_pos rfl, Int.toNat_natCast]
    rw [hzq] at s1
    have HEND := Lib.hid (ends n 0 1 st q q z hz)
    have HMID := Lib.hid (show midS n 0 1 st q q = if z = 1 then lockS n 0 1 st q q else if z = 3 then
      ((3, false, false, false), { st with drew := st.drew.set q false, ws := wrt n st.ws q 1 ((st.nums.getD q 0 + 1) % 4294967296), ts := Cache.after n st.ws.length st.ts q 1 true })
      else if z = 4 then ((if rd n st.ws q 0 = (st.nums.getD q 0 + 1) % 4294967296 then 4 else 5, false, false, false), { st with ts := Cache.after n st.ws.length st.ts q 0 false })
      else ((0, false, false, false), st) by unfold midS; rw [hz, Int.toNat_natCast])
    have HST := Lib.hid (show Flat.step n 0 1 st q q now = ((midS n 0 1 st q q).1, { (midS n 0 1 st q q).2 with seats := (fin (midS n 0 1 st q q).2.seats q (midS n 0 1 st q q).1.1).2 }) from rfl)
    obtain ⟨⟨d, st'⟩, hm⟩ : ∃ r, midS n 0 1 st q q = r := ⟨_, rfl⟩
    rw [hm] at HEND HMID HST
    have hDm : ∀ i, fm x sx sb db pc mb i → i ≠ D := fun i hi e => by have := HLM.out i hi; omega
    have hDm1 : ∀ i, fm x sx sb db pc mb i → i ≠ D + 1 := fun i hi e => by have := HLM.out i hi; omega
    clear hz hzq hm htop
    go_upto_block 0 with (fail)
    go_cut [11] from 35 to 120 (fun s11 wx => s11 = .pointer (some ⟨D + 1, 0, none⟩) ∧ MAt x sx sb db pc mb wx st'.seats (if z = 3 then st.drew else st'.drew) st'.nums ∧ (∃ R', Ref04.RO wx y R' n st'.ws st'.ts ∧ ∀ i, R' i → R i ∨ w.heap.size + 2 ≤ i) ∧ Row wx (D + 1) (dmcells d) ∧ Row wx D [.int .i64 0, .int .i64 0, .int .i64 0, .int .i64 0] ∧ Upd (fun i => fm x sx sb db pc mb i ∨ R i) w wx)
    case first =>
      have m1 := h1.mrow.cell (ints_get1 (t := q) (by rw [h1.l1]; exact hq))
      have p1 := h1.prow.cell (pcs_get (t := q) (by rw [h1.l2]; exact hq))
      have hnum : 0 ≤ st.nums.getD q 0 ∧ st.nums.getD q 0 < 4294967296 := wd_get h1.wd q
      obtain ⟨mi, hmi⟩ : ∃ mi, st.nums.getD q 0 = mi := ⟨_, rfl⟩
      rw [hmi] at m1 hnum HMID
      have HMI := Lib.hid hmi
      have hRx : ∀ i, R i → ¬ fm x sx sb db pc mb i := HDD.out
      have nR : ∀ i, fm x sx sb db pc mb i → ¬ R i := fun i hi h => hRx i h hi
      have nx := nR x (by simp [fm])
      have nm := nR mb (by simp [fm])
      have np := nR pc (by simp [fm])
      have nD : ¬ R D := fun h => by have := HLR.out D h; omega
      have nD1 : ¬ R (D + 1) := fun h => by have := HLR.out _ h; omega
      have h2 := h1.keep ((Upd.refl (fun _ => False) W).drewN 1) (fun _ _ => id)
      have hk64 : n ≤ 64 := by have := HN8.out; omega
      have hWD : D + 2 = W.heap.size := by rw [← HW.out, ← HD.out]; simp
      have HWDD := Lib.hid hWD
      have MID := HMID.out
      clear hRx nR hmi hWD
      by_cases z1 : z = 1
      · rw [if_pos z1] at MID
        unfold lockS at MID
        obtain ⟨dr, hdr⟩ : ∃ dr, st.drew.getD q false = dr := ⟨_, rfl⟩
        rw [hdr] at MID p1
        have HDR := Lib.hid hdr
        subst z1
        clear hdr
        cases dr with
        | false =>
          rw [if_pos rfl] at MID
          replace p1 : W.cell? ⟨pc, q, none⟩ = some (.int .i64 0) := p1
          obtain ⟨g, hg⟩ : ∃ g, rd n st.ws q 0 = g := ⟨_, rfl⟩
          have hgw := rd_wd HWD.out n q 0
          rw [hg] at hgw MID
          have KA := Ref04.addR W.drew (g1.drewN 1) HF.out hk64 HWS.out q 0 1
          rw [show StepU.rd n st.ws q 0 = g from hg] at KA
          rw [show (if Mem.inB (q : Int) n = true then Mem.put st.ws 0 ((Mem.get st.ws 0 + 1) % 4294967296) else st.ws) = wrt n st.ws q 0 ((Mem.get st.ws 0 + 1) % 4294967296) from rfl] at KA
          have HKA := Lib.hid KA
          have hd' : d = (0, true, false, false) := congrArg Prod.fst MID
          have hs' : st' = _ := congrArg Prod.snd MID
          have HS' := Lib.hid hs'
          subst hd'
          clear KA MID hs' hg
          go_wp2_with fail
          go_region_held3 (fun w' => w'.cell? ⟨x, 1, none⟩ = some (.int .i64 0) ∧ w'.cell? ⟨x, 3, none⟩ = some (.slice (some ⟨mb, 0, none⟩) st.seats.length st.seats.length)) ((first | exact ⟨c1, c3⟩ | exact ⟨e1, e3⟩ | exact ⟨f1, f3⟩))
            ((go_at_call 91; refine HKA.out.mono ?_; rintro e w5 ⟨rfl, R', hR5, u5, hR5s⟩; have e1 := cell_upd u5 c1 nx; have e3 := cell_upd u5 c3 nx; have A5 := h2.keep u5 (fun i hi h => HDD.out i h hi); have m5 := cell_upd u5 m1 nm; have fz5 := A5.mrow.frozen q; have A6 := A5.setMine q g hgw; have f1 := A6.top.cell (i := 1) rfl; have f3 := A6.top.cell (i := 3) rfl))
          have U6 := Upd.one w5 mb q (.int .u32 g)
          have hmD : mb ≠ D ∧ mb ≠ D + 1 ∧ pc ≠ D ∧ pc ≠ D + 1 := ⟨hDm _ (by simp [fm]), hDm1 _ (by simp [fm]), hDm _ (by simp [fm]), hDm1 _ (by simp [fm])⟩
          have R5 := (R1.drewN 1).upd u5 nD1
          have Q5 := (R0.drewN 1).upd u5 nD
          have R6 := R5.upd U6 (fun e => hmD.2.1 e.symm)
          have Q6 := Q5.upd U6 (fun e => hmD.1 e.symm)
          have hR6 := hR5.keep U6 (fun i hi e => by rcases hR5s i hi with h | h; exact HDD.out i h (by rw [e]; simp [fm]); (have := HLM.out mb (by simp [fm]); have := HWDD.out; simp at h; omega))
          have up6 : Upd (fun i => fm x sx sb db pc mb i ∨ R i) w (w5.setCell ⟨mb, q, none⟩ (.int .u32 g)) := (((UP1.out).drewN 1).trans (u5.mono fun i _ h => .inr h)).trans (U6.mono fun i _ e => (by rw [e]; simp [fm] : fm x sx sb db pc mb i ∨ R i))
          obtain ⟨w6, hw6⟩ : ∃ w6, w5.setCell ⟨mb, q, none⟩ (.int .u32 g) = w6 := ⟨_, rfl⟩
          rw [hw6] at A6 R6 Q6 hR6 up6 ⊢
          have t2 := A6.top.cell (i := 2) rfl
          have t4 := A6.prow.cell (pcs_get (t := q) (by rw [A6.l2]; exact hq))
          rw [HDR.out] at t4
          replace t4 : w6.cell? ⟨pc, q, none⟩ = some (.int .i64 0) := t4
          have t5 := A6.prow.frozen q
          have A7 := A6.setPc q true 1 rfl
          have U7 := Upd.one w6 pc q (.int .i64 1)
          have R7 := R6.upd U7 (fun e => hmD.2.2.2 e.symm)
          have Q7 := Q6.upd U7 (fun e => hmD.2.2.1 e.symm)
          have hR7 := hR6.keep U7 (fun i hi e => by rcases hR5s i hi with h | h; exact HDD.out i h (by rw [e]; simp [fm]); (have := HLM.out pc (by simp [fm]); have := HWDD.out; simp at h; omega))
          have up7 := up6.trans (U7.mono fun i _ e => (by rw [e]; simp [fm] : fm x sx sb db pc mb i ∨ R i))
          clear hw6 e1 e3 f1 f3 c0 c1 c2 c3 m1 p1 m5 fz5 A5 hR5 u5 h1 h2 g1 R0 R1 U6 R5 Q5 s0 s1 HKA
          go_upto_region 9 with (fail)
          obtain ⟨w7, hw7⟩ : ∃ w7, w6.setCell ⟨pc, q, none⟩ (.int .i64 1) = w7 := ⟨_, rfl⟩
          rw [hw7] at A7 R7 Q7 hR7 up7 ⊢
          clear hw7 t2 t4 t5 A6 R6 Q6 hR6 up6
          have y1 := R7.cell (i := 1) rfl
          have f1 := R7.frozen 1
          go_wp2_with fail
          have RE := R7.set 1 (.int .i64 1)
          have UE := Upd.one w7 (D + 1) 1 (.int .i64 1)
          go_meet
          case rel =>
            rw [HS'.out]
            refine ⟨rfl, A7.keep UE (fun i hi e => hDm1 i hi e), ⟨R', hR7.keep UE (fun i hi e => ?_), fun i hi => ?_⟩, by simpa [dmcells, b2i] using RE, Q7.upd UE (by omega), up7.then UE (fun i hi e => by have := HD.out; omega)⟩
            · rcases hR5s i hi with h | h
              · have := HLR.out i h; omega
              · have := HWDD.out; simp at h; omega
            · rcases hR5s i hi with h | h
              · exact .inl h
              · have := HWDD.out; have := HD.out; simp at h; exact .inr (by omega)
        | true =>
          rw [if_neg (by decide)] at MID
          replace p1 : W.cell? ⟨pc, q, none⟩ = some (.int .i64 1) := p1
          obtain ⟨g, hg⟩ : ∃ g, rd n st.ws q 1 = g := ⟨_, rfl⟩
          rw [hg, HMI.out] at MID
          have KA := Ref04.loadR W.drew (g1.drewN 1) HF.out hk64 HWS.out q 1
          rw [show StepU.rd n st.ws q 1 = g from hg] at KA
          have HKA := Lib.hid KA
          have hs' : st' = _ := congrArg Prod.snd MID
          have hd' : d = _ := congrArg Prod.fst MID
          have HS' := Lib.hid hs'
          have HD' := Lib.hid hd'
          clear KA MID hs' hg hd'
          go_wp2_with fail
          go_region_held3 (fun w' => w'.cell? ⟨x, 1, none⟩ = some (.int .i64 0) ∧ w'.cell? ⟨x, 3, none⟩ = some (.slice (some ⟨mb, 0, none⟩) st.seats.length st.seats.length) ∧ w'.cell? ⟨mb, q, none⟩ = some (.int .u32 mi)) ((first | exact ⟨c1, c3, m1⟩ | exact ⟨e1, e3, m5⟩))
            ((go_at_call 92; refine HKA.out.mono ?_; rintro e w5 ⟨rfl, R', hR5, u5, hR5s⟩; have e1 := cell_upd u5 c1 nx; have e3 := cell_upd u5 c3 nx; have m5 := cell_upd u5 m1 nm))
          have A5 := h2.keep u5 (fun i hi h => HDD.out i h hi)
          have R5 := (R1.drewN 1).upd u5 nD1
          have Q5 := (R0.drewN 1).upd u5 nD
          have up5 : Upd (fun i => fm x sx sb db pc mb i ∨ R i) w w5 := (UP1.out.drewN 1).trans (u5.mono fun i _ h => .inr h)
          have hRs : ∀ i, R' i → (R i ∨ w.heap.size + 2 ≤ i) ∧ i ≠ D + 1 := fun i hi => by
            rcases hR5s i hi with h | h
            · exact ⟨.inl h, by have := HLR.out i h; omega⟩
            · have := HWDD.out; have := HD.out; simp at h; exact ⟨.inr (by omega), by omega⟩
          have HRS := Lib.hid hRs
          have y0 := R5.cell (i := 0) rfl
          have f0 := R5.frozen 0
          clear e1 e3 m5 c0 c1 c2 c3 m1 p1 u5 h1 h2 g1 R0 R1 s0 s1 HKA hRs
          by_cases hgn : g = mi
          · have hd := HD'.out
            rw [if_pos hgn] at hd
            have hgn' : (g == mi) = true := by simpa using hgn
            subst hd
            clear hgn
            go_wp2_with fail
            have RE := R5.set 0 (.int .i64 1)
            have UE := Upd.one w5 (D + 1) 0 (.int .i64 1)
            go_meet
            case rel =>
              rw [HS'.out]
              exact ⟨rfl, A5.keep UE (fun i hi e => hDm1 i hi e), ⟨R', hR5.keep UE (fun i hi e => (HRS.out i hi).2 e), fun i hi => (HRS.out i hi).1⟩, by simpa [dmcells, b2i] using RE, Q5.upd UE (by omega), up5.then UE (fun i hi e => by have := HD.out; omega)⟩
          · have hd := HD'.out
            rw [if_neg hgn] at hd
            have hgn' : (g == mi) = false := by simpa using hgn
            subst hd
            clear hgn
            go_wp2_with fail
            go_meet
            case rel =>
              rw [HS'.out]
              exact ⟨rfl, A5, ⟨R', hR5, fun i hi => (HRS.out i hi).1⟩, by simpa [dmcells, b2i] using R5, Q5, up5⟩
      rw [if_neg z1] at MID
      by_cases z3 : z = 3
      · rw [if_pos z3] at MID
        subst z3
        have KA := Ref04.storeR W.drew (g1.drewN 1) HF.out hk64 HWS.out q 1 ((mi + 1) % 4294967296)
        rw [show StepU.wrt n st.ws q 1 ((mi + 1) % 4294967296) = wrt n st.ws q 1 ((mi + 1) % 4294967296) from rfl] at KA
        have HKA := Lib.hid KA
        have hs' : st' = _ := congrArg Prod.snd MID
        have hd' : d = _ := congrArg Prod.fst MID
        have HS' := Lib.hid hs'
        subst hd'
        clear KA MID hs'
        go_wp2_with fail
        go_region_held3 (fun w' => w'.cell? ⟨x, 1, none⟩ = some (.int .i64 0) ∧ w'.cell? ⟨x, 3, none⟩ = some (.slice (some ⟨mb, 0, none⟩) st.seats.length st.seats.length) ∧ w'.cell? ⟨mb, q, none⟩ = some (.int .u32 mi)) ((first | exact ⟨c1, c3, m1⟩ | exact ⟨e1, e3, m5⟩))
          ((go_at_call 93; refine HKA.out.mono ?_; rintro e w5 ⟨rfl, R', hR5, u5, hR5s⟩; have e1 := cell_upd u5 c1 nx; have e3 := cell_upd u5 c3 nx; have m5 := cell_upd u5 m1 nm))
        have A5 := h2.keep u5 (fun i hi h => HDD.out i h hi)
        have R5 := (R1.drewN 1).upd u5 nD1
        have Q5 := (R0.drewN 1).upd u5 nD
        have up5 : Upd (fun i => fm x sx sb db pc mb i ∨ R i) w w5 := (UP1.out.drewN 1).trans (u5.mono fun i _ h => .inr h)
        have hRs : ∀ i, R' i → (R i ∨ w.heap.size + 2 ≤ i) ∧ i ≠ D + 1 := fun i hi => by
          rcases hR5s i hi with h | h
          · exact ⟨.inl h, by have := HLR.out i h; omega⟩
          · have := HWDD.out; have := HD.out; simp at h; exact ⟨.inr (by omega), by omega⟩
        have HRS := Lib.hid hRs
        have y0 := R5.cell (i := 0) rfl
        have f0 := R5.frozen 0
        clear e1 e3 m5 c0 c1 c2 c3 m1 p1 u5 h1 h2 g1 R0 R1 s0 s1 HKA hRs
        go_wp2_with fail
        have RE := R5.set 0 (.int .i64 3)
        have UE := Upd.one w5 (D + 1) 0 (.int .i64 3)
        go_meet
        case rel =>
          rw [HS'.out]
          exact ⟨rfl, A5.keep UE (fun i hi e => hDm1 i hi e), ⟨R', hR5.keep UE (fun i hi e => (HRS.out i hi).2 e), fun i hi => (HRS.out i hi).1⟩, by simpa [dmcells, b2i] using RE, Q5.upd UE (by omega), up5.then UE (fun i hi e => by have := HD.out; omega)⟩
      rw [if_neg z3] at MID
      have HZ3 := Lib.hid z3
      by_cases z4 : z = 4
      · rw [if_pos z4] at MID
        subst z4
        obtain ⟨g, hg⟩ : ∃ g, rd n st.ws q 0 = g := ⟨_, rfl⟩
        rw [hg] at MID
        have hs' : st' = _ := congrArg Prod.snd MID
        have hd' : d = _ := congrArg Prod.fst MID
        have HS' := Lib.hid hs'
        have HD' := Lib.hid hd'
        have U5 := Upd.one W (D + 1) 0 (.int .i64 5)
        have h3 := h1.keep U5 (fun i hi e => hDm1 i hi e)
        have g3 := g1.keep U5 (fun i hi e => nD1 (e ▸ hi))
        have R3 := R1.set 0 (.int .i64 5)
        have Q3 := R0.upd U5 (by omega)
        have UP3 := Lib.hid (UP1.out.then U5 (fun i hi e => by have := HD.out; omega))
        have y0 := R1.cell (i := 0) rfl
        have f0 := R1.frozen 0
        have c1' := h3.top.cell (i := 1) rfl
        have c3' := h3.top.cell (i := 3) rfl
        have m1' := h3.mrow.cell (ints_get1 (t := q) (by rw [h3.l1]; exact hq))
        rw [HMI.out] at m1'
        clear MID hs' hd' UP1 m1 p1 c1 c3 h2
        go_upto_region 17 with (fail)
        obtain ⟨W3, hW3⟩ : ∃ W3, W.setCell ⟨D + 1, 0, none⟩ (.int .i64 5) = W3 := ⟨_, rfl⟩
        rw [hW3] at h3 g3 R3 Q3 UP3 c1' c3' m1' ⊢
        have KA := Ref04.loadR W3.drew (g3.drewN 1) HF.out hk64 HWS.out q 0
        rw [show StepU.rd n st.ws q 0 = g from hg] at KA
        have HKA := Lib.hid KA
        have hz3 : W3.heap.size = D + 2 := by rw [← hW3]; simp [World.setCell]; exact HWDD.out.symm
        have HZW := Lib.hid hz3
        have h4 := h3.keep ((Upd.refl (fun _ => False) W3).drewN 1) (fun _ _ => id)
        clear KA hg hW3 y0 f0 h1 g1 R0 R1 s0 s1 c0 c2 U5 hz3
        go_region_held3 (fun w' => w'.cell? ⟨x, 1, none⟩ = some (.int .i64 0) ∧ w'.cell? ⟨x, 3, none⟩ = some (.slice (some ⟨mb, 0, none⟩) st.seats.length st.seats.length) ∧ w'.cell? ⟨mb, q, none⟩ = some (.int .u32 mi)) ((first | exact ⟨c1', c3', m1'⟩ | exact ⟨e1, e3, m5⟩))
          ((go_at_call 92; refine HKA.out.mono ?_; rintro e w5 ⟨rfl, R', hR5, u5, hR5s⟩; have e1 := cell_upd u5 c1' nx; have e3 := cell_upd u5 c3' nx; have m5 := cell_upd u5 m1' nm))
        have A5 := h4.keep u5 (fun i hi h => HDD.out i h hi)
        have R5 := (R3.drewN 1).upd u5 nD1
        have Q5 := (Q3.drewN 1).upd u5 nD
        have up5 : Upd (fun i => fm x sx sb db pc mb i ∨ R i) w w5 := (UP3.out.drewN 1).trans (u5.mono fun i _ h => .inr h)
        have hRs : ∀ i, R' i → (R i ∨ w.heap.size + 2 ≤ i) ∧ i ≠ D + 1 := fun i hi => by
          rcases hR5s i hi with h | h
          · exact ⟨.inl h, by have := HLR.out i h; omega⟩
          · have := HZW.out; have := HD.out; simp at h; exact ⟨.inr (by omega), by omega⟩
        have HRS := Lib.hid hRs
        have y0 := R5.cell (i := 0) rfl
        have f0 := R5.frozen 0
        clear e1 e3 m5 c1' c3' m1' u5 h3 h4 g3 R3 Q3 HKA hRs
        by_cases hgn : g = (mi + 1) % 4294967296
        · have hd := HD'.out
          rw [if_pos hgn] at hd
          have hgn' : (g == IntKind.u32.wrap (mi + 1)) = true := by rw [show IntKind.u32.wrap (mi + 1) = (mi + 1) % 4294967296 from rfl]; simpa using hgn
          subst hd
          clear hgn
          go_wp2_with fail
          have RE := R5.set 0 (.int .i64 4)
          have UE := Upd.one w5 (D + 1) 0 (.int .i64 4)
          go_meet
          case rel =>
            rw [HS'.out]
            exact ⟨rfl, A5.keep UE (fun i hi e => hDm1 i hi e), ⟨R', hR5.keep UE (fun i hi e => (HRS.out i hi).2 e), fun i hi => (HRS.out i hi).1⟩, by simpa [dmcells, b2i] using RE, Q5.upd UE (by omega), up5.then UE (fun i hi e => by have := HD.out; omega)⟩
        · have hd := HD'.out
          rw [if_neg hgn] at hd
          have hgn' : (g == IntKind.u32.wrap (mi + 1)) = false := by rw [show IntKind.u32.wrap (mi + 1) = (mi + 1) % 4294967296 from rfl]; simpa using hgn
          subst hd
          clear hgn
          go_wp2_with fail
          go_meet
          case rel =>
            rw [HS'.out]
            exact ⟨rfl, A5, ⟨R', hR5, fun i hi => (HRS.out i hi).1⟩, by simpa [dmcells, b2i] using R5, Q5, up5⟩
      rw [if_neg z4] at MID
      have hs' : st' = _ := congrArg Prod.snd MID
      have hd' : d = _ := congrArg Prod.fst MID
      have b1 : (z == 1) = false := by simpa using z1
      have b3 : (z == 3) = false := by simpa using z3
      have b4 : (z == 4) = false := by simpa using z4
      subst hs' hd'
      clear MID z1 z3 z4
      go_wp2_with fail
      go_meet
      case rel => exact ⟨rfl, by rw [if_neg HZ3.out]; exact h1, ⟨R, g1, fun i hi => .inl hi⟩, by simpa [dmcells, b2i] using R1, R0, UP1.out⟩
    case rest =>
      obtain ⟨rfl, h5, ⟨R', g5, hR5s⟩, r5, q5, u5⟩ := hcut
      obtain ⟨w5, hw5⟩ : ∃ w5, wc = w5 := ⟨_, rfl⟩
      rw [hw5] at h5 g5 r5 q5 u5 ⊢
      obtain ⟨hss, hends⟩ := HEND.out
      have hss : st'.seats = st.seats := hss
      rw [hss] at h5 HST
      obtain ⟨ev, b1, b2, b3⟩ := d
      obtain ⟨i1, hi1⟩ : ∃ i, b2i b1 = i := ⟨_, rfl⟩
      obtain ⟨i2, hi2⟩ : ∃ i, b2i b2 = i := ⟨_, rfl⟩
      obtain ⟨i3, hi3⟩ : ∃ i, b2i b3 = i := ⟨_, rfl⟩
      replace r5 : Row w5 (D + 1) [.int .i64 ev, .int .i64 i1, .int .i64 i2, .int .i64 i3] := by rw [← hi1, ← hi2, ← hi3]; exact r5
      have HDM := Lib.hid (show didm (ev, b1, b2, b3) = .agg #[.int .i64 ev, .int .i64 i1, .int .i64 i2, .int .i64 i3] by rw [← hi1, ← hi2, ← hi3]; rfl)
      clear hi1 hi2 hi3
      have g0 := h5.top.cell (i := 0) rfl
      have g1' := r5.cell (i := 0) rfl
      obtain ⟨cs', cd', htop5⟩ := h5.seat.top
      have g2 := htop5.cell (i := 0) rfl
      have hlm5 := h5.lt
      have hlr5 := g5.lt
      have hfmR : ∀ i, R' i → ¬ (i = sb ∨ i = db) := fun i hi e => by
        have hf : fm x sx sb db pc mb i := by rcases e with rfl | rfl <;> simp [fm]
        rcases hR5s i hi with h | h
        · exact HDD.out i h hf
        · have := HLM.out i hf; have := HD.out; omega
      have HFR := Lib.hid hfmR
      have KE := rend_all _ _ _ _ _ _ _ (h5.seat.drewN 1) q ev
      have hfr : ∀ i, fm x sx sb db pc mb i → i ≠ D + 1 ∧ i ≠ D := fun i hi => ⟨hDm1 i hi, hDm i hi⟩
      have hxb : ¬ (x = sb ∨ x = db) := fun e => by rcases e with e | e; exact h5.e1.2.1 e; exact h5.e1.2.2.1 e
      have hsb : ¬ (sx = sb ∨ sx = db) := fun e => by rcases e with e | e; exact h5.seat.ne1 e; exact h5.seat.ne2 e
      have hDb : ¬ (D = sb ∨ D = db) := fun e => by rcases e with e | e; exact hDm sb (by simp [fm]) e.symm; exact hDm db (by simp [fm]) e.symm
      have hD1b : ¬ (D + 1 = sb ∨ D + 1 = db) := fun e => by rcases e with e | e; exact hDm1 sb (by simp [fm]) e.symm; exact hDm1 db (by simp [fm]) e.symm
      have hpn : pc ≠ D ∧ pc ≠ D + 1 := ⟨hDm pc (by simp [fm]), hDm1 pc (by simp [fm])⟩
      have hlen : ∀ (a b : Int), (st.seats.set q (a, b)).length = st.seats.length := fun a b => by simp
      have HLEN := Lib.hid hlen
      have h5d := h5.keep ((Upd.refl (fun _ => False) w5).drewN 1) (fun _ _ => id)
      have ups : ∀ w6, Upd (fun i => i = sb ∨ i = db) w5.drew w6 → Upd (fun i => fm x sx sb db pc mb i ∨ R i) w w6 ∧ Ref04.RO w6 y R' n st'.ws st'.ts := fun w6 u6 =>
        ⟨(u5.drewN 1).trans (u6.mono fun i _ e => by rcases e with rfl | rfl <;> simp [fm]), (g5.drewN 1).keep u6 (fun i hi => HFR.out i hi)⟩
      have HUPS := Lib.hid ups
      have HRS := Lib.hid hR5s
      have HGN : Hid (∀ i, R' i → i ≠ D ∧ i ≠ pc) := Lib.hid fun i hi => by
        rcases hR5s i hi with h | h
        · exact ⟨fun e => by have := HLR.out i h; omega, fun e => HDD.out i h (by rw [e]; simp [fm])⟩
        · have := HLM.out pc (by simp [fm]); have := HD.out; exact ⟨fun e => by omega, fun e => by omega⟩
      clear ups hlen hR5s h1 hlm5 hlr5 hw5 HW c0 c1 c2 c3 s0 s1 R0 R1 HEND HMID hfmR htop5
      have HST' := HST.out
      rcases hends with ⟨hz3, hf, hdr⟩ | ⟨hz3, hf⟩ | ⟨hz3, hf⟩
      · have hf : fin st.seats (q : Int) ev = (true, st.seats.set q (0, -1)) := hf
        have hdr : st'.drew = st.drew.set q false := hdr
        rw [hf, show b2i ((true, st.seats.set q (0, -1)) : Bool × List (Int × Int)).1 = 1 from rfl] at KE
        dsimp only at HST'
        rw [hf] at HST'
        rw [if_pos hz3] at h5 h5d
        have HST2 := Lib.hid HST'
        have HKE := Lib.hid KE
        have HDR := Lib.hid hdr
        clear KE HST' HST hf hdr hz3
        go_upto_region 19 with (fail)
        refine wp_region_held_drew (S := fun w' => w'.cell? ⟨x, 0, none⟩ = some (.pointer (some ⟨sx, 0, none⟩)) ∧ w'.cell? ⟨sx, 0, none⟩ = some (.slice (some ⟨sb, 0, none⟩) st.seats.length cs') ∧ w'.cell? ⟨D + 1, 0, none⟩ = some (.int .i64 ev)) (by kernel_rfl) ⟨g0, g2, g1'⟩ (fun hHeld => ?_)
        refine wpAnyH_take (i := 0) (v := ?_) rfl (by kernel_rfl) (by kernel_rfl) (by kernel_rfl) (fun _ _ _ h => h) (Or.inl ⟨by rfl, ?_⟩) hHeld ?_
        rotate_left
        · (intro w' hSw; (try dsimp only at hSw); go_simp) <;> with_reducible rfl
        change wpAnyH _ _ _ _ _ _ _ (Act.put _ (some 121) _) _
        try simp only [Act.put, List.setIfInBounds_toArray, List.set_cons_zero, List.set_cons_succ]
        refine wpAnyH_take (i := 1) (v := ?_) rfl (by kernel_rfl) (by kernel_rfl) (by kernel_rfl) (fun _ _ _ h => h) (Or.inl ⟨by rfl, ?_⟩) hHeld ?_
        rotate_left
        · (intro w' hSw; (try dsimp only at hSw); go_simp) <;> with_reducible rfl
        change wpAnyH _ _ _ _ _ _ _ (Act.put _ (some 122) _) _
        try simp only [Act.put, List.setIfInBounds_toArray, List.set_cons_zero, List.set_cons_succ]
        refine wpAnyH_take (i := 2) (v := ?_) rfl (by kernel_rfl) (by kernel_rfl) (by kernel_rfl) (fun _ _ _ h => h) (Or.inl ⟨by rfl, ?_⟩) hHeld ?_
        rotate_left
        · (intro w' hSw; (try dsimp only at hSw); go_simp) <;> with_reducible rfl
        change wpAnyH _ _ _ _ _ _ _ (Act.put _ (some 123) _) _
        try simp only [Act.put, List.setIfInBounds_toArray, List.set_cons_zero, List.set_cons_succ]
        refine wpAnyH_take (i := 3) (v := ?_) rfl (by kernel_rfl) (by kernel_rfl) (by kernel_rfl) (fun _ _ _ h => h) (Or.inl ⟨by rfl, ?_⟩) hHeld ?_
        rotate_left
        · (intro w' hSw; (try dsimp only at hSw); go_simp) <;> with_reducible rfl
        change wpAnyH _ _ _ _ _ _ _ (Act.put _ (some 124) _) _
        try simp only [Act.put, List.setIfInBounds_toArray, List.set_cons_zero, List.set_cons_succ]
        refine wpAnyH_take (i := 4) (v := ?_) rfl (by kernel_rfl) (by kernel_rfl) (by kernel_rfl) (fun _ _ _ h => h) (Or.inl ⟨by rfl, ?_⟩) hHeld ?_
        rotate_left
        · (intro w' hSw; (try dsimp only at hSw); go_simp) <;> with_reducible rfl
        change wpAnyH _ _ _ _ _ _ _ (Act.put _ (some 125) _) _
        try simp only [Act.put, List.setIfInBounds_toArray, List.set_cons_zero, List.set_cons_succ]
        refine wpAnyH_take (i := 5) (v := ?_) rfl (by kernel_rfl) (by kernel_rfl) (by kernel_rfl) (fun _ _ _ h => h) (Or.inl ⟨by rfl, ?_⟩) hHeld ?_
        rotate_left
        · (intro w' hSw; (try dsimp only at hSw); go_simp) <;> with_reducible rfl
        change wpAnyH _ _ _ _ _ _ _ (Act.put _ (some 126) _) _
        try simp only [Act.put, List.setIfInBounds_toArray, List.set_cons_zero, List.set_cons_succ]
        refine wpAnyH_take (i := 6) (v := ?_) rfl (by kernel_rfl) (by kernel_rfl) (by kernel_rfl) (fun _ _ _ h => h) (Or.inl ⟨by rfl, ?_⟩) hHeld ?_
        rotate_left
        · (intro w' hSw; (try dsimp only at hSw); go_simp) <;> with_reducible rfl
        change wpAnyH _ _ _ _ _ _ _ (Act.put _ (some 127) _) _
        try simp only [Act.put, List.setIfInBounds_toArray, List.set_cons_zero, List.set_cons_succ]
        refine wpAnyH_ready (rs := [7]) (by kernel_rfl) (by simp) ?_
        refine AllReadyH.cons rfl (fun K hK => ?_) AllReadyH.nil
        go_simp
        refine HKE.out.mono ?_
        rintro e w6 ⟨rfl, hs6, u6⟩
        have e0 := cell_upd u6 g0 hxb
        have e2 := cell_upd u6 g2 hsb
        have e1 := cell_upd u6 g1' hD1b
        have y6 := hs6.st.cell (sts_get (k := q) (by simpa using hq))
        rw [show (st.seats.set q (0, -1)).getD q (0, -1) = (0, -1) by simp [List.getD, List.getElem?_set_self hq]] at y6
        simp only []
        refine hK.out _ _ ⟨e0, e2, e1⟩ (fun hHeld => ?_)
        clear hK K
        try simp only [Act.put, List.setIfInBounds_toArray, List.set_cons_zero, List.set_cons_succ]
        refine wpAnyH_take (i := 8) (v := ?_) rfl (by kernel_rfl) (by kernel_rfl) (by kernel_rfl) (fun _ _ _ h => h) (Or.inl ⟨by rfl, ?_⟩) hHeld ?_
        rotate_left
        · (intro w' hSw; (try dsimp only at hSw); go_simp) <;> with_reducible rfl
        change wpAnyH _ _ _ _ _ _ _ (Act.put _ (some 129) _) _
        try simp only [Act.put, List.setIfInBounds_toArray, List.set_cons_zero, List.set_cons_succ]
        refine wpAnyH_take (i := 9) (v := ?_) rfl (by kernel_rfl) (by kernel_rfl) (by kernel_rfl) (fun _ _ _ h => h) (Or.inl ⟨by rfl, ?_⟩) hHeld ?_
        rotate_left
        · (intro w' hSw; (try dsimp only at hSw); go_simp) <;> with_reducible rfl
        change wpAnyH _ _ _ _ _ _ _ (Act.put _ (some 130) _) _
        try simp only [Act.put, List.setIfInBounds_toArray, List.set_cons_zero, List.set_cons_succ]
        refine wpAnyH_take (i := 10) (v := ?_) rfl (by kernel_rfl) (by kernel_rfl) (by kernel_rfl) (fun _ _ _ h => h) (Or.inl ⟨by rfl, ?_⟩) hHeld ?_
        rotate_left
        · (intro w' hSw; (try dsimp only at hSw); go_simp) <;> with_reducible rfl
        change wpAnyH _ _ _ _ _ _ _ (Act.put _ (some 131) _) _
        try simp only [Act.put, List.setIfInBounds_toArray, List.set_cons_zero, List.set_cons_succ]
        refine wpAnyH_take (i := 11) (v := ?_) rfl (by kernel_rfl) (by kernel_rfl) (by kernel_rfl) (fun _ _ _ h => h) (Or.inl ⟨by rfl, ?_⟩) hHeld ?_
        rotate_left
        · (intro w' hSw; (try dsimp only at hSw); go_simp) <;> with_reducible rfl
        change wpAnyH _ _ _ _ _ _ _ (Act.put _ (some 132) _) _
        try simp only [Act.put, List.setIfInBounds_toArray, List.set_cons_zero, List.set_cons_succ]
        refine wpAnyH_take (i := 12) (v := ?_) rfl (by kernel_rfl) (by kernel_rfl) (by kernel_rfl) (fun _ _ _ h => h) (Or.inl ⟨by rfl, ?_⟩) hHeld ?_
        rotate_left
        · (intro w' hSw; (try dsimp only at hSw); go_simp) <;> with_reducible rfl
        change wpAnyH _ _ _ _ _ _ _ (Act.put _ (some 133) _) _
        try simp only [Act.put, List.setIfInBounds_toArray, List.set_cons_zero, List.set_cons_succ]
        refine wpAnyH_take (i := 13) (v := ?_) rfl (by kernel_rfl) (by kernel_rfl) (by kernel_rfl) (fun _ _ _ h => h) (Or.inl ⟨by rfl, ?_⟩) hHeld ?_
        rotate_left
        · (intro w' hSw; (try dsimp only at hSw); go_simp) <;> with_reducible rfl
        change wpAnyH _ _ _ _ _ _ _ (Act.put _ (some 134) _) _
        try simp only [Act.put, List.setIfInBounds_toArray, List.set_cons_zero, List.set_cons_succ]
        refine wpAnyH_take (i := 14) (v := ?_) rfl (by kernel_rfl) (by kernel_rfl) (by kernel_rfl) (fun _ _ _ h => h) (Or.inl ⟨by rfl, ?_⟩) hHeld ?_
        rotate_left
        · (intro w' hSw; (try dsimp only at hSw); go_simp) <;> with_reducible rfl
        change wpAnyH _ _ _ _ _ _ _ (Act.put _ (some 135) _) _
        try simp only [Act.put, List.setIfInBounds_toArray, List.set_cons_zero, List.set_cons_succ]
        refine wpAnyH_take (i := 15) (v := ?_) rfl (by kernel_rfl) (by kernel_rfl) (by kernel_rfl) (fun _ _ _ h => h) (Or.inl ⟨by rfl, ?_⟩) hHeld ?_
        rotate_left
        · (intro w' hSw; (try dsimp only at hSw); go_simp) <;> with_reducible rfl
        change wpAnyH _ _ _ _ _ _ _ (Act.put _ (some 136) _) _
        try simp only [Act.put, List.setIfInBounds_toArray, List.set_cons_zero, List.set_cons_succ]
        refine wpAnyH_take (i := 16) (v := ?_) rfl (by kernel_rfl) (by kernel_rfl) (by kernel_rfl) (fun _ _ _ h => h) (Or.inl ⟨by rfl, ?_⟩) hHeld ?_
        rotate_left
        · (intro w' hSw; (try dsimp only at hSw); go_simp) <;> with_reducible rfl
        change wpAnyH _ _ _ _ _ _ _ (Act.put _ (some 137) _) _
        try simp only [Act.put, List.setIfInBounds_toArray, List.set_cons_zero, List.set_cons_succ]
        refine wpAnyH_take (i := 17) (v := ?_) rfl (by kernel_rfl) (by kernel_rfl) (by kernel_rfl) (fun _ _ _ h => h) (Or.inl ⟨by rfl, ?_⟩) hHeld ?_
        rotate_left
        · (intro w' hSw; (try dsimp only at hSw); go_simp) <;> with_reducible rfl
        change wpAnyH _ _ _ _ _ _ _ (Act.put _ (some 138) _) _
        try simp only [Act.put, List.setIfInBounds_toArray, List.set_cons_zero, List.set_cons_succ]
        refine wpAnyH_take (i := 18) (v := ?_) rfl (by kernel_rfl) (by kernel_rfl) (by kernel_rfl) (fun _ _ _ h => h) (Or.inl ⟨by rfl, ?_⟩) hHeld ?_
        rotate_left
        · (intro w' hSw; (try dsimp only at hSw); go_simp) <;> with_reducible rfl
        change wpAnyH _ _ _ _ _ _ _ (Act.put _ (some 139) _) _
        try simp only [Act.put, List.setIfInBounds_toArray, List.set_cons_zero, List.set_cons_succ]
        refine wpAnyH_ready (rs := [19]) (by kernel_rfl) (by simp) ?_
        refine AllReadyH.cons rfl (fun K hK => ?_) AllReadyH.nil
        go_simp
        refine hK.out _ _ hHeld (fun hHeld => ?_)
        clear hK K
        try simp only [Act.put, List.setIfInBounds_toArray, List.set_cons_zero, List.set_cons_succ]
        refine wpAnyH_take (i := 20) (v := ?_) rfl (by kernel_rfl) (by kernel_rfl) (by kernel_rfl) (fun _ _ _ h => h) (Or.inl ⟨by rfl, ?_⟩) hHeld ?_
        rotate_left
        · (intro w' hSw; (try dsimp only at hSw); go_simp) <;> with_reducible rfl
        change wpAnyH _ _ _ _ _ _ _ (Act.put _ (some 141) _) _
        try simp only [Act.put, List.setIfInBounds_toArray, List.set_cons_zero, List.set_cons_succ]
        refine wpAnyH_take (i := 21) (v := ?_) rfl (by kernel_rfl) (by kernel_rfl) (by kernel_rfl) (fun _ _ _ h => h) (Or.inl ⟨by rfl, ?_⟩) hHeld ?_
        rotate_left
        · (intro w' hSw; (try dsimp only at hSw); go_simp) <;> with_reducible rfl
        change wpAnyH _ _ _ _ _ _ _ (Act.put _ (some 142) _) _
        try simp only [Act.put, List.setIfInBounds_toArray, List.set_cons_zero, List.set_cons_succ]
        refine wpAnyH_done (by kernel_rfl) ?_ _
        obtain ⟨up6, g6⟩ := HUPS.out _ u6
        have r6 := (r5.drewN 1).upd u6 hD1b
        have q6 := (q5.drewN 1).upd u6 hDb
        have A6 := h5d.seats (HLEN.out 0 (-1)) hs6 u6
        have t2 := A6.top.cell (i := 2) rfl
        rw [HLEN.out] at t2
        have t4 := A6.prow.cell (pcs_get (t := q) (by rw [A6.l2]; simpa using hq))
        have t5 := A6.prow.frozen q
        have A7 := A6.setPc q false 0 rfl
        have U7 := Upd.one w6 pc q (.int .i64 0)
        have r7 := r6.upd U7 (fun e => hpn.2 e.symm)
        have q7 := q6.upd U7 (fun e => hpn.1 e.symm)
        have g7 := g6.keep U7 (fun i hi e => (HGN.out i hi).2 e)
        have up7 := up6.trans (U7.mono fun i _ e => (by rw [e]; simp [fm] : fm x sx sb db pc mb i ∨ R i))
        clear e0 e1 e2 y6 g0 g1' g2 r5 q5 r6 q6 g6 up6 u6 hs6 h5 h5d U7
        go_upto_region 21 with (fail)
        obtain ⟨w7, hw7⟩ : ∃ w7, w6.setCell ⟨pc, q, none⟩ (.int .i64 0) = w7 := ⟨_, rfl⟩
        rw [hw7] at A7 r7 q7 g7 up7 ⊢
        clear hw7 t2 t4 t5 A6
        have y0 := r7.cell (i := 0) rfl
        have y1 := r7.cell (i := 1) rfl
        have y2 := r7.cell (i := 2) rfl
        have y3 := r7.cell (i := 3) rfl
        have z0 := q7.cell (i := 0) rfl
        have z1 := q7.cell (i := 1) rfl
        have z2 := q7.cell (i := 2) rfl
        have z3 := q7.cell (i := 3) rfl
        have k0 := q7.frozen 0
        have k1 := q7.frozen 1
        have k2 := q7.frozen 2
        have k3 := q7.frozen 3
        go_wp2_with fail
        have RE := did4 q7 (.int .i64 ev) (.int .i64 i1) (.int .i64 i2) (.int .i64 i3)
        have UE := upd4 w7 D (.int .i64 ev) (.int .i64 i1) (.int .i64 i2) (.int .i64 i3)
        obtain ⟨w8, hw8⟩ : ∃ w8, (((w7.setCell ⟨D, 0, none⟩ (.int .i64 ev)).setCell ⟨D, 1, none⟩ (.int .i64 i1)).setCell ⟨D, 2, none⟩ (.int .i64 i2)).setCell ⟨D, 3, none⟩ (.int .i64 i3) = w8 := ⟨_, rfl⟩
        rw [hw8] at RE UE ⊢
        have g0 := RE.cell (i := 0) rfl
        have g1 := RE.cell (i := 1) rfl
        have g2 := RE.cell (i := 2) rfl
        have g3 := RE.cell (i := 3) rfl
        refine bodyPost_ret (v := didm (ev, b1, b2, b3)) (by rw [HDM.out]; simp [results, Try.results90, go_sem, g0, g1, g2, g3]) rfl ?_
        rw [HST2.out]
        refine ⟨rfl, (HDR.out ▸ A7.keep UE (fun i hi e => hDm i hi e) : MAt x sx sb db pc mb w8 (st.seats.set q (0, -1)) st'.drew st'.nums), R', g7.keep UE (fun i hi e => (HGN.out i hi).1 e), up7.then UE (fun i hi e => by have := HD.out; omega), fun i hi => ?_⟩
        rcases HRS.out i hi with h | h
        · exact .inl h
        · exact .inr (by omega)
      · have hf : fin st.seats (q : Int) ev = (false, st.seats) := hf
        rw [hf, show b2i ((false, st.seats) : Bool × List (Int × Int)).1 = 0 from rfl] at KE
        dsimp only at HST'
        rw [hf] at HST'
        rw [if_neg hz3] at h5 h5d
        have HST2 := Lib.hid HST'
        have HKE := Lib.hid KE
        clear KE HST' HST hf hz3
        go_upto_region 19 with (fail)
        refine wp_region_held_drew (S := fun w' => w'.cell? ⟨x, 0, none⟩ = some (.pointer (some ⟨sx, 0, none⟩)) ∧ w'.cell? ⟨sx, 0, none⟩ = some (.slice (some ⟨sb, 0, none⟩) st.seats.length cs') ∧ w'.cell? ⟨D + 1, 0, none⟩ = some (.int .i64 ev)) (by kernel_rfl) ⟨g0, g2, g1'⟩ (fun hHeld => ?_)
        refine wpAnyH_take (i := 0) (v := ?_) rfl (by kernel_rfl) (by kernel_rfl) (by kernel_rfl) (fun _ _ _ h => h) (Or.inl ⟨by rfl, ?_⟩) hHeld ?_
        rotate_left
        · (intro w' hSw; (try dsimp only at hSw); go_simp) <;> with_reducible rfl
        change wpAnyH _ _ _ _ _ _ _ (Act.put _ (some 121) _) _
        try simp only [Act.put, List.setIfInBounds_toArray, List.set_cons_zero, List.set_cons_succ]
        refine wpAnyH_take (i := 1) (v := ?_) rfl (by kernel_rfl) (by kernel_rfl) (by kernel_rfl) (fun _ _ _ h => h) (Or.inl ⟨by rfl, ?_⟩) hHeld ?_
        rotate_left
        · (intro w' hSw; (try dsimp only at hSw); go_simp) <;> with_reducible rfl
        change wpAnyH _ _ _ _ _ _ _ (Act.put _ (some 122) _) _
        try simp only [Act.put, List.setIfInBounds_toArray, List.set_cons_zero, List.set_cons_succ]
        refine wpAnyH_take (i := 2) (v := ?_) rfl (by kernel_rfl) (by kernel_rfl) (by kernel_rfl) (fun _ _ _ h => h) (Or.inl ⟨by rfl, ?_⟩) hHeld ?_
        rotate_left
        · (intro w' hSw; (try dsimp only at hSw); go_simp) <;> with_reducible rfl
        change wpAnyH _ _ _ _ _ _ _ (Act.put _ (some 123) _) _
        try simp only [Act.put, List.setIfInBounds_toArray, List.set_cons_zero, List.set_cons_succ]
        refine wpAnyH_take (i := 3) (v := ?_) rfl (by kernel_rfl) (by kernel_rfl) (by kernel_rfl) (fun _ _ _ h => h) (Or.inl ⟨by rfl, ?_⟩) hHeld ?_
        rotate_left
        · (intro w' hSw; (try dsimp only at hSw); go_simp) <;> with_reducible rfl
        change wpAnyH _ _ _ _ _ _ _ (Act.put _ (some 124) _) _
        try simp only [Act.put, List.setIfInBounds_toArray, List.set_cons_zero, List.set_cons_succ]
        refine wpAnyH_take (i := 4) (v := ?_) rfl (by kernel_rfl) (by kernel_rfl) (by kernel_rfl) (fun _ _ _ h => h) (Or.inl ⟨by rfl, ?_⟩) hHeld ?_
        rotate_left
        · (intro w' hSw; (try dsimp only at hSw); go_simp) <;> with_reducible rfl
        change wpAnyH _ _ _ _ _ _ _ (Act.put _ (some 125) _) _
        try simp only [Act.put, List.setIfInBounds_toArray, List.set_cons_zero, List.set_cons_succ]
        refine wpAnyH_take (i := 5) (v := ?_) rfl (by kernel_rfl) (by kernel_rfl) (by kernel_rfl) (fun _ _ _ h => h) (Or.inl ⟨by rfl, ?_⟩) hHeld ?_
        rotate_left
        · (intro w' hSw; (try dsimp only at hSw); go_simp) <;> with_reducible rfl
        change wpAnyH _ _ _ _ _ _ _ (Act.put _ (some 126) _) _
        try simp only [Act.put, List.setIfInBounds_toArray, List.set_cons_zero, List.set_cons_succ]
        refine wpAnyH_take (i := 6) (v := ?_) rfl (by kernel_rfl) (by kernel_rfl) (by kernel_rfl) (fun _ _ _ h => h) (Or.inl ⟨by rfl, ?_⟩) hHeld ?_
        rotate_left
        · (intro w' hSw; (try dsimp only at hSw); go_simp) <;> with_reducible rfl
        change wpAnyH _ _ _ _ _ _ _ (Act.put _ (some 127) _) _
        try simp only [Act.put, List.setIfInBounds_toArray, List.set_cons_zero, List.set_cons_succ]
        refine wpAnyH_ready (rs := [7]) (by kernel_rfl) (by simp) ?_
        refine AllReadyH.cons rfl (fun K hK => ?_) AllReadyH.nil
        go_simp
        refine HKE.out.mono ?_
        rintro e w6 ⟨rfl, hs6, u6⟩
        have e0 := cell_upd u6 g0 hxb
        have e2 := cell_upd u6 g2 hsb
        have e1 := cell_upd u6 g1' hD1b
        simp only []
        refine hK.out _ _ ⟨e0, e2, e1⟩ (fun hHeld => ?_)
        clear hK K
        try simp only [Act.put, List.setIfInBounds_toArray, List.set_cons_zero, List.set_cons_succ]
        refine wpAnyH_take (i := 8) (v := ?_) rfl (by kernel_rfl) (by kernel_rfl) (by kernel_rfl) (fun _ _ _ h => h) (Or.inl ⟨by rfl, ?_⟩) hHeld ?_
        rotate_left
        · (intro w' hSw; (try dsimp only at hSw); go_simp) <;> with_reducible rfl
        change wpAnyH _ _ _ _ _ _ _ (Act.put _ (some 129) _) _
        try simp only [Act.put, List.setIfInBounds_toArray, List.set_cons_zero, List.set_cons_succ]
        refine wpAnyH_take (i := 9) (v := ?_) rfl (by kernel_rfl) (by kernel_rfl) (by kernel_rfl) (fun _ _ _ h => h) (Or.inl ⟨by rfl, ?_⟩) hHeld ?_
        rotate_left
        · (intro w' hSw; (try dsimp only at hSw); go_simp) <;> with_reducible rfl
        change wpAnyH _ _ _ _ _ _ _ (Act.put _ (some 130) _) _
        try simp only [Act.put, List.setIfInBounds_toArray, List.set_cons_zero, List.set_cons_succ]
        refine wpAnyH_take (i := 10) (v := undef) rfl (by kernel_rfl) (by kernel_rfl) (by kernel_rfl) (fun _ _ _ h => h) (Or.inr ⟨by kernel_rfl, rfl⟩) hHeld ?_
        change wpAnyH _ _ _ _ _ _ _ (Act.put _ (some 131) _) _
        try simp only [Act.put, List.setIfInBounds_toArray, List.set_cons_zero, List.set_cons_succ]
        refine wpAnyH_take (i := 11) (v := undef) rfl (by kernel_rfl) (by kernel_rfl) (by kernel_rfl) (fun _ _ _ h => h) (Or.inr ⟨by kernel_rfl, rfl⟩) hHeld ?_
        change wpAnyH _ _ _ _ _ _ _ (Act.put _ (some 132) _) _
        try simp only [Act.put, List.setIfInBounds_toArray, List.set_cons_zero, List.set_cons_succ]
        refine wpAnyH_take (i := 12) (v := undef) rfl (by kernel_rfl) (by kernel_rfl) (by kernel_rfl) (fun _ _ _ h => h) (Or.inr ⟨by kernel_rfl, rfl⟩) hHeld ?_
        change wpAnyH _ _ _ _ _ _ _ (Act.put _ (some 133) _) _
        try simp only [Act.put, List.setIfInBounds_toArray, List.set_cons_zero, List.set_cons_succ]
        refine wpAnyH_take (i := 13) (v := undef) rfl (by kernel_rfl) (by kernel_rfl) (by kernel_rfl) (fun _ _ _ h => h) (Or.inr ⟨by kernel_rfl, rfl⟩) hHeld ?_
        change wpAnyH _ _ _ _ _ _ _ (Act.put _ (some 134) _) _
        try simp only [Act.put, List.setIfInBounds_toArray, List.set_cons_zero, List.set_cons_succ]
        refine wpAnyH_take (i := 14) (v := undef) rfl (by kernel_rfl) (by kernel_rfl) (by kernel_rfl) (fun _ _ _ h => h) (Or.inr ⟨by kernel_rfl, rfl⟩) hHeld ?_
        change wpAnyH _ _ _ _ _ _ _ (Act.put _ (some 135) _) _
        try simp only [Act.put, List.setIfInBounds_toArray, List.set_cons_zero, List.set_cons_succ]
        refine wpAnyH_take (i := 15) (v := undef) rfl (by kernel_rfl) (by kernel_rfl) (by kernel_rfl) (fun _ _ _ h => h) (Or.inr ⟨by kernel_rfl, rfl⟩) hHeld ?_
        change wpAnyH _ _ _ _ _ _ _ (Act.put _ (some 136) _) _
        try simp only [Act.put, List.setIfInBounds_toArray, List.set_cons_zero, List.set_cons_succ]
        refine wpAnyH_take (i := 16) (v := undef) rfl (by kernel_rfl) (by kernel_rfl) (by kernel_rfl) (fun _ _ _ h => h) (Or.inr ⟨by kernel_rfl, rfl⟩) hHeld ?_
        change wpAnyH _ _ _ _ _ _ _ (Act.put _ (some 137) _) _
        try simp only [Act.put, List.setIfInBounds_toArray, List.set_cons_zero, List.set_cons_succ]
        refine wpAnyH_take (i := 17) (v := undef) rfl (by kernel_rfl) (by kernel_rfl) (by kernel_rfl) (fun _ _ _ h => h) (Or.inr ⟨by kernel_rfl, rfl⟩) hHeld ?_
        change wpAnyH _ _ _ _ _ _ _ (Act.put _ (some 138) _) _
        try simp only [Act.put, List.setIfInBounds_toArray, List.set_cons_zero, List.set_cons_succ]
        refine wpAnyH_take (i := 18) (v := undef) rfl (by kernel_rfl) (by kernel_rfl) (by kernel_rfl) (fun _ _ _ h => h) (Or.inr ⟨by kernel_rfl, rfl⟩) hHeld ?_
        change wpAnyH _ _ _ _ _ _ _ (Act.put _ (some 139) _) _
        try simp only [Act.put, List.setIfInBounds_toArray, List.set_cons_zero, List.set_cons_succ]
        refine wpAnyH_take (i := 19) (v := undef) rfl (by kernel_rfl) (by kernel_rfl) (by kernel_rfl) (fun _ _ _ h => h) (Or.inr ⟨by kernel_rfl, rfl⟩) hHeld ?_
        change wpAnyH _ _ _ _ _ _ _ (Act.put _ (some 140) _) _
        try simp only [Act.put, List.setIfInBounds_toArray, List.set_cons_zero, List.set_cons_succ]
        refine wpAnyH_take (i := 20) (v := undef) rfl (by kernel_rfl) (by kernel_rfl) (by kernel_rfl) (fun _ _ _ h => h) (Or.inr ⟨by kernel_rfl, rfl⟩) hHeld ?_
        change wpAnyH _ _ _ _ _ _ _ (Act.put _ (some 141) _) _
        try simp only [Act.put, List.setIfInBounds_toArray, List.set_cons_zero, List.set_cons_succ]
        refine wpAnyH_take (i := 21) (v := ?_) rfl (by kernel_rfl) (by kernel_rfl) (by kernel_rfl) (fun _ _ _ h => h) (Or.inl ⟨by rfl, ?_⟩) hHeld ?_
        rotate_left
        · (intro w' hSw; (try dsimp only at hSw); go_simp) <;> with_reducible rfl
        change wpAnyH _ _ _ _ _ _ _ (Act.put _ (some 142) _) _
        try simp only [Act.put, List.setIfInBounds_toArray, List.set_cons_zero, List.set_cons_succ]
        refine wpAnyH_done (by kernel_rfl) ?_ _
        obtain ⟨up7, g7⟩ := HUPS.out _ u6
        have r7 := (r5.drewN 1).upd u6 hD1b
        have q7 := (q5.drewN 1).upd u6 hDb
        have A7 := h5d.seats (rfl) hs6 u6
        obtain ⟨w7, hw7⟩ : ∃ w7, w6 = w7 := ⟨_, rfl⟩
        rw [hw7] at A7 r7 q7 g7 up7 ⊢
        clear e0 e1 e2 g0 g1' g2 r5 q5 u6 hs6 h5 h5d hw7
        have y0 := r7.cell (i := 0) rfl
        have y1 := r7.cell (i := 1) rfl
        have y2 := r7.cell (i := 2) rfl
        have y3 := r7.cell (i := 3) rfl
        have z0 := q7.cell (i := 0) rfl
        have z1 := q7.cell (i := 1) rfl
        have z2 := q7.cell (i := 2) rfl
        have z3 := q7.cell (i := 3) rfl
        have k0 := q7.frozen 0
        have k1 := q7.frozen 1
        have k2 := q7.frozen 2
        have k3 := q7.frozen 3
        go_wp2_with fail
        have RE := did4 q7 (.int .i64 ev) (.int .i64 i1) (.int .i64 i2) (.int .i64 i3)
        have UE := upd4 w7 D (.int .i64 ev) (.int .i64 i1) (.int .i64 i2) (.int .i64 i3)
        obtain ⟨w8, hw8⟩ : ∃ w8, (((w7.setCell ⟨D, 0, none⟩ (.int .i64 ev)).setCell ⟨D, 1, none⟩ (.int .i64 i1)).setCell ⟨D, 2, none⟩ (.int .i64 i2)).setCell ⟨D, 3, none⟩ (.int .i64 i3) = w8 := ⟨_, rfl⟩
        rw [hw8] at RE UE ⊢
        have g0 := RE.cell (i := 0) rfl
        have g1 := RE.cell (i := 1) rfl
        have g2 := RE.cell (i := 2) rfl
        have g3 := RE.cell (i := 3) rfl
        refine bodyPost_ret (v := didm (ev, b1, b2, b3)) (by rw [HDM.out]; simp [results, Try.results90, go_sem, g0, g1, g2, g3]) rfl ?_
        rw [HST2.out]
        refine ⟨rfl, A7.keep UE (fun i hi e => hDm i hi e), R', g7.keep UE (fun i hi e => (HGN.out i hi).1 e), up7.then UE (fun i hi e => by have := HD.out; omega), fun i hi => ?_⟩
        rcases HRS.out i hi with h | h
        · exact .inl h
        · exact .inr (by omega)
      · have hf : fin st.seats (q : Int) ev = (true, st.seats.set q (2, -1)) := hf
        rw [hf, show b2i ((true, st.seats.set q (2, -1)) : Bool × List (Int × Int)).1 = 1 from rfl] at KE
        dsimp only at HST'
        rw [hf] at HST'
        rw [if_neg hz3] at h5 h5d
        have HST2 := Lib.hid HST'
        have HKE := Lib.hid KE
        clear KE HST' HST hf hz3
        go_upto_region 19 with (fail)
        refine wp_region_held_drew (S := fun w' => w'.cell? ⟨x, 0, none⟩ = some (.pointer (some ⟨sx, 0, none⟩)) ∧ w'.cell? ⟨sx, 0, none⟩ = some (.slice (some ⟨sb, 0, none⟩) st.seats.length cs') ∧ w'.cell? ⟨D + 1, 0, none⟩ = some (.int .i64 ev)) (by kernel_rfl) ⟨g0, g2, g1'⟩ (fun hHeld => ?_)
        refine wpAnyH_take (i := 0) (v := ?_) rfl (by kernel_rfl) (by kernel_rfl) (by kernel_rfl) (fun _ _ _ h => h) (Or.inl ⟨by rfl, ?_⟩) hHeld ?_
        rotate_left
        · (intro w' hSw; (try dsimp only at hSw); go_simp) <;> with_reducible rfl
        change wpAnyH _ _ _ _ _ _ _ (Act.put _ (some 121) _) _
        try simp only [Act.put, List.setIfInBounds_toArray, List.set_cons_zero, List.set_cons_succ]
        refine wpAnyH_take (i := 1) (v := ?_) rfl (by kernel_rfl) (by kernel_rfl) (by kernel_rfl) (fun _ _ _ h => h) (Or.inl ⟨by rfl, ?_⟩) hHeld ?_
        rotate_left
        · (intro w' hSw; (try dsimp only at hSw); go_simp) <;> with_reducible rfl
        change wpAnyH _ _ _ _ _ _ _ (Act.put _ (some 122) _) _
        try simp only [Act.put, List.setIfInBounds_toArray, List.set_cons_zero, List.set_cons_succ]
        refine wpAnyH_take (i := 2) (v := ?_) rfl (by kernel_rfl) (by kernel_rfl) (by kernel_rfl) (fun _ _ _ h => h) (Or.inl ⟨by rfl, ?_⟩) hHeld ?_
        rotate_left
        · (intro w' hSw; (try dsimp only at hSw); go_simp) <;> with_reducible rfl
        change wpAnyH _ _ _ _ _ _ _ (Act.put _ (some 123) _) _
        try simp only [Act.put, List.setIfInBounds_toArray, List.set_cons_zero, List.set_cons_succ]
        refine wpAnyH_take (i := 3) (v := ?_) rfl (by kernel_rfl) (by kernel_rfl) (by kernel_rfl) (fun _ _ _ h => h) (Or.inl ⟨by rfl, ?_⟩) hHeld ?_
        rotate_left
        · (intro w' hSw; (try dsimp only at hSw); go_simp) <;> with_reducible rfl
        change wpAnyH _ _ _ _ _ _ _ (Act.put _ (some 124) _) _
        try simp only [Act.put, List.setIfInBounds_toArray, List.set_cons_zero, List.set_cons_succ]
        refine wpAnyH_take (i := 4) (v := ?_) rfl (by kernel_rfl) (by kernel_rfl) (by kernel_rfl) (fun _ _ _ h => h) (Or.inl ⟨by rfl, ?_⟩) hHeld ?_
        rotate_left
        · (intro w' hSw; (try dsimp only at hSw); go_simp) <;> with_reducible rfl
        change wpAnyH _ _ _ _ _ _ _ (Act.put _ (some 125) _) _
        try simp only [Act.put, List.setIfInBounds_toArray, List.set_cons_zero, List.set_cons_succ]
        refine wpAnyH_take (i := 5) (v := ?_) rfl (by kernel_rfl) (by kernel_rfl) (by kernel_rfl) (fun _ _ _ h => h) (Or.inl ⟨by rfl, ?_⟩) hHeld ?_
        rotate_left
        · (intro w' hSw; (try dsimp only at hSw); go_simp) <;> with_reducible rfl
        change wpAnyH _ _ _ _ _ _ _ (Act.put _ (some 126) _) _
        try simp only [Act.put, List.setIfInBounds_toArray, List.set_cons_zero, List.set_cons_succ]
        refine wpAnyH_take (i := 6) (v := ?_) rfl (by kernel_rfl) (by kernel_rfl) (by kernel_rfl) (fun _ _ _ h => h) (Or.inl ⟨by rfl, ?_⟩) hHeld ?_
        rotate_left
        · (intro w' hSw; (try dsimp only at hSw); go_simp) <;> with_reducible rfl
        change wpAnyH _ _ _ _ _ _ _ (Act.put _ (some 127) _) _
        try simp only [Act.put, List.setIfInBounds_toArray, List.set_cons_zero, List.set_cons_succ]
        refine wpAnyH_ready (rs := [7]) (by kernel_rfl) (by simp) ?_
        refine AllReadyH.cons rfl (fun K hK => ?_) AllReadyH.nil
        go_simp
        refine HKE.out.mono ?_
        rintro e w6 ⟨rfl, hs6, u6⟩
        have e0 := cell_upd u6 g0 hxb
        have e2 := cell_upd u6 g2 hsb
        have e1 := cell_upd u6 g1' hD1b
        have y6 := hs6.st.cell (sts_get (k := q) (by simpa using hq))
        rw [show (st.seats.set q (2, -1)).getD q (0, -1) = (2, -1) by simp [List.getD, List.getElem?_set_self hq]] at y6
        simp only []
        refine hK.out _ _ ⟨e0, e2, e1⟩ (fun hHeld => ?_)
        clear hK K
        try simp only [Act.put, List.setIfInBounds_toArray, List.set_cons_zero, List.set_cons_succ]
        refine wpAnyH_take (i := 8) (v := ?_) rfl (by kernel_rfl) (by kernel_rfl) (by kernel_rfl) (fun _ _ _ h => h) (Or.inl ⟨by rfl, ?_⟩) hHeld ?_
        rotate_left
        · (intro w' hSw; (try dsimp only at hSw); go_simp) <;> with_reducible rfl
        change wpAnyH _ _ _ _ _ _ _ (Act.put _ (some 129) _) _
        try simp only [Act.put, List.setIfInBounds_toArray, List.set_cons_zero, List.set_cons_succ]
        refine wpAnyH_take (i := 9) (v := ?_) rfl (by kernel_rfl) (by kernel_rfl) (by kernel_rfl) (fun _ _ _ h => h) (Or.inl ⟨by rfl, ?_⟩) hHeld ?_
        rotate_left
        · (intro w' hSw; (try dsimp only at hSw); go_simp) <;> with_reducible rfl
        change wpAnyH _ _ _ _ _ _ _ (Act.put _ (some 130) _) _
        try simp only [Act.put, List.setIfInBounds_toArray, List.set_cons_zero, List.set_cons_succ]
        refine wpAnyH_take (i := 10) (v := ?_) rfl (by kernel_rfl) (by kernel_rfl) (by kernel_rfl) (fun _ _ _ h => h) (Or.inl ⟨by rfl, ?_⟩) hHeld ?_
        rotate_left
        · (intro w' hSw; (try dsimp only at hSw); go_simp) <;> with_reducible rfl
        change wpAnyH _ _ _ _ _ _ _ (Act.put _ (some 131) _) _
        try simp only [Act.put, List.setIfInBounds_toArray, List.set_cons_zero, List.set_cons_succ]
        refine wpAnyH_take (i := 11) (v := ?_) rfl (by kernel_rfl) (by kernel_rfl) (by kernel_rfl) (fun _ _ _ h => h) (Or.inl ⟨by rfl, ?_⟩) hHeld ?_
        rotate_left
        · (intro w' hSw; (try dsimp only at hSw); go_simp) <;> with_reducible rfl
        change wpAnyH _ _ _ _ _ _ _ (Act.put _ (some 132) _) _
        try simp only [Act.put, List.setIfInBounds_toArray, List.set_cons_zero, List.set_cons_succ]
        refine wpAnyH_take (i := 12) (v := ?_) rfl (by kernel_rfl) (by kernel_rfl) (by kernel_rfl) (fun _ _ _ h => h) (Or.inl ⟨by rfl, ?_⟩) hHeld ?_
        rotate_left
        · (intro w' hSw; (try dsimp only at hSw); go_simp) <;> with_reducible rfl
        change wpAnyH _ _ _ _ _ _ _ (Act.put _ (some 133) _) _
        try simp only [Act.put, List.setIfInBounds_toArray, List.set_cons_zero, List.set_cons_succ]
        refine wpAnyH_take (i := 13) (v := ?_) rfl (by kernel_rfl) (by kernel_rfl) (by kernel_rfl) (fun _ _ _ h => h) (Or.inl ⟨by rfl, ?_⟩) hHeld ?_
        rotate_left
        · (intro w' hSw; (try dsimp only at hSw); go_simp) <;> with_reducible rfl
        change wpAnyH _ _ _ _ _ _ _ (Act.put _ (some 134) _) _
        try simp only [Act.put, List.setIfInBounds_toArray, List.set_cons_zero, List.set_cons_succ]
        refine wpAnyH_take (i := 14) (v := ?_) rfl (by kernel_rfl) (by kernel_rfl) (by kernel_rfl) (fun _ _ _ h => h) (Or.inl ⟨by rfl, ?_⟩) hHeld ?_
        rotate_left
        · (intro w' hSw; (try dsimp only at hSw); go_simp) <;> with_reducible rfl
        change wpAnyH _ _ _ _ _ _ _ (Act.put _ (some 135) _) _
        try simp only [Act.put, List.setIfInBounds_toArray, List.set_cons_zero, List.set_cons_succ]
        refine wpAnyH_take (i := 15) (v := ?_) rfl (by kernel_rfl) (by kernel_rfl) (by kernel_rfl) (fun _ _ _ h => h) (Or.inl ⟨by rfl, ?_⟩) hHeld ?_
        rotate_left
        · (intro w' hSw; (try dsimp only at hSw); go_simp) <;> with_reducible rfl
        change wpAnyH _ _ _ _ _ _ _ (Act.put _ (some 136) _) _
        try simp only [Act.put, List.setIfInBounds_toArray, List.set_cons_zero, List.set_cons_succ]
        refine wpAnyH_take (i := 16) (v := ?_) rfl (by kernel_rfl) (by kernel_rfl) (by kernel_rfl) (fun _ _ _ h => h) (Or.inl ⟨by rfl, ?_⟩) hHeld ?_
        rotate_left
        · (intro w' hSw; (try dsimp only at hSw); go_simp) <;> with_reducible rfl
        change wpAnyH _ _ _ _ _ _ _ (Act.put _ (some 137) _) _
        try simp only [Act.put, List.setIfInBounds_toArray, List.set_cons_zero, List.set_cons_succ]
        refine wpAnyH_take (i := 17) (v := ?_) rfl (by kernel_rfl) (by kernel_rfl) (by kernel_rfl) (fun _ _ _ h => h) (Or.inl ⟨by rfl, ?_⟩) hHeld ?_
        rotate_left
        · (intro w' hSw; (try dsimp only at hSw); go_simp) <;> with_reducible rfl
        change wpAnyH _ _ _ _ _ _ _ (Act.put _ (some 138) _) _
        try simp only [Act.put, List.setIfInBounds_toArray, List.set_cons_zero, List.set_cons_succ]
        refine wpAnyH_take (i := 18) (v := ?_) rfl (by kernel_rfl) (by kernel_rfl) (by kernel_rfl) (fun _ _ _ h => h) (Or.inl ⟨by rfl, ?_⟩) hHeld ?_
        rotate_left
        · (intro w' hSw; (try dsimp only at hSw); go_simp) <;> with_reducible rfl
        change wpAnyH _ _ _ _ _ _ _ (Act.put _ (some 139) _) _
        try simp only [Act.put, List.setIfInBounds_toArray, List.set_cons_zero, List.set_cons_succ]
        refine wpAnyH_ready (rs := [19]) (by kernel_rfl) (by simp) ?_
        refine AllReadyH.cons rfl (fun K hK => ?_) AllReadyH.nil
        go_simp
        refine hK.out _ _ hHeld (fun hHeld => ?_)
        clear hK K
        try simp only [Act.put, List.setIfInBounds_toArray, List.set_cons_zero, List.set_cons_succ]
        refine wpAnyH_take (i := 20) (v := ?_) rfl (by kernel_rfl) (by kernel_rfl) (by kernel_rfl) (fun _ _ _ h => h) (Or.inl ⟨by rfl, ?_⟩) hHeld ?_
        rotate_left
        · (intro w' hSw; (try dsimp only at hSw); go_simp) <;> with_reducible rfl
        change wpAnyH _ _ _ _ _ _ _ (Act.put _ (some 141) _) _
        try simp only [Act.put, List.setIfInBounds_toArray, List.set_cons_zero, List.set_cons_succ]
        refine wpAnyH_take (i := 21) (v := ?_) rfl (by kernel_rfl) (by kernel_rfl) (by kernel_rfl) (fun _ _ _ h => h) (Or.inl ⟨by rfl, ?_⟩) hHeld ?_
        rotate_left
        · (intro w' hSw; (try dsimp only at hSw); go_simp) <;> with_reducible rfl
        change wpAnyH _ _ _ _ _ _ _ (Act.put _ (some 142) _) _
        try simp only [Act.put, List.setIfInBounds_toArray, List.set_cons_zero, List.set_cons_succ]
        refine wpAnyH_done (by kernel_rfl) ?_ _
        obtain ⟨up7, g7⟩ := HUPS.out _ u6
        have r7 := (r5.drewN 1).upd u6 hD1b
        have q7 := (q5.drewN 1).upd u6 hDb
        have A7 := h5d.seats (HLEN.out 2 (-1)) hs6 u6
        obtain ⟨w7, hw7⟩ : ∃ w7, w6 = w7 := ⟨_, rfl⟩
        rw [hw7] at A7 r7 q7 g7 up7 ⊢
        clear e0 e1 e2 y6 g0 g1' g2 r5 q5 u6 hs6 h5 h5d hw7
        have y0 := r7.cell (i := 0) rfl
        have y1 := r7.cell (i := 1) rfl
        have y2 := r7.cell (i := 2) rfl
        have y3 := r7.cell (i := 3) rfl
        have z0 := q7.cell (i := 0) rfl
        have z1 := q7.cell (i := 1) rfl
        have z2 := q7.cell (i := 2) rfl
        have z3 := q7.cell (i := 3) rfl
        have k0 := q7.frozen 0
        have k1 := q7.frozen 1
        have k2 := q7.frozen 2
        have k3 := q7.frozen 3
        go_wp2_with fail
        have RE := did4 q7 (.int .i64 ev) (.int .i64 i1) (.int .i64 i2) (.int .i64 i3)
        have UE := upd4 w7 D (.int .i64 ev) (.int .i64 i1) (.int .i64 i2) (.int .i64 i3)
        obtain ⟨w8, hw8⟩ : ∃ w8, (((w7.setCell ⟨D, 0, none⟩ (.int .i64 ev)).setCell ⟨D, 1, none⟩ (.int .i64 i1)).setCell ⟨D, 2, none⟩ (.int .i64 i2)).setCell ⟨D, 3, none⟩ (.int .i64 i3) = w8 := ⟨_, rfl⟩
        rw [hw8] at RE UE ⊢
        have g0 := RE.cell (i := 0) rfl
        have g1 := RE.cell (i := 1) rfl
        have g2 := RE.cell (i := 2) rfl
        have g3 := RE.cell (i := 3) rfl
        refine bodyPost_ret (v := didm (ev, b1, b2, b3)) (by rw [HDM.out]; simp [results, Try.results90, go_sem, g0, g1, g2, g3]) rfl ?_
        rw [HST2.out]
        refine ⟨rfl, A7.keep UE (fun i hi e => hDm i hi e), R', g7.keep UE (fun i hi e => (HGN.out i hi).1 e), up7.then UE (fun i hi e => by have := HD.out; omega), fun i hi => ?_⟩
        rcases HRS.out i hi with h | h
        · exact .inl h
        · exact .inr (by omega)
end Go.Proofs.Ytoohkcpkodpnmaa.Ref10
