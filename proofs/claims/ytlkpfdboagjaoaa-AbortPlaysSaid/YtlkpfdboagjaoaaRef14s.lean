/- The document's lock of whom time may run out: its Step, by value: the same as the program's. -/
import Derived.Test.YtlkpfdboagjaoaaRef14L
import Derived.Test.YtlkpfdboagjaoaaAbortI
namespace Go.Proofs.Ytlkpfdboagjaoaa.Ref14
open Go Go.RowKit Go.Proofs.Ytlkpfdboagjaoaa.Heap Go.Proofs.Ytlkpfdboagjaoaa.Open Go.Proofs.Ytlkpfdboagjaoaa.Seat Go.Proofs.Ytlkpfdboagjaoaa.Mach Go.Proofs.Ytlkpfdboagjaoaa.Has Go.Proofs.Ytlkpfdboagjaoaa.Ref09 Go.Proofs.Ytlkpfdboagjaoaa.Modl Go.Proofs.Ytlkpfdboagjaoaa.SeatP Go.Proofs.Ytlkpfdboagjaoaa.StepU Go.Proofs.Ytlkpfdboagjaoaa.Abort
variable {b : Bk} {c : Nat}
theorem set_eq (l l' : List P) (q : Nat) (hl : l.length = l'.length) (ho : ∀ u, u ≠ q → l.getD u p0 = l'.getD u p0) (y : P) : l.set q y = l'.set q y := by
  apply List.ext_getElem
  · simp [hl]
  · intro i h1 h2
    simp only [List.length_set] at h1 h2
    by_cases e : i = q
    · subst e; simp
    · rw [List.getElem_set_ne (fun z => e z.symm), List.getElem_set_ne (fun z => e z.symm)]
      have := ho i e
      rw [getD_lt _ _ _ h1, getD_lt _ _ _ h2] at this
      exact this
/-- The document's other ones are the program's, where it has some. -/
def Rel (st : St) (al : List Int) : Prop := ∀ t, (st.pls.getD t p0).o = 0 ∨ al.getD t 0 = (st.pls.getD t p0).o
theorem lockR {w : World} {st : St} {al : List Int} {y n q : Nat} {R : Nat → Prop} (h : MAt b w c st.seats st.pls al) (hR : Ref04.RO w y R n st.ws st.ts) (hd : ∀ i, R i → ¬ fm b i) (hf : st.ts.length < 1000000) (n8 : n ≤ 8) (hn : st.seats.length = n) (hws : st.ws.length ≤ 100000) (hwd : Mem.Wd st.ws) (hq : q < st.seats.length) (hal : (st.pls.getD q p0).o = 0 ∨ al.getD q 0 = (st.pls.getD q p0).o) (now : Int) (h1 : Q1 c (st.pls.getD q p0)) (hc8 : c ≤ 8) :
    Calls Try.prog 108 #[.pointer (some ⟨b.x, 0, none⟩), .pointer (some ⟨y, 0, none⟩), .int .i64 q, .int .i64 q, .int .i64 now] w fun e w' =>
      e = .returned (didm (lockS n 0 c st q q (lateB st.seats q now)).1) ∧ Post b c y n R st.seats al q w (lockS n 0 c st q q (lateB st.seats q now)).1.1 (lockS n 0 c st q q (lateB st.seats q now)).2 w' := by
  obtain ⟨⟨o1, _⟩, ⟨o3, _⟩, _⟩ := h.ok q (by rw [h.l1]; exact hq)
  obtain ⟨q1, q2, q3⟩ := h1
  rcases (show (st.pls.getD q p0).s = 0 ∨ (st.pls.getD q p0).s = 1 ∨ (st.pls.getD q p0).s = 2 ∨ (st.pls.getD q p0).s = 3 ∨ (st.pls.getD q p0).s = 4 ∨ (st.pls.getD q p0).s = 5 ∨ (st.pls.getD q p0).s = 6 ∨ (st.pls.getD q p0).s = 7 by omega) with e | e | e | e | e | e | e | e
  · exact lock0 h hR hd hf n8 hn hws hwd hq hal now o3 (q2 e) hc8 e
  · exact lock1 h hR hd hf n8 hn hws hwd hq hal now e
  · exact lock2 h hR hd hf n8 hn hws hwd hq hal now e
  · exact lock3 h hR hd hf n8 hn hws hwd hq hal now e
  · exact lock4 h hR hd hf n8 hn hws hwd hq hal now e
  · exact lock5 h hR hd hf n8 hn hws hwd hq hal now (q3 e) e
  · exact lock6 h hR hd hf n8 hn hws hwd hq hal now e
  · exact lock7 h hR hd hf n8 hn hws hwd hq hal now e
theorem unlR {w : World} {st : St} {al : List Int} {y n q : Nat} {R : Nat → Prop} (h : MAt b w c st.seats st.pls al) (hR : Ref04.RO w y R n st.ws st.ts) (hd : ∀ i, R i → ¬ fm b i) (hf : st.ts.length < 1000000) (n8 : n ≤ 8) (hn : st.seats.length = n) (hws : st.ws.length ≤ 100000) (hwd : Mem.Wd st.ws) (hq : q < st.seats.length) (hal : (st.pls.getD q p0).o = 0 ∨ al.getD q 0 = (st.pls.getD q p0).o) (h3 : Q3 (st.pls.getD q p0)) :
    Calls Try.prog 109 #[.pointer (some ⟨b.x, 0, none⟩), .pointer (some ⟨y, 0, none⟩), .int .i64 q, .int .i64 q] w fun e w' =>
      e = .returned (.int .i64 (unlS n 0 st q q).1) ∧ Post b c y n R st.seats al q w (unlS n 0 st q q).1 (unlS n 0 st q q).2 w' := by
  obtain ⟨⟨o1, _⟩, _, _⟩ := h.ok q (by rw [h.l1]; exact hq)
  obtain ⟨q1, q2, q3⟩ := h3
  rcases (show (st.pls.getD q p0).s = 0 ∨ (st.pls.getD q p0).s = 1 ∨ (st.pls.getD q p0).s = 2 ∨ (st.pls.getD q p0).s = 3 ∨ (st.pls.getD q p0).s = 4 ∨ (st.pls.getD q p0).s = 5 by omega) with e | e | e | e | e | e
  · exact unl0 h hR hd hf n8 hn hws hwd hq hal e
  · exact unl1 h hR hd hf n8 hn hws hwd hq hal e
  · exact unl2 h hR hd hf n8 hn hws hwd hq hal e
  · exact unl3 h hR hd hf n8 hn hws hwd hq hal (q2 (.inl e)) e
  · exact unl4 h hR hd hf n8 hn hws hwd hq hal (q2 (.inr e)) q3 e
  · exact unl5 h hR hd hf n8 hn hws hwd hq hal e
theorem fin_no {sl : List (Int × Int)} {u : Nat} {ev : Int} (h : (fin sl u ev).1 = false) (h1 : stt sl u = 1 ∧ (ev = 0 ∨ ev = 1 ∨ ev = 2 ∨ ev = 6) ∨ stt sl u = 3 ∧ (ev = 0 ∨ ev = 3) ∨ ev = 0) : ev = 0 := by
  rcases h1 with ⟨h1, e⟩ | ⟨h1, e⟩ | e
  · rcases e with e | e
    · exact e
    · obtain ⟨z, hf, _⟩ := fin_1 h1 (show ev = 1 ∨ ev = 2 ∨ ev = 6 from e)
      rw [hf] at h; cases h
  · rcases e with e | rfl
    · exact e
    · rw [fin_3 h1] at h; cases h
  · exact e
set_option maxHeartbeats 8000000 in
set_option maxRecDepth 20000 in
theorem stepOut {w : World} {st : St} {al : List Int} {y n : Nat} {R : Nat → Prop} (h : MAt b w c st.seats st.pls al) (hrel : Rel st al) (hR : Ref04.RO w y R n st.ws st.ts) (t now : Int) (hin : inB t st.seats.length = false) :
    Calls Try.prog 106 #[.pointer (some ⟨b.x, 0, none⟩), .pointer (some ⟨y, 0, none⟩), .int .i64 t, .int .i64 t, .int .i64 now] w fun e w' => e = .returned (didm (Abort.step n 0 c st t t now).1) ∧ (∃ al', MAt b w' c (Abort.step n 0 c st t t now).2.seats (Abort.step n 0 c st t t now).2.pls al' ∧ Rel (Abort.step n 0 c st t t now).2 al') ∧
      ∃ R', Ref04.RO w' y R' n (Abort.step n 0 c st t t now).2.ws (Abort.step n 0 c st t t now).2.ts ∧ Upd (fun i => fm b i ∨ R i) w w' ∧ ∀ i, R' i → R i ∨ w.heap.size ≤ i := by
  have c3 := h.top.cell (i := 3) rfl
  have hxl := h.top.lt
  have hz : state st.seats t = 0 := by unfold state; rw [hin]; rfl
  have idle : Abort.step n 0 c st t t now = ((0, false, false, false), st) := by
    have em : midS n 0 c st t t now = ((0, false, false, false), st) := by unfold midS; rw [hz, if_neg (by decide), if_neg (by decide)]
    unfold Abort.step
    rw [em]
    dsimp only
    rw [fin_0, if_neg Bool.false_ne_true]
  rw [idle]
  clear idle
  have fin0 : ∀ w', Below w.heap.size w w' → (∃ al', MAt b w' c st.seats st.pls al' ∧ Rel st al') ∧ ∃ R', Ref04.RO w' y R' n st.ws st.ts ∧ Upd (fun i => fm b i ∨ R i) w w' ∧ ∀ i, R' i → R i ∨ w.heap.size ≤ i := fun w' hB =>
    ⟨⟨al, h.keep (Upd.of_below (S := fun _ => False) hB) (fun _ _ => id), hrel⟩, R, hR.below hB, Upd.of_below hB, fun i hi => .inl hi⟩
  have FIN := Lib.hid fin0
  have hb : ∀ o : Obj, Below w.heap.size w (w.alloc o) := fun o => (Below.refl _ _).alloc (Nat.le_refl _) _
  clear fin0 h hR hz hrel
  by_cases t0 : t < 0
  · go_enter Try.func106, Try.ntmps106
    go_wp2_with fail
    refine bodyPost_ret (v := didm (0, false, false, false)) (by simp [results, Try.results106, go_sem, didm, b2i]) rfl ?_
    exact ⟨rfl, FIN.out _ (hb _)⟩
  · have t1 : (st.seats.length : Int) ≤ t := by simp [inB] at hin; omega
    have t0' : decide (t < 0) = false := by simpa using t0
    clear hin
    go_enter Try.func106, Try.ntmps106
    go_wp2_with fail
    refine bodyPost_ret (v := didm (0, false, false, false)) (by simp [results, Try.results106, go_sem, didm, b2i]) rfl ?_
    exact ⟨rfl, FIN.out _ (hb _)⟩
set_option maxHeartbeats 16000000 in
set_option maxRecDepth 40000 in
theorem stepIdle {w : World} {st : St} {al : List Int} {y n : Nat} {R : Nat → Prop} (h : MAt b w c st.seats st.pls al) (hrel : Rel st al) (hR : Ref04.RO w y R n st.ws st.ts) (hI : IV n c st) (hd : ∀ i, R i → ¬ fm b i) (hf : st.ts.length < 1000000) (n8 : n ≤ 8) (hws : st.ws.length ≤ 100000) (hwd : Mem.Wd st.ws) (hc8 : c ≤ 8) (q : Nat) (now : Int) (hq : q < st.seats.length) (h1s : state st.seats (q : Int) ≠ 1) (h3s : state st.seats (q : Int) ≠ 3) :
    Calls Try.prog 106 #[.pointer (some ⟨b.x, 0, none⟩), .pointer (some ⟨y, 0, none⟩), .int .i64 q, .int .i64 q, .int .i64 now] w fun e w' => e = .returned (didm (Abort.step n 0 c st q q now).1) ∧ (∃ al', MAt b w' c (Abort.step n 0 c st q q now).2.seats (Abort.step n 0 c st q q now).2.pls al' ∧ Rel (Abort.step n 0 c st q q now).2 al') ∧
      ∃ R', Ref04.RO w' y R' n (Abort.step n 0 c st q q now).2.ws (Abort.step n 0 c st q q now).2.ts ∧ Upd (fun i => fm b i ∨ R i) w w' ∧ ∀ i, R' i → R i ∨ w.heap.size ≤ i := by
  have hn : st.seats.length = n := hI.sl
  have hp : q < st.pls.length := by rw [h.l1]; exact hq
  have c0 := h.top.cell (i := 0) rfl
  have c3 := h.top.cell (i := 3) rfl
  obtain ⟨cs, cd, htop⟩ := h.seat.top
  have u0 := htop.cell (i := 0) rfl
  have v0 := h.seat.st.cell (sts_get hq)
  obtain ⟨z, hz⟩ : ∃ z, state st.seats (q : Int) = z := ⟨_, rfl⟩
  have hzq : (st.seats.getD q (0, -1)).1 = z := by rw [← hz]; unfold state; rw [inB_mk hq, if_pos rfl, Int.toNat_natCast]
  have hzs : stt st.seats q = z := by rw [← state_nat]; exact hz
  rw [hzq] at v0
  have hlx := h.lt b.x (fm_all b).1
  have hls := h.lt b.sx (fm_all b).2.1
  have hlb := h.lt b.sb (fm_all b).2.2.1
  have hlm := h.lt
  have hlr := hR.lt
  have D1 : Upd (fun _ => False) w ((w.alloc (.cells #[.int .i64 0, .int .i64 0, .int .i64 0, .int .i64 0] 138)).alloc (.cells #[.int .i64 0, .int .i64 0, .int .i64 0, .int .i64 0] 138)) := ((Upd.refl _ w).alloc _).alloc _
  have h1 := h.keep D1 (fun _ _ => id)
  have g1 := hR.keep D1 (fun _ _ => id)
  have R0 : Row ((w.alloc (.cells #[.int .i64 0, .int .i64 0, .int .i64 0, .int .i64 0] 138)).alloc (.cells #[.int .i64 0, .int .i64 0, .int .i64 0, .int .i64 0] 138)) w.heap.size [.int .i64 0, .int .i64 0, .int .i64 0, .int .i64 0] := (Row.new' rfl).alloc _
  have R1 : Row ((w.alloc (.cells #[.int .i64 0, .int .i64 0, .int .i64 0, .int .i64 0] 138)).alloc (.cells #[.int .i64 0, .int .i64 0, .int .i64 0, .int .i64 0] 138)) (w.heap.size + 1) [.int .i64 0, .int .i64 0, .int .i64 0, .int .i64 0] := Row.new' (by simp)
  have up1 : Upd (fun i => fm b i ∨ R i) w ((w.alloc (.cells #[.int .i64 0, .int .i64 0, .int .i64 0, .int .i64 0] 138)).alloc (.cells #[.int .i64 0, .int .i64 0, .int .i64 0, .int .i64 0] 138)) := D1.mono fun _ _ z => z.elim
  have b1 : decide ((q : Int) < 0) = false := by rw [decide_eq_false_iff_not]; omega
  have b2 : decide ((st.seats.length : Int) ≤ (q : Int)) = false := by rw [decide_eq_false_iff_not]; omega
  have b3 : decide (st.seats.length ≤ q) = false := by rw [decide_eq_false_iff_not]; omega
  obtain ⟨D, hD⟩ : ∃ D, w.heap.size = D := ⟨_, rfl⟩
  have HD := Lib.hid hD
  obtain ⟨W, hW⟩ : ∃ W, (w.alloc (.cells #[.int .i64 0, .int .i64 0, .int .i64 0, .int .i64 0] 138)).alloc (.cells #[.int .i64 0, .int .i64 0, .int .i64 0, .int .i64 0] 138) = W := ⟨_, rfl⟩
  rw [hW] at h1 g1 R0 R1 up1
  rw [hD] at R0 R1 hlm hlr
  have HW := Lib.hid hW
  have HLM := Lib.hid hlm
  have HLR := Lib.hid hlr
  have HWD := Lib.hid (show W.heap.size = D + 2 by rw [← hW, ← hD]; simp)
  have nD : ¬ R D := fun h => by have := hlr D h; omega
  have nD1 : ¬ R (D + 1) := fun h => by have := hlr _ h; omega
  have HF := Lib.hid hf
  have HN := Lib.hid hn
  have HN8 := Lib.hid n8
  have HWS := Lib.hid hws
  have HDD := Lib.hid hd
  have HWDD := Lib.hid hwd
  have HREL := Lib.hid hrel
  have HC8 := Lib.hid hc8
  have HZS := Lib.hid hzs
  have hlen := h.l1
  have HLEN := Lib.hid hlen
  have HST := Lib.hid (show Abort.step n 0 c st q q now = ((midS n 0 c st q q now).1, { (midS n 0 c st q q now).2 with seats := (fin (midS n 0 c st q q now).2.seats q (midS n 0 c st q q now).1.1).2, pls := if (fin (midS n 0 c st q q now).2.seats q (midS n 0 c st q q now).1.1).1 = true then rest (midS n 0 c st q q now).2.pls (q : Int).toNat else (midS n 0 c st q q now).2.pls }) from rfl)
  have hq1 : (0 : Int) ≤ (q : Int) := by omega
  have hq2 : (q : Int) < (st.seats.length : Int) := by omega
  have hDm : ∀ i, fm b i → i ≠ D := fun i hi e => by have := HLM.out i hi; omega
  have hDm1 : ∀ i, fm b i → i ≠ D + 1 := fun i hi e => by have := HLM.out i hi; omega
  clear hlm hlr hR D1 hW hD hd hf hws h hn hwd n8 htop hrel hc8 hzs hlen
  obtain ⟨st', hst'⟩ : ∃ st', st = st' := ⟨_, rfl⟩
  obtain ⟨pl', hpl'⟩ : ∃ pl', st.pls = pl' := ⟨_, rfl⟩
  obtain ⟨al', hal'⟩ : ∃ al', al = al' := ⟨_, rfl⟩
  obtain ⟨ev, hev⟩ : ∃ ev : Int, 0 = ev := ⟨_, rfl⟩
  obtain ⟨d1, hd1⟩ : ∃ x, false = x := ⟨_, rfl⟩
  obtain ⟨d2, hd2⟩ : ∃ x, false = x := ⟨_, rfl⟩
  obtain ⟨d3, hd3⟩ : ∃ x, false = x := ⟨_, rfl⟩
  obtain ⟨i1, hi1⟩ : ∃ i, b2i d1 = i := ⟨_, rfl⟩
  obtain ⟨i2, hi2⟩ : ∃ i, b2i d2 = i := ⟨_, rfl⟩
  obtain ⟨i3, hi3⟩ : ∃ i, b2i d3 = i := ⟨_, rfl⟩
  have HDM := Lib.hid (show didm (ev, d1, d2, d3) = .agg #[.int .i64 ev, .int .i64 i1, .int .i64 i2, .int .i64 i3] by rw [← hi1, ← hi2, ← hi3]; rfl)
  have HMID := Lib.hid (show midS n 0 c st q q now = ((ev, d1, d2, d3), st') by rw [← hev, ← hd1, ← hd2, ← hd3, ← hst']; unfold midS; rw [if_neg h1s, if_neg h3s])
  have HSS := Lib.hid (show st'.seats = st.seats by rw [← hst'])
  have HEV := Lib.hid (show stt st.seats q = 1 ∧ (ev = 0 ∨ ev = 1 ∨ ev = 2 ∨ ev = 6) ∨ stt st.seats q = 3 ∧ (ev = 0 ∨ ev = 3) ∨ ev = 0 from .inr (.inr hev.symm))
  have HK1 := Lib.hid (show pl'.length = st'.pls.length by rw [← hpl', ← hst'])
  have HK2 := Lib.hid (show ∀ u, u ≠ q → pl'.getD u p0 = st'.pls.getD u p0 from fun u _ => by rw [← hpl', ← hst'])
  have HK3 := Lib.hid (show (pl'.getD q p0).n = (st'.pls.getD q p0).n by rw [← hpl', ← hst'])
  have HK4 := Lib.hid (show ev = 0 → pl' = st'.pls ∧ ((st'.pls.getD q p0).o = 0 ∨ al'.getD q 0 = (st'.pls.getD q p0).o) from fun _ => ⟨by rw [← hpl', ← hst'], by rw [← hal', ← hst']; exact HREL.out q⟩)
  have HKB := Lib.hid (show ∀ u, u ≠ q → al'.getD u 0 = al.getD u 0 from fun u _ => by rw [← hal'])
  have HOT := Lib.hid (show ∀ u, u ≠ q → st'.pls.getD u p0 = st.pls.getD u p0 from fun u _ => by rw [← hst'])
  have HPQ := Lib.hid (show q < st'.pls.length by rw [← hst']; exact hp)
  have HZQ := Lib.hid hzq
  have t1 : (z == 1) = false := by simpa [hz] using h1s
  have t3 : (z == 3) = false := by simpa [hz] using h3s
  have R1x : Row W (D + 1) [.int .i64 ev, .int .i64 i1, .int .i64 i2, .int .i64 i3] := by rw [← hev, ← hi1, ← hi2, ← hi3, ← hd1, ← hd2, ← hd3]; exact R1
  have g1x : Ref04.RO W y R n st'.ws st'.ts := by rw [← hst']; exact g1
  have h1x : MAt b W c st.seats pl' al' := by rw [← hpl', ← hal']; exact h1
  clear h1s h3s hzq hz hev hd1 hd2 hd3 hi1 hi2 hi3 hst' hpl' hal'
  go_enter Try.func106, Try.ntmps106
  go_upto_region 4 with (fail)
  rw [HW.out, HD.out]
  clear c0 c3 u0 v0 hlx hls hlb b1 b2 b3
  have c0 := h1.top.cell (i := 0) rfl
  have c3 := h1.top.cell (i := 3) rfl
  obtain ⟨cs, cd, htop⟩ := h1.seat.top
  have u0 := htop.cell (i := 0) rfl
  have v0 := h1.seat.st.cell (sts_get hq)
  rw [HZQ.out] at v0
  clear htop
  obtain ⟨R', hR'⟩ : ∃ R', R = R' := ⟨_, rfl⟩
  have HS : Hid (∀ i, R' i → (R i ∨ D ≤ i) ∧ ¬ fm b i ∧ i ≠ D ∧ i ≠ D + 1) := Lib.hid fun i hi => by
    rw [← hR'] at hi
    exact ⟨.inl hi, HDD.out i hi, by have := HLR.out i hi; omega, by have := HLR.out i hi; omega⟩
  have A5 := h1x
  have Q5 := R0
  have R5 := R1x
  have up5 := up1
  have g5 := g1x
  rw [hR'] at g5
  clear hR'
  go_upto_region 9 with (fail)
  clear c0 c3 u0 v0 h1 R0 R1 R1x g1x h1x g1 up1
  obtain ⟨w6, hw6⟩ : ∃ w6, W = w6 := ⟨_, rfl⟩
  have h5 := A5
  have r5 := R5
  have q5 := Q5
  have u5 := up5
  rw [hw6] at h5 g5 r5 q5 u5 ⊢
  clear A5 R5 Q5 up5
  obtain ⟨fv, hfv⟩ : ∃ fv, fin st.seats (q : Int) ev = fv := ⟨_, rfl⟩
  obtain ⟨fb, fl⟩ := fv
  have HST2 := Lib.hid (show Abort.step n 0 c st q q now = ((ev, d1, d2, d3), { st' with seats := fl, pls := if fb = true then Abort.rest st'.pls q else st'.pls }) by rw [HST.out, HMID.out]; dsimp only; rw [HSS.out, hfv, Int.toNat_natCast])
  have hfl : fl.length = st.seats.length := by have := fin_len st.seats (q : Int) ev; rw [hfv] at this; exact this
  have HFL := Lib.hid hfl
  have HFN := Lib.hid (show fb = false → ev = 0 from fun e => fin_no (sl := st.seats) (u := q) (by rw [hfv]; exact e) HEV.out)
  have HRB : Hid (∀ i, R' i → ¬ (i = b.sb ∨ i = b.db) ∧ i ≠ D) := Lib.hid fun i hi => by
    obtain ⟨_, k2, k1, _⟩ := HS.out i hi
    exact ⟨fun e => k2 (by rcases e with rfl | rfl; exact (fm_all b).2.2.1; exact (fm_all b).2.2.2.1), k1⟩
  have g0 := h5.top.cell (i := 0) rfl
  have g1' := r5.cell (i := 0) rfl
  have hxb : ¬ (b.x = b.sb ∨ b.x = b.db) := fun e => by rcases e with e | e; exact Bk.ne h5.nd 0 2 (by decide) (by decide) (by decide) e; exact Bk.ne h5.nd 0 3 (by decide) (by decide) (by decide) e
  have hDb : ¬ (D = b.sb ∨ D = b.db) := fun e => by rcases e with e | e; exact hDm b.sb (fm_all b).2.2.1 e.symm; exact hDm b.db (fm_all b).2.2.2.1 e.symm
  have hD1b : ¬ (D + 1 = b.sb ∨ D + 1 = b.db) := fun e => by rcases e with e | e; exact hDm1 b.sb (fm_all b).2.2.1 e.symm; exact hDm1 b.db (fm_all b).2.2.2.1 e.symm
  have KE := rend_all _ _ _ _ _ _ _ (h5.seat.drewN 1) q ev
  rw [hfv] at KE
  have h6d := h5.keep ((Upd.refl (fun _ => False) w6).drewN 1) (fun _ _ => id)
  obtain ⟨bi, hbi⟩ : ∃ x, b2i fb = x := ⟨_, rfl⟩
  dsimp only at KE
  rw [hbi] at KE
  have HBI := Lib.hid hbi
  have HKE := Lib.hid KE
  clear KE hfv hw6 hfl hbi
  go_wp2_with fail
  go_region_held3 (fun w' => w'.cell? ⟨b.x, 0, none⟩ = some (.pointer (some ⟨b.sx, 0, none⟩)) ∧ w'.cell? ⟨D + 1, 0, none⟩ = some (.int .i64 ev)) ((first | exact ⟨g0, g1'⟩ | exact ⟨e0, e1⟩))
    ((go_at_call 110; refine HKE.out.mono ?_; rintro e w7 ⟨rfl, hs7, u7⟩; have e0 := cell_upd u7 g0 hxb; have e1 := cell_upd u7 g1' hD1b))
  have A7 := h6d.seats HFL.out hs7 u7
  have g7 := (g5.drewN 1).keep u7 (fun i hi => (HRB.out i hi).1)
  have r7 := (r5.drewN 1).upd u7 hD1b
  have q7 := (q5.drewN 1).upd u7 hDb
  have up7 : Upd (fun i => fm b i ∨ R i) w w7 := (u5.drewN 1).trans (u7.mono fun i _ e => by rcases e with rfl | rfl; exact .inl (fm_all b).2.2.1; exact .inl (fm_all b).2.2.2.1)
  clear e0 e1 g0 g1' h5 h6d g5 r5 q5 u5 u7 hs7 HKE
  cases fb with
  | false =>
    have hb0 : bi = 0 := HBI.out.symm
    subst hb0
    obtain ⟨w9, hw9⟩ : ∃ w9, w7 = w9 := ⟨_, rfl⟩
    have A9 := A7
    have g9 := g7
    have r9 := r7
    have q9 := q7
    have up9 := up7
    rw [hw9] at A9 g9 r9 q9 up9 ⊢
    clear hw9 A7 g7 r7 q7 up7
    have y0 := r9.cell (i := 0) rfl
    have y1 := r9.cell (i := 1) rfl
    have y2 := r9.cell (i := 2) rfl
    have y3 := r9.cell (i := 3) rfl
    have z0 := q9.cell (i := 0) rfl
    have z1 := q9.cell (i := 1) rfl
    have z2 := q9.cell (i := 2) rfl
    have z3 := q9.cell (i := 3) rfl
    have k0 := q9.frozen 0
    have k1 := q9.frozen 1
    have k2 := q9.frozen 2
    have k3 := q9.frozen 3
    go_wp2_with fail
    have RE := did4 q9 (.int .i64 ev) (.int .i64 i1) (.int .i64 i2) (.int .i64 i3)
    have UE := upd4 w9 D (.int .i64 ev) (.int .i64 i1) (.int .i64 i2) (.int .i64 i3)
    obtain ⟨w99, hw99⟩ : ∃ w', (((w9.setCell ⟨D, 0, none⟩ (.int .i64 ev)).setCell ⟨D, 1, none⟩ (.int .i64 i1)).setCell ⟨D, 2, none⟩ (.int .i64 i2)).setCell ⟨D, 3, none⟩ (.int .i64 i3) = w' := ⟨_, rfl⟩
    rw [hw99] at RE UE ⊢
    have g0 := RE.cell (i := 0) rfl
    have g1' := RE.cell (i := 1) rfl
    have g2 := RE.cell (i := 2) rfl
    have g3 := RE.cell (i := 3) rfl
    refine bodyPost_ret (v := didm (ev, d1, d2, d3)) (by rw [HDM.out]; simp [results, Try.results106, go_sem, g0, g1', g2, g3]) rfl ?_
    rw [HST2.out]
    obtain ⟨k4, k5⟩ := HK4.out (HFN.out (by first | trivial | rfl))
    refine ⟨rfl, ⟨al', ?_, ?_⟩, R', g9.keep UE (fun i hi e => (HRB.out i hi).2 e), up9.then UE (fun i hi e => by have := HD.out; omega), fun i hi => (by rw [HD.out]; exact (HS.out i hi).1)⟩
    · first | (rw [← k4]; exact A9.keep UE (fun i hi e => hDm i hi e)) | (show MAt _ _ _ fl (if false = true then _ else _) _; rw [if_neg Bool.false_ne_true, ← k4]; exact A9.keep UE (fun i hi e => hDm i hi e))
    · intro u
      show ((if false = true then Abort.rest st'.pls q else st'.pls).getD u p0).o = 0 ∨ al'.getD u 0 = ((if false = true then Abort.rest st'.pls q else st'.pls).getD u p0).o
      rw [if_neg Bool.false_ne_true]
      by_cases e : u = q
      · subst e; exact k5
      · rw [HOT.out u e, HKB.out u e]; exact HREL.out u
  | true =>
    have hb1 : bi = 1 := HBI.out.symm
    subst hb1
    have hpl' : q < pl'.length := by rw [HK1.out]; exact HPQ.out
    have hqf : q < fl.length := by rw [HFL.out]; exact hq
    have hq2f : (q : Int) < (fl.length : Int) := by omega
    have t3 := A7.top.cell (i := 3) rfl
    have t6 := A7.top.cell (i := 6) rfl
    have s3 := A7.prow.cell (col_get hpl')
    have s6 := A7.trow.cell (col_get hpl')
    have v3 := A7.prow.frozen q
    have v6 := A7.trow.frozen q
    obtain ⟨⟨js, jr, jn, jo⟩, hj⟩ : ∃ x, pl'.getD q p0 = x := ⟨_, rfl⟩
    have hjk := A7.ok q hpl'
    rw [hj] at s3 s6 hjk
    dsimp only at s3 s6
    obtain ⟨j1, j2, j3⟩ := hjk
    dsimp only at j1 j2 j3
    have A8 : MAt b (w7.setCell ⟨b.pc, q, none⟩ (.int .i64 1)) c fl _ _ := A7.setPc q hqf ⟨0, jr, jn, jo⟩ (by rw [hj]) ⟨(show (0 : Int) ≤ 0 ∧ (0 : Int) ≤ 8 by decide), j2, j3⟩
    have A9 := A8.setTr q hqf ⟨0, 0, jn, 0⟩ (by rw [pl_at _ _ hpl']) ⟨(show (0 : Int) ≤ 0 ∧ (0 : Int) ≤ 8 by decide), (show (0 : Int) ≤ 0 ∧ (0 : Int) ≤ 8 by decide), j3⟩
    rw [List.set_set] at A9
    have m6 := A8.trow.cell (col_get (t := q) (by simpa using hpl'))
    rw [pl_at _ _ hpl'] at m6
    dsimp only at m6
    have m6z := A8.trow.frozen q
    have m6t := A8.top.cell (i := 6) rfl
    have npt : b.pc ≠ b.tb := Bk.ne A7.nd 4 7 (by decide) (by decide) (by decide)
    have U8 := ((Upd.one w7 b.pc q (.int .i64 1)).mono (S' := fun i => i = b.pc ∨ i = b.tb) (fun i _ e => .inl e)).trans ((Upd.one (w7.setCell ⟨b.pc, q, none⟩ (.int .i64 1)) b.tb q (.int .i64 0)).mono (fun i _ e => .inr e))
    have fU : ∀ i, i = b.pc ∨ i = b.tb → fm b i := fun i e => by rcases e with rfl | rfl; exact (fm_all b).2.2.2.2.1; exact (fm_all b).2.2.2.2.2.2.2
    have g9 := (g7.keep U8 (fun i hi e => (HS.out i hi).2.1 (fU i e))).drewN 1
    have r9 := (r7.upd U8 (fun e => hDm1 _ (fU _ e) rfl)).drewN 1
    have q9 := (q7.upd U8 (fun e => hDm _ (fU _ e) rfl)).drewN 1
    have up9 := (up7.trans (U8.mono fun i _ e => .inl (fU i e))).drewN 1
    have A9 := A9.keep ((Upd.refl (fun _ => False) _).drewN 1) (fun _ _ => id)
    have HJ := Lib.hid hj
    have HAN := Lib.hid A7.nd
    clear U8 A7 g7 r7 q7 up7 hj j1 j2 j3 A8
    go_upto_region 10 with (fail)
    go_region
    all_goals
      obtain ⟨w9, hw9⟩ : ∃ w', ((w7.setCell ⟨b.pc, q, none⟩ (.int .i64 1)).setCell ⟨b.tb, q, none⟩ (.int .i64 0)).drew = w' := ⟨_, rfl⟩
      have hw9' : ((w7.setCell ⟨b.pc, q, none⟩ (.int .i64 1)).setCell ⟨b.tb, q, none⟩ (.int .i64 0)).drewN 1 = w9 := hw9
      rw [hw9'] at A9 g9 r9 q9 up9
      rw [hw9]
      clear hw9 hw9' t3 t6 s3 s6 v3 v6 m6 m6z m6t npt
      have y0 := r9.cell (i := 0) rfl
      have y1 := r9.cell (i := 1) rfl
      have y2 := r9.cell (i := 2) rfl
      have y3 := r9.cell (i := 3) rfl
      have z0 := q9.cell (i := 0) rfl
      have z1 := q9.cell (i := 1) rfl
      have z2 := q9.cell (i := 2) rfl
      have z3 := q9.cell (i := 3) rfl
      have k0 := q9.frozen 0
      have k1 := q9.frozen 1
      have k2 := q9.frozen 2
      have k3 := q9.frozen 3
      go_wp2_with fail
      have RE := did4 q9 (.int .i64 ev) (.int .i64 i1) (.int .i64 i2) (.int .i64 i3)
      have UE := upd4 w9 D (.int .i64 ev) (.int .i64 i1) (.int .i64 i2) (.int .i64 i3)
      obtain ⟨w99, hw99⟩ : ∃ w', (((w9.setCell ⟨D, 0, none⟩ (.int .i64 ev)).setCell ⟨D, 1, none⟩ (.int .i64 i1)).setCell ⟨D, 2, none⟩ (.int .i64 i2)).setCell ⟨D, 3, none⟩ (.int .i64 i3) = w' := ⟨_, rfl⟩
      rw [hw99] at RE UE ⊢
      have g0 := RE.cell (i := 0) rfl
      have g1' := RE.cell (i := 1) rfl
      have g2 := RE.cell (i := 2) rfl
      have g3 := RE.cell (i := 3) rfl
      refine bodyPost_ret (v := didm (ev, d1, d2, d3)) (by rw [HDM.out]; simp [results, Try.results106, go_sem, g0, g1', g2, g3]) rfl ?_
      rw [HST2.out]
      have hjn : jn = (st'.pls.getD q p0).n := by have := HK3.out; rw [HJ.out] at this; exact this
      have hset : pl'.set q ⟨0, 0, jn, 0⟩ = Abort.rest st'.pls q := by unfold Abort.rest; rw [hjn]; exact set_eq _ _ q HK1.out HK2.out _
      refine ⟨rfl, ⟨al', ?_, ?_⟩, R', g9.keep UE (fun i hi e => (HRB.out i hi).2 e), up9.then UE (fun i hi e => by have := HD.out; omega), fun i hi => (by rw [HD.out]; exact (HS.out i hi).1)⟩
      · first | (rw [← hset]; exact A9.keep UE (fun i hi e => hDm i hi e)) | (show MAt _ _ _ fl (if true = true then _ else _) _; rw [if_pos rfl, ← hset]; exact A9.keep UE (fun i hi e => hDm i hi e))
      · intro u
        show ((if true = true then Abort.rest st'.pls q else st'.pls).getD u p0).o = 0 ∨ al'.getD u 0 = ((if true = true then Abort.rest st'.pls q else st'.pls).getD u p0).o
        rw [if_pos rfl]
        unfold Abort.rest
        by_cases e : u = q
        · subst e; rw [pl_at _ _ HPQ.out]; exact .inl rfl
        · rw [pl_other _ _ e, HOT.out u e, HKB.out u e]; exact HREL.out u
set_option maxHeartbeats 16000000 in
set_option maxRecDepth 40000 in
theorem stepLock {w : World} {st : St} {al : List Int} {y n : Nat} {R : Nat → Prop} (h : MAt b w c st.seats st.pls al) (hrel : Rel st al) (hR : Ref04.RO w y R n st.ws st.ts) (hI : IV n c st) (hd : ∀ i, R i → ¬ fm b i) (hf : st.ts.length < 1000000) (n8 : n ≤ 8) (hws : st.ws.length ≤ 100000) (hwd : Mem.Wd st.ws) (hc8 : c ≤ 8) (q : Nat) (now : Int) (hq : q < st.seats.length) (h1s : state st.seats (q : Int) = 1) :
    Calls Try.prog 106 #[.pointer (some ⟨b.x, 0, none⟩), .pointer (some ⟨y, 0, none⟩), .int .i64 q, .int .i64 q, .int .i64 now] w fun e w' => e = .returned (didm (Abort.step n 0 c st q q now).1) ∧ (∃ al', MAt b w' c (Abort.step n 0 c st q q now).2.seats (Abort.step n 0 c st q q now).2.pls al' ∧ Rel (Abort.step n 0 c st q q now).2 al') ∧
      ∃ R', Ref04.RO w' y R' n (Abort.step n 0 c st q q now).2.ws (Abort.step n 0 c st q q now).2.ts ∧ Upd (fun i => fm b i ∨ R i) w w' ∧ ∀ i, R' i → R i ∨ w.heap.size ≤ i := by
  have hn : st.seats.length = n := hI.sl
  have hp : q < st.pls.length := by rw [h.l1]; exact hq
  have c0 := h.top.cell (i := 0) rfl
  have c3 := h.top.cell (i := 3) rfl
  obtain ⟨cs, cd, htop⟩ := h.seat.top
  have u0 := htop.cell (i := 0) rfl
  have v0 := h.seat.st.cell (sts_get hq)
  obtain ⟨z, hz⟩ : ∃ z, state st.seats (q : Int) = z := ⟨_, rfl⟩
  have hzq : (st.seats.getD q (0, -1)).1 = z := by rw [← hz]; unfold state; rw [inB_mk hq, if_pos rfl, Int.toNat_natCast]
  have hzs : stt st.seats q = z := by rw [← state_nat]; exact hz
  rw [hzq] at v0
  have hlx := h.lt b.x (fm_all b).1
  have hls := h.lt b.sx (fm_all b).2.1
  have hlb := h.lt b.sb (fm_all b).2.2.1
  have hlm := h.lt
  have hlr := hR.lt
  have D1 : Upd (fun _ => False) w ((w.alloc (.cells #[.int .i64 0, .int .i64 0, .int .i64 0, .int .i64 0] 138)).alloc (.cells #[.int .i64 0, .int .i64 0, .int .i64 0, .int .i64 0] 138)) := ((Upd.refl _ w).alloc _).alloc _
  have h1 := h.keep D1 (fun _ _ => id)
  have g1 := hR.keep D1 (fun _ _ => id)
  have R0 : Row ((w.alloc (.cells #[.int .i64 0, .int .i64 0, .int .i64 0, .int .i64 0] 138)).alloc (.cells #[.int .i64 0, .int .i64 0, .int .i64 0, .int .i64 0] 138)) w.heap.size [.int .i64 0, .int .i64 0, .int .i64 0, .int .i64 0] := (Row.new' rfl).alloc _
  have R1 : Row ((w.alloc (.cells #[.int .i64 0, .int .i64 0, .int .i64 0, .int .i64 0] 138)).alloc (.cells #[.int .i64 0, .int .i64 0, .int .i64 0, .int .i64 0] 138)) (w.heap.size + 1) [.int .i64 0, .int .i64 0, .int .i64 0, .int .i64 0] := Row.new' (by simp)
  have up1 : Upd (fun i => fm b i ∨ R i) w ((w.alloc (.cells #[.int .i64 0, .int .i64 0, .int .i64 0, .int .i64 0] 138)).alloc (.cells #[.int .i64 0, .int .i64 0, .int .i64 0, .int .i64 0] 138)) := D1.mono fun _ _ z => z.elim
  have b1 : decide ((q : Int) < 0) = false := by rw [decide_eq_false_iff_not]; omega
  have b2 : decide ((st.seats.length : Int) ≤ (q : Int)) = false := by rw [decide_eq_false_iff_not]; omega
  have b3 : decide (st.seats.length ≤ q) = false := by rw [decide_eq_false_iff_not]; omega
  obtain ⟨D, hD⟩ : ∃ D, w.heap.size = D := ⟨_, rfl⟩
  have HD := Lib.hid hD
  obtain ⟨W, hW⟩ : ∃ W, (w.alloc (.cells #[.int .i64 0, .int .i64 0, .int .i64 0, .int .i64 0] 138)).alloc (.cells #[.int .i64 0, .int .i64 0, .int .i64 0, .int .i64 0] 138) = W := ⟨_, rfl⟩
  rw [hW] at h1 g1 R0 R1 up1
  rw [hD] at R0 R1 hlm hlr
  have HW := Lib.hid hW
  have HLM := Lib.hid hlm
  have HLR := Lib.hid hlr
  have HWD := Lib.hid (show W.heap.size = D + 2 by rw [← hW, ← hD]; simp)
  have nD : ¬ R D := fun h => by have := hlr D h; omega
  have nD1 : ¬ R (D + 1) := fun h => by have := hlr _ h; omega
  have HF := Lib.hid hf
  have HN := Lib.hid hn
  have HN8 := Lib.hid n8
  have HWS := Lib.hid hws
  have HDD := Lib.hid hd
  have HWDD := Lib.hid hwd
  have HREL := Lib.hid hrel
  have HC8 := Lib.hid hc8
  have HZS := Lib.hid hzs
  have hlen := h.l1
  have HLEN := Lib.hid hlen
  have HST := Lib.hid (show Abort.step n 0 c st q q now = ((midS n 0 c st q q now).1, { (midS n 0 c st q q now).2 with seats := (fin (midS n 0 c st q q now).2.seats q (midS n 0 c st q q now).1.1).2, pls := if (fin (midS n 0 c st q q now).2.seats q (midS n 0 c st q q now).1.1).1 = true then rest (midS n 0 c st q q now).2.pls (q : Int).toNat else (midS n 0 c st q q now).2.pls }) from rfl)
  have hq1 : (0 : Int) ≤ (q : Int) := by omega
  have hq2 : (q : Int) < (st.seats.length : Int) := by omega
  have hDm : ∀ i, fm b i → i ≠ D := fun i hi e => by have := HLM.out i hi; omega
  have hDm1 : ∀ i, fm b i → i ≠ D + 1 := fun i hi e => by have := HLM.out i hi; omega
  clear hlm hlr hR D1 hW hD hd hf hws h hn hwd n8 htop hrel hc8 hzs hlen
  have h1q : stt st.seats q = 1 := by rw [← state_nat]; exact h1s
  have KL := lockR h1 g1 HDD.out HF.out HN8.out HN.out HWS.out HWDD.out hq (HREL.out q) now (hI.one q (by rw [← HN.out]; exact hq) h1q) HC8.out
  have hL0 := lockS_ev (k := n) (tl := 0) (c := c) (st := st) q q (lateB st.seats q now) ⟨(h1.ok q hp).1.1, (hI.one q (by rw [← HN.out]; exact hq) h1q).1⟩
  have hss := (lockS_len (k := n) (tl := 0) (c := c) st q q (lateB st.seats q now)).1
  obtain ⟨⟨⟨ev, d1, d2, d3⟩, st'⟩, hL⟩ : ∃ r, lockS n 0 c st q q (lateB st.seats q now) = r := ⟨_, rfl⟩
  rw [hL] at KL hL0 hss
  dsimp only at hL0 hss
  have hot : st'.pls.length = st.pls.length ∧ (∀ u, u ≠ q → st'.pls.getD u p0 = st.pls.getD u p0) ∧ (ev = 0 ∨ ev = 1 ∨ ev = 2 ∨ ev = 6) := by
    rcases hL0 with (⟨e, h2, _⟩ | ⟨e, y, h2, _⟩) | ⟨e, y, h2 | ⟨h2, _⟩⟩ <;> rw [h2]
    · exact ⟨rfl, fun _ _ => rfl, .inl e⟩
    · exact ⟨by simp, fun u hu => pl_other _ _ hu, .inl e⟩
    · exact ⟨by simp, fun u hu => pl_other _ _ hu, by rcases e with e | e | ⟨e, _⟩ <;> omega⟩
    · exact ⟨rfl, fun _ _ => rfl, by rcases e with e | e | ⟨e, _⟩ <;> omega⟩
  have HOT := Lib.hid hot.2.1
  have HEV := Lib.hid (show stt st.seats q = 1 ∧ (ev = 0 ∨ ev = 1 ∨ ev = 2 ∨ ev = 6) ∨ stt st.seats q = 3 ∧ (ev = 0 ∨ ev = 3) ∨ ev = 0 from .inl ⟨h1q, hot.2.2⟩)
  have HPQ := Lib.hid (show q < st'.pls.length by rw [hot.1]; exact hp)
  have HSS := Lib.hid hss
  obtain ⟨i1, hi1⟩ : ∃ i, b2i d1 = i := ⟨_, rfl⟩
  obtain ⟨i2, hi2⟩ : ∃ i, b2i d2 = i := ⟨_, rfl⟩
  obtain ⟨i3, hi3⟩ : ∃ i, b2i d3 = i := ⟨_, rfl⟩
  have hdm : didm (ev, d1, d2, d3) = .agg #[.int .i64 ev, .int .i64 i1, .int .i64 i2, .int .i64 i3] := by rw [← hi1, ← hi2, ← hi3]; rfl
  have HDM := Lib.hid hdm
  dsimp only at KL
  rw [hdm] at KL
  have HKL := Lib.hid KL
  have HMID := Lib.hid (show midS n 0 c st q q now = ((ev, d1, d2, d3), st') by unfold midS; rw [if_pos h1s, Int.toNat_natCast]; exact hL)
  have HZQ := Lib.hid (show (st.seats.getD q (0, -1)).1 = 1 by rw [hzq, ← hz]; exact h1s)
  rw [show z = 1 by rw [← hz]; exact h1s] at v0
  clear h1s hzq hz hdm KL hss hL hi1 hi2 hi3 hL0 hot h1q hI
  go_enter Try.func106, Try.ntmps106
  go_upto_region 4 with (fail)
  rw [HW.out, HD.out]
  clear c0 c3 u0 v0 hlx hls hlb b1 b2 b3
  have c0 := h1.top.cell (i := 0) rfl
  have c3 := h1.top.cell (i := 3) rfl
  obtain ⟨cs, cd, htop⟩ := h1.seat.top
  have u0 := htop.cell (i := 0) rfl
  have v0 := h1.seat.st.cell (sts_get hq)
  rw [HZQ.out] at v0
  clear htop
  go_wp2_with fail
  refine HKL.out.mono ?_
  rintro e w5 ⟨rfl, pl', al', A5, ka, kb, k1, k2, k3, k4, R', g5, u5, hR5s⟩
  have HK1 := Lib.hid k1
  have HK2 := Lib.hid k2
  have HK3 := Lib.hid k3
  have HK4 := Lib.hid k4
  have HKB := Lib.hid kb
  clear k1 k2 k3 k4 kb ka
  have HS : Hid (∀ i, R' i → (R i ∨ D ≤ i) ∧ ¬ fm b i ∧ i ≠ D ∧ i ≠ D + 1) := Lib.hid fun i hi => by
    rcases hR5s i hi with h | h
    · exact ⟨.inl h, HDD.out i h, by have := HLR.out i h; omega, by have := HLR.out i h; omega⟩
    · have := HWD.out
      have h : W.heap.size ≤ i := h
      exact ⟨.inr (by omega), fun e => by have := HLM.out i e; omega, by omega, by omega⟩
  have R5 := R1.upd u5 (fun e => e.elim (fun e => hDm1 _ e rfl) nD1)
  have Q5 := R0.upd u5 (fun e => e.elim (fun e => hDm _ e rfl) nD)
  have up5 := up1.trans u5
  have a0 := R5.cell (i := 0) rfl
  have a1 := R5.cell (i := 1) rfl
  have a2 := R5.cell (i := 2) rfl
  have a3 := R5.cell (i := 3) rfl
  have z0 := R5.frozen 0
  have z1 := R5.frozen 1
  have z2 := R5.frozen 2
  have z3 := R5.frozen 3
  go_upto_region 9 with (fail)
  have R6 := did4 R5 (.int .i64 ev) (.int .i64 i1) (.int .i64 i2) (.int .i64 i3)
  have U6 := upd4 w5 (D + 1) (.int .i64 ev) (.int .i64 i1) (.int .i64 i2) (.int .i64 i3)
  have A6 := A5.keep U6 (fun i hi e => hDm1 i hi e)
  have Q6 := Q5.upd U6 (by omega)
  have g6 := g5.keep U6 (fun i hi e => (HS.out i hi).2.2.2 e)
  have up6 := up5.then U6 (fun i hi e => by have := HD.out; omega)
  obtain ⟨w6', hw6'⟩ : ∃ w', (((w5.setCell ⟨D + 1, 0, none⟩ (.int .i64 ev)).setCell ⟨D + 1, 1, none⟩ (.int .i64 i1)).setCell ⟨D + 1, 2, none⟩ (.int .i64 i2)).setCell ⟨D + 1, 3, none⟩ (.int .i64 i3) = w' := ⟨_, rfl⟩
  rw [hw6'] at R6 U6 A6 Q6 g6 up6 ⊢
  clear hw6' a0 a1 a2 a3 z0 z1 z2 z3 A5 R5 Q5 g5 up5 u5 c0 c3 u0 v0
  obtain ⟨w6, hw6⟩ : ∃ w6, w6' = w6 := ⟨_, rfl⟩
  have h5 := A6
  have g5 := g6
  have r5 := R6
  have q5 := Q6
  have u5 := up6
  rw [hw6] at h5 g5 r5 q5 u5 ⊢
  clear A6 g6 R6 Q6 up6
  obtain ⟨fv, hfv⟩ : ∃ fv, fin st.seats (q : Int) ev = fv := ⟨_, rfl⟩
  obtain ⟨fb, fl⟩ := fv
  have HST2 := Lib.hid (show Abort.step n 0 c st q q now = ((ev, d1, d2, d3), { st' with seats := fl, pls := if fb = true then Abort.rest st'.pls q else st'.pls }) by rw [HST.out, HMID.out]; dsimp only; rw [HSS.out, hfv, Int.toNat_natCast])
  have hfl : fl.length = st.seats.length := by have := fin_len st.seats (q : Int) ev; rw [hfv] at this; exact this
  have HFL := Lib.hid hfl
  have HFN := Lib.hid (show fb = false → ev = 0 from fun e => fin_no (sl := st.seats) (u := q) (by rw [hfv]; exact e) HEV.out)
  have HRB : Hid (∀ i, R' i → ¬ (i = b.sb ∨ i = b.db) ∧ i ≠ D) := Lib.hid fun i hi => by
    obtain ⟨_, k2, k1, _⟩ := HS.out i hi
    exact ⟨fun e => k2 (by rcases e with rfl | rfl; exact (fm_all b).2.2.1; exact (fm_all b).2.2.2.1), k1⟩
  have g0 := h5.top.cell (i := 0) rfl
  have g1' := r5.cell (i := 0) rfl
  have hxb : ¬ (b.x = b.sb ∨ b.x = b.db) := fun e => by rcases e with e | e; exact Bk.ne h5.nd 0 2 (by decide) (by decide) (by decide) e; exact Bk.ne h5.nd 0 3 (by decide) (by decide) (by decide) e
  have hDb : ¬ (D = b.sb ∨ D = b.db) := fun e => by rcases e with e | e; exact hDm b.sb (fm_all b).2.2.1 e.symm; exact hDm b.db (fm_all b).2.2.2.1 e.symm
  have hD1b : ¬ (D + 1 = b.sb ∨ D + 1 = b.db) := fun e => by rcases e with e | e; exact hDm1 b.sb (fm_all b).2.2.1 e.symm; exact hDm1 b.db (fm_all b).2.2.2.1 e.symm
  have KE := rend_all _ _ _ _ _ _ _ (h5.seat.drewN 1) q ev
  rw [hfv] at KE
  have h6d := h5.keep ((Upd.refl (fun _ => False) w6).drewN 1) (fun _ _ => id)
  obtain ⟨bi, hbi⟩ : ∃ x, b2i fb = x := ⟨_, rfl⟩
  dsimp only at KE
  rw [hbi] at KE
  have HBI := Lib.hid hbi
  have HKE := Lib.hid KE
  clear KE hfv hw6 hfl hbi
  go_wp2_with fail
  go_region_held3 (fun w' => w'.cell? ⟨b.x, 0, none⟩ = some (.pointer (some ⟨b.sx, 0, none⟩)) ∧ w'.cell? ⟨D + 1, 0, none⟩ = some (.int .i64 ev)) ((first | exact ⟨g0, g1'⟩ | exact ⟨e0, e1⟩))
    ((go_at_call 110; refine HKE.out.mono ?_; rintro e w7 ⟨rfl, hs7, u7⟩; have e0 := cell_upd u7 g0 hxb; have e1 := cell_upd u7 g1' hD1b))
  have A7 := h6d.seats HFL.out hs7 u7
  have g7 := (g5.drewN 1).keep u7 (fun i hi => (HRB.out i hi).1)
  have r7 := (r5.drewN 1).upd u7 hD1b
  have q7 := (q5.drewN 1).upd u7 hDb
  have up7 : Upd (fun i => fm b i ∨ R i) w w7 := (u5.drewN 1).trans (u7.mono fun i _ e => by rcases e with rfl | rfl; exact .inl (fm_all b).2.2.1; exact .inl (fm_all b).2.2.2.1)
  clear e0 e1 g0 g1' h5 h6d g5 r5 q5 u5 u7 hs7 HKE
  cases fb with
  | false =>
    have hb0 : bi = 0 := HBI.out.symm
    subst hb0
    obtain ⟨w9, hw9⟩ : ∃ w9, w7 = w9 := ⟨_, rfl⟩
    have A9 := A7
    have g9 := g7
    have r9 := r7
    have q9 := q7
    have up9 := up7
    rw [hw9] at A9 g9 r9 q9 up9 ⊢
    clear hw9 A7 g7 r7 q7 up7
    have y0 := r9.cell (i := 0) rfl
    have y1 := r9.cell (i := 1) rfl
    have y2 := r9.cell (i := 2) rfl
    have y3 := r9.cell (i := 3) rfl
    have z0 := q9.cell (i := 0) rfl
    have z1 := q9.cell (i := 1) rfl
    have z2 := q9.cell (i := 2) rfl
    have z3 := q9.cell (i := 3) rfl
    have k0 := q9.frozen 0
    have k1 := q9.frozen 1
    have k2 := q9.frozen 2
    have k3 := q9.frozen 3
    go_wp2_with fail
    have RE := did4 q9 (.int .i64 ev) (.int .i64 i1) (.int .i64 i2) (.int .i64 i3)
    have UE := upd4 w9 D (.int .i64 ev) (.int .i64 i1) (.int .i64 i2) (.int .i64 i3)
    obtain ⟨w99, hw99⟩ : ∃ w', (((w9.setCell ⟨D, 0, none⟩ (.int .i64 ev)).setCell ⟨D, 1, none⟩ (.int .i64 i1)).setCell ⟨D, 2, none⟩ (.int .i64 i2)).setCell ⟨D, 3, none⟩ (.int .i64 i3) = w' := ⟨_, rfl⟩
    rw [hw99] at RE UE ⊢
    have g0 := RE.cell (i := 0) rfl
    have g1' := RE.cell (i := 1) rfl
    have g2 := RE.cell (i := 2) rfl
    have g3 := RE.cell (i := 3) rfl
    refine bodyPost_ret (v := didm (ev, d1, d2, d3)) (by rw [HDM.out]; simp [results, Try.results106, go_sem, g0, g1', g2, g3]) rfl ?_
    rw [HST2.out]
    obtain ⟨k4, k5⟩ := HK4.out (HFN.out (by first | trivial | rfl))
    refine ⟨rfl, ⟨al', ?_, ?_⟩, R', g9.keep UE (fun i hi e => (HRB.out i hi).2 e), up9.then UE (fun i hi e => by have := HD.out; omega), fun i hi => (by rw [HD.out]; exact (HS.out i hi).1)⟩
    · first | (rw [← k4]; exact A9.keep UE (fun i hi e => hDm i hi e)) | (show MAt _ _ _ fl (if false = true then _ else _) _; rw [if_neg Bool.false_ne_true, ← k4]; exact A9.keep UE (fun i hi e => hDm i hi e))
    · intro u
      show ((if false = true then Abort.rest st'.pls q else st'.pls).getD u p0).o = 0 ∨ al'.getD u 0 = ((if false = true then Abort.rest st'.pls q else st'.pls).getD u p0).o
      rw [if_neg Bool.false_ne_true]
      by_cases e : u = q
      · subst e; exact k5
      · rw [HOT.out u e, HKB.out u e]; exact HREL.out u
  | true =>
    have hb1 : bi = 1 := HBI.out.symm
    subst hb1
    have hpl' : q < pl'.length := by rw [HK1.out]; exact HPQ.out
    have hqf : q < fl.length := by rw [HFL.out]; exact hq
    have hq2f : (q : Int) < (fl.length : Int) := by omega
    have t3 := A7.top.cell (i := 3) rfl
    have t6 := A7.top.cell (i := 6) rfl
    have s3 := A7.prow.cell (col_get hpl')
    have s6 := A7.trow.cell (col_get hpl')
    have v3 := A7.prow.frozen q
    have v6 := A7.trow.frozen q
    obtain ⟨⟨js, jr, jn, jo⟩, hj⟩ : ∃ x, pl'.getD q p0 = x := ⟨_, rfl⟩
    have hjk := A7.ok q hpl'
    rw [hj] at s3 s6 hjk
    dsimp only at s3 s6
    obtain ⟨j1, j2, j3⟩ := hjk
    dsimp only at j1 j2 j3
    have A8 : MAt b (w7.setCell ⟨b.pc, q, none⟩ (.int .i64 1)) c fl _ _ := A7.setPc q hqf ⟨0, jr, jn, jo⟩ (by rw [hj]) ⟨(show (0 : Int) ≤ 0 ∧ (0 : Int) ≤ 8 by decide), j2, j3⟩
    have A9 := A8.setTr q hqf ⟨0, 0, jn, 0⟩ (by rw [pl_at _ _ hpl']) ⟨(show (0 : Int) ≤ 0 ∧ (0 : Int) ≤ 8 by decide), (show (0 : Int) ≤ 0 ∧ (0 : Int) ≤ 8 by decide), j3⟩
    rw [List.set_set] at A9
    have m6 := A8.trow.cell (col_get (t := q) (by simpa using hpl'))
    rw [pl_at _ _ hpl'] at m6
    dsimp only at m6
    have m6z := A8.trow.frozen q
    have m6t := A8.top.cell (i := 6) rfl
    have npt : b.pc ≠ b.tb := Bk.ne A7.nd 4 7 (by decide) (by decide) (by decide)
    have U8 := ((Upd.one w7 b.pc q (.int .i64 1)).mono (S' := fun i => i = b.pc ∨ i = b.tb) (fun i _ e => .inl e)).trans ((Upd.one (w7.setCell ⟨b.pc, q, none⟩ (.int .i64 1)) b.tb q (.int .i64 0)).mono (fun i _ e => .inr e))
    have fU : ∀ i, i = b.pc ∨ i = b.tb → fm b i := fun i e => by rcases e with rfl | rfl; exact (fm_all b).2.2.2.2.1; exact (fm_all b).2.2.2.2.2.2.2
    have g9 := (g7.keep U8 (fun i hi e => (HS.out i hi).2.1 (fU i e))).drewN 1
    have r9 := (r7.upd U8 (fun e => hDm1 _ (fU _ e) rfl)).drewN 1
    have q9 := (q7.upd U8 (fun e => hDm _ (fU _ e) rfl)).drewN 1
    have up9 := (up7.trans (U8.mono fun i _ e => .inl (fU i e))).drewN 1
    have A9 := A9.keep ((Upd.refl (fun _ => False) _).drewN 1) (fun _ _ => id)
    have HJ := Lib.hid hj
    have HAN := Lib.hid A7.nd
    clear U8 A7 g7 r7 q7 up7 hj j1 j2 j3 A8
    go_upto_region 10 with (fail)
    go_region
    all_goals
      obtain ⟨w9, hw9⟩ : ∃ w', ((w7.setCell ⟨b.pc, q, none⟩ (.int .i64 1)).setCell ⟨b.tb, q, none⟩ (.int .i64 0)).drew = w' := ⟨_, rfl⟩
      have hw9' : ((w7.setCell ⟨b.pc, q, none⟩ (.int .i64 1)).setCell ⟨b.tb, q, none⟩ (.int .i64 0)).drewN 1 = w9 := hw9
      rw [hw9'] at A9 g9 r9 q9 up9
      rw [hw9]
      clear hw9 hw9' t3 t6 s3 s6 v3 v6 m6 m6z m6t npt
      have y0 := r9.cell (i := 0) rfl
      have y1 := r9.cell (i := 1) rfl
      have y2 := r9.cell (i := 2) rfl
      have y3 := r9.cell (i := 3) rfl
      have z0 := q9.cell (i := 0) rfl
      have z1 := q9.cell (i := 1) rfl
      have z2 := q9.cell (i := 2) rfl
      have z3 := q9.cell (i := 3) rfl
      have k0 := q9.frozen 0
      have k1 := q9.frozen 1
      have k2 := q9.frozen 2
      have k3 := q9.frozen 3
      go_wp2_with fail
      have RE := did4 q9 (.int .i64 ev) (.int .i64 i1) (.int .i64 i2) (.int .i64 i3)
      have UE := upd4 w9 D (.int .i64 ev) (.int .i64 i1) (.int .i64 i2) (.int .i64 i3)
      obtain ⟨w99, hw99⟩ : ∃ w', (((w9.setCell ⟨D, 0, none⟩ (.int .i64 ev)).setCell ⟨D, 1, none⟩ (.int .i64 i1)).setCell ⟨D, 2, none⟩ (.int .i64 i2)).setCell ⟨D, 3, none⟩ (.int .i64 i3) = w' := ⟨_, rfl⟩
      rw [hw99] at RE UE ⊢
      have g0 := RE.cell (i := 0) rfl
      have g1' := RE.cell (i := 1) rfl
      have g2 := RE.cell (i := 2) rfl
      have g3 := RE.cell (i := 3) rfl
      refine bodyPost_ret (v := didm (ev, d1, d2, d3)) (by rw [HDM.out]; simp [results, Try.results106, go_sem, g0, g1', g2, g3]) rfl ?_
      rw [HST2.out]
      have hjn : jn = (st'.pls.getD q p0).n := by have := HK3.out; rw [HJ.out] at this; exact this
      have hset : pl'.set q ⟨0, 0, jn, 0⟩ = Abort.rest st'.pls q := by unfold Abort.rest; rw [hjn]; exact set_eq _ _ q HK1.out HK2.out _
      refine ⟨rfl, ⟨al', ?_, ?_⟩, R', g9.keep UE (fun i hi e => (HRB.out i hi).2 e), up9.then UE (fun i hi e => by have := HD.out; omega), fun i hi => (by rw [HD.out]; exact (HS.out i hi).1)⟩
      · first | (rw [← hset]; exact A9.keep UE (fun i hi e => hDm i hi e)) | (show MAt _ _ _ fl (if true = true then _ else _) _; rw [if_pos rfl, ← hset]; exact A9.keep UE (fun i hi e => hDm i hi e))
      · intro u
        show ((if true = true then Abort.rest st'.pls q else st'.pls).getD u p0).o = 0 ∨ al'.getD u 0 = ((if true = true then Abort.rest st'.pls q else st'.pls).getD u p0).o
        rw [if_pos rfl]
        unfold Abort.rest
        by_cases e : u = q
        · subst e; rw [pl_at _ _ HPQ.out]; exact .inl rfl
        · rw [pl_other _ _ e, HOT.out u e, HKB.out u e]; exact HREL.out u
set_option maxHeartbeats 16000000 in
set_option maxRecDepth 40000 in
theorem stepUnl {w : World} {st : St} {al : List Int} {y n : Nat} {R : Nat → Prop} (h : MAt b w c st.seats st.pls al) (hrel : Rel st al) (hR : Ref04.RO w y R n st.ws st.ts) (hI : IV n c st) (hd : ∀ i, R i → ¬ fm b i) (hf : st.ts.length < 1000000) (n8 : n ≤ 8) (hws : st.ws.length ≤ 100000) (hwd : Mem.Wd st.ws) (hc8 : c ≤ 8) (q : Nat) (now : Int) (hq : q < st.seats.length) (h3s : state st.seats (q : Int) = 3) :
    Calls Try.prog 106 #[.pointer (some ⟨b.x, 0, none⟩), .pointer (some ⟨y, 0, none⟩), .int .i64 q, .int .i64 q, .int .i64 now] w fun e w' => e = .returned (didm (Abort.step n 0 c st q q now).1) ∧ (∃ al', MAt b w' c (Abort.step n 0 c st q q now).2.seats (Abort.step n 0 c st q q now).2.pls al' ∧ Rel (Abort.step n 0 c st q q now).2 al') ∧
      ∃ R', Ref04.RO w' y R' n (Abort.step n 0 c st q q now).2.ws (Abort.step n 0 c st q q now).2.ts ∧ Upd (fun i => fm b i ∨ R i) w w' ∧ ∀ i, R' i → R i ∨ w.heap.size ≤ i := by
  have hn : st.seats.length = n := hI.sl
  have hp : q < st.pls.length := by rw [h.l1]; exact hq
  have c0 := h.top.cell (i := 0) rfl
  have c3 := h.top.cell (i := 3) rfl
  obtain ⟨cs, cd, htop⟩ := h.seat.top
  have u0 := htop.cell (i := 0) rfl
  have v0 := h.seat.st.cell (sts_get hq)
  obtain ⟨z, hz⟩ : ∃ z, state st.seats (q : Int) = z := ⟨_, rfl⟩
  have hzq : (st.seats.getD q (0, -1)).1 = z := by rw [← hz]; unfold state; rw [inB_mk hq, if_pos rfl, Int.toNat_natCast]
  have hzs : stt st.seats q = z := by rw [← state_nat]; exact hz
  rw [hzq] at v0
  have hlx := h.lt b.x (fm_all b).1
  have hls := h.lt b.sx (fm_all b).2.1
  have hlb := h.lt b.sb (fm_all b).2.2.1
  have hlm := h.lt
  have hlr := hR.lt
  have D1 : Upd (fun _ => False) w ((w.alloc (.cells #[.int .i64 0, .int .i64 0, .int .i64 0, .int .i64 0] 138)).alloc (.cells #[.int .i64 0, .int .i64 0, .int .i64 0, .int .i64 0] 138)) := ((Upd.refl _ w).alloc _).alloc _
  have h1 := h.keep D1 (fun _ _ => id)
  have g1 := hR.keep D1 (fun _ _ => id)
  have R0 : Row ((w.alloc (.cells #[.int .i64 0, .int .i64 0, .int .i64 0, .int .i64 0] 138)).alloc (.cells #[.int .i64 0, .int .i64 0, .int .i64 0, .int .i64 0] 138)) w.heap.size [.int .i64 0, .int .i64 0, .int .i64 0, .int .i64 0] := (Row.new' rfl).alloc _
  have R1 : Row ((w.alloc (.cells #[.int .i64 0, .int .i64 0, .int .i64 0, .int .i64 0] 138)).alloc (.cells #[.int .i64 0, .int .i64 0, .int .i64 0, .int .i64 0] 138)) (w.heap.size + 1) [.int .i64 0, .int .i64 0, .int .i64 0, .int .i64 0] := Row.new' (by simp)
  have up1 : Upd (fun i => fm b i ∨ R i) w ((w.alloc (.cells #[.int .i64 0, .int .i64 0, .int .i64 0, .int .i64 0] 138)).alloc (.cells #[.int .i64 0, .int .i64 0, .int .i64 0, .int .i64 0] 138)) := D1.mono fun _ _ z => z.elim
  have b1 : decide ((q : Int) < 0) = false := by rw [decide_eq_false_iff_not]; omega
  have b2 : decide ((st.seats.length : Int) ≤ (q : Int)) = false := by rw [decide_eq_false_iff_not]; omega
  have b3 : decide (st.seats.length ≤ q) = false := by rw [decide_eq_false_iff_not]; omega
  obtain ⟨D, hD⟩ : ∃ D, w.heap.size = D := ⟨_, rfl⟩
  have HD := Lib.hid hD
  obtain ⟨W, hW⟩ : ∃ W, (w.alloc (.cells #[.int .i64 0, .int .i64 0, .int .i64 0, .int .i64 0] 138)).alloc (.cells #[.int .i64 0, .int .i64 0, .int .i64 0, .int .i64 0] 138) = W := ⟨_, rfl⟩
  rw [hW] at h1 g1 R0 R1 up1
  rw [hD] at R0 R1 hlm hlr
  have HW := Lib.hid hW
  have HLM := Lib.hid hlm
  have HLR := Lib.hid hlr
  have HWD := Lib.hid (show W.heap.size = D + 2 by rw [← hW, ← hD]; simp)
  have nD : ¬ R D := fun h => by have := hlr D h; omega
  have nD1 : ¬ R (D + 1) := fun h => by have := hlr _ h; omega
  have HF := Lib.hid hf
  have HN := Lib.hid hn
  have HN8 := Lib.hid n8
  have HWS := Lib.hid hws
  have HDD := Lib.hid hd
  have HWDD := Lib.hid hwd
  have HREL := Lib.hid hrel
  have HC8 := Lib.hid hc8
  have HZS := Lib.hid hzs
  have hlen := h.l1
  have HLEN := Lib.hid hlen
  have HST := Lib.hid (show Abort.step n 0 c st q q now = ((midS n 0 c st q q now).1, { (midS n 0 c st q q now).2 with seats := (fin (midS n 0 c st q q now).2.seats q (midS n 0 c st q q now).1.1).2, pls := if (fin (midS n 0 c st q q now).2.seats q (midS n 0 c st q q now).1.1).1 = true then rest (midS n 0 c st q q now).2.pls (q : Int).toNat else (midS n 0 c st q q now).2.pls }) from rfl)
  have hq1 : (0 : Int) ≤ (q : Int) := by omega
  have hq2 : (q : Int) < (st.seats.length : Int) := by omega
  have hDm : ∀ i, fm b i → i ≠ D := fun i hi e => by have := HLM.out i hi; omega
  have hDm1 : ∀ i, fm b i → i ≠ D + 1 := fun i hi e => by have := HLM.out i hi; omega
  clear hlm hlr hR D1 hW hD hd hf hws h hn hwd n8 htop hrel hc8 hzs hlen
  have h3q : stt st.seats q = 3 := by rw [← state_nat]; exact h3s
  have KL := unlR h1 g1 HDD.out HF.out HN8.out HN.out HWS.out HWDD.out hq (HREL.out q) (hI.three q (by rw [← HN.out]; exact hq) h3q)
  have hL0 := unlS_ev (k := n) (tl := 0) (st := st) q q
  have hss := (unlS_len (k := n) (tl := 0) st q q).1
  obtain ⟨⟨ev, st'⟩, hL⟩ : ∃ r, unlS n 0 st q q = r := ⟨_, rfl⟩
  rw [hL] at KL hL0 hss
  dsimp only at hL0 hss
  have hot : st'.pls.length = st.pls.length ∧ (∀ u, u ≠ q → st'.pls.getD u p0 = st.pls.getD u p0) := by
    rcases hL0 with ⟨_, h2 | ⟨y, h2⟩⟩ <;> rw [h2]
    · exact ⟨rfl, fun _ _ => rfl⟩
    · exact ⟨by simp, fun u hu => pl_other _ _ hu⟩
  have HOT := Lib.hid hot.2
  have HEV := Lib.hid (show stt st.seats q = 1 ∧ (ev = 0 ∨ ev = 1 ∨ ev = 2 ∨ ev = 6) ∨ stt st.seats q = 3 ∧ (ev = 0 ∨ ev = 3) ∨ ev = 0 from .inr (.inl ⟨h3q, hL0.1⟩))
  have HPQ := Lib.hid (show q < st'.pls.length by rw [hot.1]; exact hp)
  have HSS := Lib.hid hss
  obtain ⟨d1, hd1⟩ : ∃ x, false = x := ⟨_, rfl⟩
  obtain ⟨d2, hd2⟩ : ∃ x, false = x := ⟨_, rfl⟩
  obtain ⟨d3, hd3⟩ : ∃ x, false = x := ⟨_, rfl⟩
  obtain ⟨i1, hi1⟩ : ∃ i, b2i d1 = i := ⟨_, rfl⟩
  obtain ⟨i2, hi2⟩ : ∃ i, b2i d2 = i := ⟨_, rfl⟩
  obtain ⟨i3, hi3⟩ : ∃ i, b2i d3 = i := ⟨_, rfl⟩
  have HDM := Lib.hid (show didm (ev, d1, d2, d3) = .agg #[.int .i64 ev, .int .i64 i1, .int .i64 i2, .int .i64 i3] by rw [← hi1, ← hi2, ← hi3]; rfl)
  have HMID := Lib.hid (show midS n 0 c st q q now = ((ev, d1, d2, d3), st') by rw [← hd1, ← hd2, ← hd3]; unfold midS; rw [h3s, if_neg (by decide), if_pos rfl, Int.toNat_natCast, hL])
  dsimp only at KL
  have HKL := Lib.hid KL
  have HZQ := Lib.hid (show (st.seats.getD q (0, -1)).1 = 3 by rw [hzq, ← hz]; exact h3s)
  rw [show z = 3 by rw [← hz]; exact h3s] at v0
  have R1x : Row W (D + 1) [.int .i64 0, .int .i64 i1, .int .i64 i2, .int .i64 i3] := by rw [← hi1, ← hi2, ← hi3, ← hd1, ← hd2, ← hd3]; exact R1
  clear R1
  have R1 := R1x
  clear h3s hzq hz KL hss hL hi1 hi2 hi3 hL0 hot h3q hI hd1 hd2 hd3 R1x
  go_enter Try.func106, Try.ntmps106
  go_upto_region 4 with (fail)
  rw [HW.out, HD.out]
  clear c0 c3 u0 v0 hlx hls hlb b1 b2 b3
  have c0 := h1.top.cell (i := 0) rfl
  have c3 := h1.top.cell (i := 3) rfl
  obtain ⟨cs, cd, htop⟩ := h1.seat.top
  have u0 := htop.cell (i := 0) rfl
  have v0 := h1.seat.st.cell (sts_get hq)
  rw [HZQ.out] at v0
  clear htop
  go_wp2_with fail
  refine HKL.out.mono ?_
  rintro e w5 ⟨rfl, pl', al', A5, ka, kb, k1, k2, k3, k4, R', g5, u5, hR5s⟩
  have HK1 := Lib.hid k1
  have HK2 := Lib.hid k2
  have HK3 := Lib.hid k3
  have HK4 := Lib.hid k4
  have HKB := Lib.hid kb
  clear k1 k2 k3 k4 kb ka
  have HS : Hid (∀ i, R' i → (R i ∨ D ≤ i) ∧ ¬ fm b i ∧ i ≠ D ∧ i ≠ D + 1) := Lib.hid fun i hi => by
    rcases hR5s i hi with h | h
    · exact ⟨.inl h, HDD.out i h, by have := HLR.out i h; omega, by have := HLR.out i h; omega⟩
    · have := HWD.out
      have h : W.heap.size ≤ i := h
      exact ⟨.inr (by omega), fun e => by have := HLM.out i e; omega, by omega, by omega⟩
  have R5 := R1.upd u5 (fun e => e.elim (fun e => hDm1 _ e rfl) nD1)
  have Q5 := R0.upd u5 (fun e => e.elim (fun e => hDm _ e rfl) nD)
  have up5 := up1.trans u5
  have a0 := R5.cell (i := 0) rfl
  have z0 := R5.frozen 0
  go_upto_region 9 with (fail)
  have R6 := R5.set 0 (.int .i64 ev)
  have U6 := Upd.one w5 (D + 1) 0 (.int .i64 ev)
  have A6 := A5.keep U6 (fun i hi e => hDm1 i hi e)
  have Q6 := Q5.upd U6 (by omega)
  have g6 := g5.keep U6 (fun i hi e => (HS.out i hi).2.2.2 e)
  have up6 := up5.then U6 (fun i hi e => by have := HD.out; omega)
  obtain ⟨w6', hw6'⟩ : ∃ w', w5.setCell ⟨D + 1, 0, none⟩ (.int .i64 ev) = w' := ⟨_, rfl⟩
  rw [hw6'] at R6 U6 A6 Q6 g6 up6 ⊢
  replace R6 : Row w6' (D + 1) [.int .i64 ev, .int .i64 i1, .int .i64 i2, .int .i64 i3] := R6
  clear hw6' a0 z0 A5 R5 Q5 g5 up5 u5 c0 c3 u0 v0
  obtain ⟨w6, hw6⟩ : ∃ w6, w6' = w6 := ⟨_, rfl⟩
  have h5 := A6
  have g5 := g6
  have r5 := R6
  have q5 := Q6
  have u5 := up6
  rw [hw6] at h5 g5 r5 q5 u5 ⊢
  clear A6 g6 R6 Q6 up6
  obtain ⟨fv, hfv⟩ : ∃ fv, fin st.seats (q : Int) ev = fv := ⟨_, rfl⟩
  obtain ⟨fb, fl⟩ := fv
  have HST2 := Lib.hid (show Abort.step n 0 c st q q now = ((ev, d1, d2, d3), { st' with seats := fl, pls := if fb = true then Abort.rest st'.pls q else st'.pls }) by rw [HST.out, HMID.out]; dsimp only; rw [HSS.out, hfv, Int.toNat_natCast])
  have hfl : fl.length = st.seats.length := by have := fin_len st.seats (q : Int) ev; rw [hfv] at this; exact this
  have HFL := Lib.hid hfl
  have HFN := Lib.hid (show fb = false → ev = 0 from fun e => fin_no (sl := st.seats) (u := q) (by rw [hfv]; exact e) HEV.out)
  have HRB : Hid (∀ i, R' i → ¬ (i = b.sb ∨ i = b.db) ∧ i ≠ D) := Lib.hid fun i hi => by
    obtain ⟨_, k2, k1, _⟩ := HS.out i hi
    exact ⟨fun e => k2 (by rcases e with rfl | rfl; exact (fm_all b).2.2.1; exact (fm_all b).2.2.2.1), k1⟩
  have g0 := h5.top.cell (i := 0) rfl
  have g1' := r5.cell (i := 0) rfl
  have hxb : ¬ (b.x = b.sb ∨ b.x = b.db) := fun e => by rcases e with e | e; exact Bk.ne h5.nd 0 2 (by decide) (by decide) (by decide) e; exact Bk.ne h5.nd 0 3 (by decide) (by decide) (by decide) e
  have hDb : ¬ (D = b.sb ∨ D = b.db) := fun e => by rcases e with e | e; exact hDm b.sb (fm_all b).2.2.1 e.symm; exact hDm b.db (fm_all b).2.2.2.1 e.symm
  have hD1b : ¬ (D + 1 = b.sb ∨ D + 1 = b.db) := fun e => by rcases e with e | e; exact hDm1 b.sb (fm_all b).2.2.1 e.symm; exact hDm1 b.db (fm_all b).2.2.2.1 e.symm
  have KE := rend_all _ _ _ _ _ _ _ (h5.seat.drewN 1) q ev
  rw [hfv] at KE
  have h6d := h5.keep ((Upd.refl (fun _ => False) w6).drewN 1) (fun _ _ => id)
  obtain ⟨bi, hbi⟩ : ∃ x, b2i fb = x := ⟨_, rfl⟩
  dsimp only at KE
  rw [hbi] at KE
  have HBI := Lib.hid hbi
  have HKE := Lib.hid KE
  clear KE hfv hw6 hfl hbi
  go_wp2_with fail
  go_region_held3 (fun w' => w'.cell? ⟨b.x, 0, none⟩ = some (.pointer (some ⟨b.sx, 0, none⟩)) ∧ w'.cell? ⟨D + 1, 0, none⟩ = some (.int .i64 ev)) ((first | exact ⟨g0, g1'⟩ | exact ⟨e0, e1⟩))
    ((go_at_call 110; refine HKE.out.mono ?_; rintro e w7 ⟨rfl, hs7, u7⟩; have e0 := cell_upd u7 g0 hxb; have e1 := cell_upd u7 g1' hD1b))
  have A7 := h6d.seats HFL.out hs7 u7
  have g7 := (g5.drewN 1).keep u7 (fun i hi => (HRB.out i hi).1)
  have r7 := (r5.drewN 1).upd u7 hD1b
  have q7 := (q5.drewN 1).upd u7 hDb
  have up7 : Upd (fun i => fm b i ∨ R i) w w7 := (u5.drewN 1).trans (u7.mono fun i _ e => by rcases e with rfl | rfl; exact .inl (fm_all b).2.2.1; exact .inl (fm_all b).2.2.2.1)
  clear e0 e1 g0 g1' h5 h6d g5 r5 q5 u5 u7 hs7 HKE
  cases fb with
  | false =>
    have hb0 : bi = 0 := HBI.out.symm
    subst hb0
    obtain ⟨w9, hw9⟩ : ∃ w9, w7 = w9 := ⟨_, rfl⟩
    have A9 := A7
    have g9 := g7
    have r9 := r7
    have q9 := q7
    have up9 := up7
    rw [hw9] at A9 g9 r9 q9 up9 ⊢
    clear hw9 A7 g7 r7 q7 up7
    have y0 := r9.cell (i := 0) rfl
    have y1 := r9.cell (i := 1) rfl
    have y2 := r9.cell (i := 2) rfl
    have y3 := r9.cell (i := 3) rfl
    have z0 := q9.cell (i := 0) rfl
    have z1 := q9.cell (i := 1) rfl
    have z2 := q9.cell (i := 2) rfl
    have z3 := q9.cell (i := 3) rfl
    have k0 := q9.frozen 0
    have k1 := q9.frozen 1
    have k2 := q9.frozen 2
    have k3 := q9.frozen 3
    go_wp2_with fail
    have RE := did4 q9 (.int .i64 ev) (.int .i64 i1) (.int .i64 i2) (.int .i64 i3)
    have UE := upd4 w9 D (.int .i64 ev) (.int .i64 i1) (.int .i64 i2) (.int .i64 i3)
    obtain ⟨w99, hw99⟩ : ∃ w', (((w9.setCell ⟨D, 0, none⟩ (.int .i64 ev)).setCell ⟨D, 1, none⟩ (.int .i64 i1)).setCell ⟨D, 2, none⟩ (.int .i64 i2)).setCell ⟨D, 3, none⟩ (.int .i64 i3) = w' := ⟨_, rfl⟩
    rw [hw99] at RE UE ⊢
    have g0 := RE.cell (i := 0) rfl
    have g1' := RE.cell (i := 1) rfl
    have g2 := RE.cell (i := 2) rfl
    have g3 := RE.cell (i := 3) rfl
    refine bodyPost_ret (v := didm (ev, d1, d2, d3)) (by rw [HDM.out]; simp [results, Try.results106, go_sem, g0, g1', g2, g3]) rfl ?_
    rw [HST2.out]
    obtain ⟨k4, k5⟩ := HK4.out (HFN.out (by first | trivial | rfl))
    refine ⟨rfl, ⟨al', ?_, ?_⟩, R', g9.keep UE (fun i hi e => (HRB.out i hi).2 e), up9.then UE (fun i hi e => by have := HD.out; omega), fun i hi => (by rw [HD.out]; exact (HS.out i hi).1)⟩
    · first | (rw [← k4]; exact A9.keep UE (fun i hi e => hDm i hi e)) | (show MAt _ _ _ fl (if false = true then _ else _) _; rw [if_neg Bool.false_ne_true, ← k4]; exact A9.keep UE (fun i hi e => hDm i hi e))
    · intro u
      show ((if false = true then Abort.rest st'.pls q else st'.pls).getD u p0).o = 0 ∨ al'.getD u 0 = ((if false = true then Abort.rest st'.pls q else st'.pls).getD u p0).o
      rw [if_neg Bool.false_ne_true]
      by_cases e : u = q
      · subst e; exact k5
      · rw [HOT.out u e, HKB.out u e]; exact HREL.out u
  | true =>
    have hb1 : bi = 1 := HBI.out.symm
    subst hb1
    have hpl' : q < pl'.length := by rw [HK1.out]; exact HPQ.out
    have hqf : q < fl.length := by rw [HFL.out]; exact hq
    have hq2f : (q : Int) < (fl.length : Int) := by omega
    have t3 := A7.top.cell (i := 3) rfl
    have t6 := A7.top.cell (i := 6) rfl
    have s3 := A7.prow.cell (col_get hpl')
    have s6 := A7.trow.cell (col_get hpl')
    have v3 := A7.prow.frozen q
    have v6 := A7.trow.frozen q
    obtain ⟨⟨js, jr, jn, jo⟩, hj⟩ : ∃ x, pl'.getD q p0 = x := ⟨_, rfl⟩
    have hjk := A7.ok q hpl'
    rw [hj] at s3 s6 hjk
    dsimp only at s3 s6
    obtain ⟨j1, j2, j3⟩ := hjk
    dsimp only at j1 j2 j3
    have A8 : MAt b (w7.setCell ⟨b.pc, q, none⟩ (.int .i64 1)) c fl _ _ := A7.setPc q hqf ⟨0, jr, jn, jo⟩ (by rw [hj]) ⟨(show (0 : Int) ≤ 0 ∧ (0 : Int) ≤ 8 by decide), j2, j3⟩
    have A9 := A8.setTr q hqf ⟨0, 0, jn, 0⟩ (by rw [pl_at _ _ hpl']) ⟨(show (0 : Int) ≤ 0 ∧ (0 : Int) ≤ 8 by decide), (show (0 : Int) ≤ 0 ∧ (0 : Int) ≤ 8 by decide), j3⟩
    rw [List.set_set] at A9
    have m6 := A8.trow.cell (col_get (t := q) (by simpa using hpl'))
    rw [pl_at _ _ hpl'] at m6
    dsimp only at m6
    have m6z := A8.trow.frozen q
    have m6t := A8.top.cell (i := 6) rfl
    have npt : b.pc ≠ b.tb := Bk.ne A7.nd 4 7 (by decide) (by decide) (by decide)
    have U8 := ((Upd.one w7 b.pc q (.int .i64 1)).mono (S' := fun i => i = b.pc ∨ i = b.tb) (fun i _ e => .inl e)).trans ((Upd.one (w7.setCell ⟨b.pc, q, none⟩ (.int .i64 1)) b.tb q (.int .i64 0)).mono (fun i _ e => .inr e))
    have fU : ∀ i, i = b.pc ∨ i = b.tb → fm b i := fun i e => by rcases e with rfl | rfl; exact (fm_all b).2.2.2.2.1; exact (fm_all b).2.2.2.2.2.2.2
    have g9 := (g7.keep U8 (fun i hi e => (HS.out i hi).2.1 (fU i e))).drewN 1
    have r9 := (r7.upd U8 (fun e => hDm1 _ (fU _ e) rfl)).drewN 1
    have q9 := (q7.upd U8 (fun e => hDm _ (fU _ e) rfl)).drewN 1
    have up9 := (up7.trans (U8.mono fun i _ e => .inl (fU i e))).drewN 1
    have A9 := A9.keep ((Upd.refl (fun _ => False) _).drewN 1) (fun _ _ => id)
    have HJ := Lib.hid hj
    have HAN := Lib.hid A7.nd
    clear U8 A7 g7 r7 q7 up7 hj j1 j2 j3 A8
    go_upto_region 10 with (fail)
    go_region
    all_goals
      obtain ⟨w9, hw9⟩ : ∃ w', ((w7.setCell ⟨b.pc, q, none⟩ (.int .i64 1)).setCell ⟨b.tb, q, none⟩ (.int .i64 0)).drew = w' := ⟨_, rfl⟩
      have hw9' : ((w7.setCell ⟨b.pc, q, none⟩ (.int .i64 1)).setCell ⟨b.tb, q, none⟩ (.int .i64 0)).drewN 1 = w9 := hw9
      rw [hw9'] at A9 g9 r9 q9 up9
      rw [hw9]
      clear hw9 hw9' t3 t6 s3 s6 v3 v6 m6 m6z m6t npt
      have y0 := r9.cell (i := 0) rfl
      have y1 := r9.cell (i := 1) rfl
      have y2 := r9.cell (i := 2) rfl
      have y3 := r9.cell (i := 3) rfl
      have z0 := q9.cell (i := 0) rfl
      have z1 := q9.cell (i := 1) rfl
      have z2 := q9.cell (i := 2) rfl
      have z3 := q9.cell (i := 3) rfl
      have k0 := q9.frozen 0
      have k1 := q9.frozen 1
      have k2 := q9.frozen 2
      have k3 := q9.frozen 3
      go_wp2_with fail
      have RE := did4 q9 (.int .i64 ev) (.int .i64 i1) (.int .i64 i2) (.int .i64 i3)
      have UE := upd4 w9 D (.int .i64 ev) (.int .i64 i1) (.int .i64 i2) (.int .i64 i3)
      obtain ⟨w99, hw99⟩ : ∃ w', (((w9.setCell ⟨D, 0, none⟩ (.int .i64 ev)).setCell ⟨D, 1, none⟩ (.int .i64 i1)).setCell ⟨D, 2, none⟩ (.int .i64 i2)).setCell ⟨D, 3, none⟩ (.int .i64 i3) = w' := ⟨_, rfl⟩
      rw [hw99] at RE UE ⊢
      have g0 := RE.cell (i := 0) rfl
      have g1' := RE.cell (i := 1) rfl
      have g2 := RE.cell (i := 2) rfl
      have g3 := RE.cell (i := 3) rfl
      refine bodyPost_ret (v := didm (ev, d1, d2, d3)) (by rw [HDM.out]; simp [results, Try.results106, go_sem, g0, g1', g2, g3]) rfl ?_
      rw [HST2.out]
      have hjn : jn = (st'.pls.getD q p0).n := by have := HK3.out; rw [HJ.out] at this; exact this
      have hset : pl'.set q ⟨0, 0, jn, 0⟩ = Abort.rest st'.pls q := by unfold Abort.rest; rw [hjn]; exact set_eq _ _ q HK1.out HK2.out _
      refine ⟨rfl, ⟨al', ?_, ?_⟩, R', g9.keep UE (fun i hi e => (HRB.out i hi).2 e), up9.then UE (fun i hi e => by have := HD.out; omega), fun i hi => (by rw [HD.out]; exact (HS.out i hi).1)⟩
      · first | (rw [← hset]; exact A9.keep UE (fun i hi e => hDm i hi e)) | (show MAt _ _ _ fl (if true = true then _ else _) _; rw [if_pos rfl, ← hset]; exact A9.keep UE (fun i hi e => hDm i hi e))
      · intro u
        show ((if true = true then Abort.rest st'.pls q else st'.pls).getD u p0).o = 0 ∨ al'.getD u 0 = ((if true = true then Abort.rest st'.pls q else st'.pls).getD u p0).o
        rw [if_pos rfl]
        unfold Abort.rest
        by_cases e : u = q
        · subst e; rw [pl_at _ _ HPQ.out]; exact .inl rfl
        · rw [pl_other _ _ e, HOT.out u e, HKB.out u e]; exact HREL.out u
theorem stepR {w : World} {st : St} {al : List Int} {y n : Nat} {R : Nat → Prop} (h : MAt b w c st.seats st.pls al) (hrel : Rel st al) (hR : Ref04.RO w y R n st.ws st.ts) (hI : IV n c st) (hd : ∀ i, R i → ¬ fm b i) (hf : st.ts.length < 1000000) (n8 : n ≤ 8) (hws : st.ws.length ≤ 100000) (hwd : Mem.Wd st.ws) (hc8 : c ≤ 8) (t now : Int) :
    Calls Try.prog 106 #[.pointer (some ⟨b.x, 0, none⟩), .pointer (some ⟨y, 0, none⟩), .int .i64 t, .int .i64 t, .int .i64 now] w fun e w' => e = .returned (didm (Abort.step n 0 c st t t now).1) ∧ (∃ al', MAt b w' c (Abort.step n 0 c st t t now).2.seats (Abort.step n 0 c st t t now).2.pls al' ∧ Rel (Abort.step n 0 c st t t now).2 al') ∧
      ∃ R', Ref04.RO w' y R' n (Abort.step n 0 c st t t now).2.ws (Abort.step n 0 c st t t now).2.ts ∧ Upd (fun i => fm b i ∨ R i) w w' ∧ ∀ i, R' i → R i ∨ w.heap.size ≤ i := by
  cases hin : inB t st.seats.length with
  | false => exact stepOut h hrel hR t now hin
  | true =>
    obtain ⟨q, rfl, hq⟩ := inB_nat hin
    by_cases h1 : state st.seats (q : Int) = 1
    · exact stepLock h hrel hR hI hd hf n8 hws hwd hc8 q now hq h1
    · by_cases h3 : state st.seats (q : Int) = 3
      · exact stepUnl h hrel hR hI hd hf n8 hws hwd hc8 q now hq h3
      · exact stepIdle h hrel hR hI hd hf n8 hws hwd hc8 q now hq h1 h3
end Go.Proofs.Ytlkpfdboagjaoaa.Ref14
