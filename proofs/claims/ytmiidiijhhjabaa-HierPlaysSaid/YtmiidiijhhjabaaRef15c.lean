/- The document's queue lock of queues: Seats, Homes, Words; as the laws take it. -/
import Derived.Test.YtmiidiijhhjabaaRef15b
import Derived.Test.YtmiidiijhhjabaaLaw15
namespace Go.Proofs.Ytmiidiijhhjabaa.Ref15
open Go Go.RowKit Go.Proofs.Ytmiidiijhhjabaa.Heap Go.Proofs.Ytmiidiijhhjabaa.Open Go.Proofs.Ytmiidiijhhjabaa.Seat Go.Proofs.Ytmiidiijhhjabaa.Mach Go.Proofs.Ytmiidiijhhjabaa.Has Go.Proofs.Ytmiidiijhhjabaa.Ref09 Go.Proofs.Ytmiidiijhhjabaa.Modl Go.Proofs.Ytmiidiijhhjabaa.SeatP Go.Proofs.Ytmiidiijhhjabaa.StepU Go.Proofs.Ytmiidiijhhjabaa.Hier Go.Proofs.Ytmiidiijhhjabaa.Law15
variable {b : Bk}
theorem seatsC {w : World} {sl : List (Int × Int)} {pl : List P} (h : MAt b w sl pl) :
    Calls Try.prog 107 #[.pointer (some ⟨b.x, 0, none⟩)] w fun e w' => e = .returned (.pointer (some ⟨b.sx, 0, none⟩)) ∧ w = w' := by
  have c0 := h.top.cell (i := 0) rfl
  go_enter Try.func107, Try.ntmps107
  go_wp2
  go_ret
  exact ⟨rfl, rfl⟩
theorem wrt_wd {ws : List Int} (h : Mem.Wd ws) (k : Nat) (a x v : Int) (h0 : 0 ≤ v) (h1 : v < 4294967296) : Mem.Wd (wrt k ws a x v) := by
  unfold wrt; split
  · exact h.put _ h0 h1
  · exact h
theorem wrt_len (ws : List Int) (k : Nat) (a x v : Int) : (wrt k ws a x v).length = ws.length := by
  unfold wrt; split
  · exact Mem.put_len _ _ _
  · rfl
theorem ok_at {pl : List P} (h : Hier.Ok pl) (t : Nat) : Ok1 (pl.getD t p0) := by
  by_cases ht : t < pl.length
  · exact h t ht
  · rw [show pl.getD t p0 = p0 by simp [List.getD, ht]]; exact ⟨by decide, by decide, by decide, by decide, by decide, by decide⟩
theorem mid_ws {n : Nat} {st : St} (hok : Hier.Ok st.pls) (h : Mem.Wd st.ws) (t a : Int) : Mem.Wd (midS n 0 st t a).2.ws ∧ (midS n 0 st t a).2.ws.length = st.ws.length := by
  obtain ⟨o1, o2, o3, o4, o5, o6⟩ := ok_at hok t.toNat
  have p0 := fun x => wrt_wd h n a x ((st.pls.getD t.toNat p0).c * 4 + 2) (by omega) (by omega)
  have p1 := fun x => wrt_wd h n a x (st.pls.getD t.toNat Hier.p0).n (by omega) (by omega)
  have p2 := fun x => wrt_wd h n a x (st.pls.getD t.toNat Hier.p0).l (by omega) (by omega)
  have p3 := fun x => Mem.Wd.put h x (x := (st.pls.getD t.toNat Hier.p0).w + 1 - (st.pls.getD t.toNat Hier.p0).w % 2) (by omega) (by omega)
  have p4 := fun x => Mem.Wd.put h x (x := (st.pls.getD t.toNat Hier.p0).w - 2 * ((st.pls.getD t.toNat Hier.p0).w / 2 % 2)) (by omega) (by omega)
  unfold midS
  split
  · unfold lockS
    dsimp only
    (repeat' split) <;> first | exact ⟨h, rfl⟩ | exact ⟨p0 _, wrt_len _ _ _ _ _⟩ | exact ⟨p1 _, wrt_len _ _ _ _ _⟩ | exact ⟨p2 _, wrt_len _ _ _ _ _⟩ | exact ⟨p3 _, Mem.put_len _ _ _⟩
  · split
    · unfold unlS
      dsimp only
      (repeat' split) <;> first | exact ⟨h, rfl⟩ | exact ⟨p4 _, Mem.put_len _ _ _⟩
    · exact ⟨h, rfl⟩
theorem step_len (n : Nat) (st : St) (t a now : Int) : (Hier.step n 0 st t a now).2.seats.length = st.seats.length := by
  show (fin (midS n 0 st t a).2.seats t (midS n 0 st t a).1.1).2.length = _
  rw [fin_len]
  unfold midS
  split
  · rw [(lockS_len st t.toNat a).1]
  · split
    · rw [(unlS_len st t.toNat a).1]
    · rfl
/-- The document's lock as the laws take it. -/
theorem modl (n : Nat) (n8 : n ≤ 8) : Modl b.x b.sx b.sb b.db false false (fm b) n St.seats setS (fun st t a now => Hier.step n 0 st t a now) St.ws St.ts (fun w st => MAt b w st.seats st.pls ∧ st.seats.length = n ∧ st.ws.length = n + 10 ∧ Mem.Wd st.ws) where
  keep := fun h hu hd => ⟨h.1.keep hu hd, h.2⟩
  lt := fun h => h.1.lt
  seat := fun h => h.1.seat
  fs := ⟨(fm_all b).2.1, (fm_all b).2.2.1, (fm_all b).2.2.2.1⟩
  len := fun h => h.2.1
  turn := fun {w w' st l'} h hs ha hu => by
    have hl : l'.length = st.seats.length := by
      rcases hs with rfl | ⟨k, _, a, d, rfl, _⟩
      · rfl
      · simp
    exact ⟨h.1.seats hl ha hu, hl.trans h.2.1, h.2.2⟩
  seatsC := fun h => seatsC h.1
  wsS := fun _ _ => rfl
  tsS := fun _ _ => rfl
  stepC := fun {w st y R} h hR hd hf t now => by
    obtain ⟨h1, h2, h3, h4⟩ := h
    refine (stepR h1 hR hd hf n8 h2 (by omega) h4 t now).mono fun e w' ⟨he, hm, hr⟩ => ⟨he, ⟨hm, (step_len n st t t now).trans h2, ?_, ?_⟩, hr⟩
    · exact (mid_ws h1.ok h4 t t).2.trans h3
    · exact (mid_ws h1.ok h4 t t).1
theorem ints_app (k : IntKind) (xs ys : List Int) : ints k xs ++ ints k ys = ints k (xs ++ ys) := by simp [ints]
set_option maxHeartbeats 4000000 in
/-- The homes that the document has. -/
theorem homesR (w : World) (v : Value) (hs : List Int) (h : Src1 w v .i64 hs) (n1 : 1 ≤ hs.length) (n2 : hs.length ≤ 64) :
    Calls Try.prog 23 #[v] w fun e w' => ∃ v', e = .returned v' ∧ Src1 w' v' .i64 (hh hs) ∧ Below w.heap.size w w' := by
  have hsrc := h
  obtain ⟨a, c, rfl, -, hcell⟩ := h
  obtain ⟨hb, off, rfl, hbw, hcell⟩ := hcell (by omega)
  have c0 : w.cell? ⟨hb, off, none⟩ = some (.int .i64 (hs.getD 0 0)) := hcell 0 (by omega)
  obtain ⟨y, hy⟩ : ∃ y, hs.getD 0 0 = y := ⟨_, rfl⟩
  have hhe : hh hs = [y, 0, 1, 2, 3, 4, 5, 6, 7] ++ hs ++ [y] := by unfold hh; rw [hy]; rfl
  rw [hhe]
  rw [hy] at c0
  have n3 : (0 : Int) < hs.length := by omega
  have n4 : hs.length ≤ 64 := n2
  obtain ⟨w1, hw1⟩ : ∃ w1, w.alloc (.cells #[.int .i64 y, .int .i64 0, .int .i64 1, .int .i64 2, .int .i64 3, .int .i64 4, .int .i64 5, .int .i64 6, .int .i64 7] 3) = w1 := ⟨_, rfl⟩
  have HO : w1.ownsRow w.heap.size 3 1 (.slice (some ⟨w.heap.size, 0, none⟩) 9 9) 9 (ints .i64 [y, 0, 1, 2, 3, 4, 5, 6, 7]) := by
    rw [← hw1]
    exact ⟨by simp [ints], .inr ⟨w.heap.size, 9, #[.int .i64 y, .int .i64 0, .int .i64 1, .int .i64 2, .int .i64 3, .int .i64 4, .int .i64 5, .int .i64 6, .int .i64 7], rfl, Nat.le_refl _, heap_alloc_new w _, by simp, by unfold maxLen; omega, rfl, rfl⟩⟩
  have B1 : Below w.heap.size w w1 := by rw [← hw1]; exact (Below.refl _ _).alloc (Nat.le_refl _) _
  have hrd := (hsrc.below B1).readable
  have HW1 := Lib.hid hw1
  have c1 : w1.cell? ⟨hb, off, none⟩ = some (.int .i64 y) := by
    have := (B1.cell (p := ⟨hb, off, none⟩) hbw); exact this.trans c0
  have hz1 : w.heap.size ≤ w1.heap.size := B1.size
  clear hcell hy hhe hw1
  go_enter Try.func23, Try.ntmps23
  go_upto_region 2 with (fail)
  rw [HW1.out]
  go_upto_region 3 with (at_builtin; refine wpList_append_src rfl (.tmp 8) (.tmp 9) 22 rfl w.heap.size 3 (.int .i64 0) 1 8 Try.underlying22 info_i rfl (by decide) (.slice (some ⟨w.heap.size, 0, none⟩) 9 9) 9 (ints .i64 [y, 0, 1, 2, 3, 4, 5, 6, 7]) rfl HO (.slice (some ⟨hb, off, none⟩) hs.length c) hs.length (ints .i64 hs) rfl hrd (by simp [ints]) (by intro u hu; simp [ints] at hu; obtain ⟨x, _, rfl⟩ := hu; rfl) (by unfold maxLen; omega) (by omega) (by omega) ?_; intro v7 w7 hown7 u7 near7; obtain ⟨va, vc, rfl⟩ := owned_len1 hown7; have c7 := cell_upd u7 c1 (fun e => by simp [Value.ownBlock] at e; omega); have B7 := u7.below B1 hz1 (fun i e => by simp [Value.ownBlock] at e; omega); have hz7 := B7.size; clear near7 u7)
  obtain ⟨m, hm⟩ : ∃ m, 9 + hs.length = m := ⟨_, rfl⟩
  rw [hm] at hown7 ⊢
  have hm2 : m ≤ 73 := by omega
  clear c0 c1 HO hrd
  go_wp2_with (at_builtin; refine wpList_append_near rfl (.tmp 11) (.tmp 15) 22 rfl w.heap.size 3 (.int .i64 0) 1 8 Try.underlying22 info_i rfl (by decide) (.slice va m vc) m (ints .i64 [y, 0, 1, 2, 3, 4, 5, 6, 7] ++ ints .i64 hs) rfl (own_upd hown7 ((Upd.refl (fun _ => False) _).alloc _) (fun _ _ => id)) ⟨w7.heap.size, 0, none⟩ 1 1 [.int .i64 y] rfl rfl (cell_newAt _ _ _ _ rfl) (one_cell rfl) (by unfold maxLen; omega) (by omega) (by simp; omega) ?_; intro v9 w9 hown9 hg9 near9; have u9 : Upd (fun i => (Value.slice va m vc).ownBlock = some i) w7 w9 := ((Upd.refl _ _).alloc _).trans (Upd.grown hg9); have B9 := u9.below B7 hz7 (fun i e => (own_lt hown7 e).2); obtain ⟨g, cap, rfl, hg, hr⟩ := owned hown9 (by omega); clear hg9 near9)
  go_ret
  refine ⟨_, rfl, ⟨some ⟨g, 0, none⟩, cap, by rw [← hm]; simp; omega, fun e => (by cases e), fun _ => ⟨g, 0, rfl, hr.lt, fun i hi => (by
    rw [Nat.zero_add]
    refine hr.cell ?_
    rw [show ([.int .i64 y] : List Value) = ints .i64 [y] from rfl, ints_app, ints_app]
    exact ints_get hi)⟩⟩, B9⟩
theorem two_set {α : Type} (n : Nat) (z a b : α) : ((List.replicate (n + 10) z).set 0 a).set (n + 9) b = [a] ++ List.replicate 8 z ++ List.replicate n z ++ [b] := by
  have e : List.replicate (n + 9) z = (List.replicate 8 z ++ List.replicate n z) ++ [z] := by
    rw [List.replicate_append_replicate, show n + 9 = (8 + n) + 1 by omega, List.replicate_succ']
  have l : (List.replicate 8 z ++ List.replicate n z).length = n + 8 := by simp
  rw [show n + 10 = (n + 9) + 1 from rfl, List.replicate_succ, List.set_cons_zero, show n + 9 = (n + 8) + 1 from rfl, List.set_cons_succ, show n + 8 + 1 = n + 9 from rfl, e, ← l, List.set_append_right _ _ (Nat.le_refl _), Nat.sub_self]
  simp
set_option maxHeartbeats 4000000 in
/-- The words at first. -/
theorem wordsR (w : World) (n : Nat) (n1 : 1 ≤ n) (n2 : n ≤ 64) :
    Calls Try.prog 28 #[.int .i64 n] w fun e w' => ∃ v', e = .returned v' ∧ Src1 w' v' .u32 ([] ++ [(n : Int) + 1] ++ List.replicate 8 0 ++ List.replicate n 0 ++ [4294967292]) ∧ Below w.heap.size w w' := by
  obtain ⟨m, hm⟩ : ∃ m, n + 10 = m := ⟨_, rfl⟩
  obtain ⟨q, hq⟩ : ∃ q, n + 9 = q := ⟨_, rfl⟩
  have hw1 : IntKind.i64.wrap ((n : Int) + 10) = (m : Int) := by rw [← hm]; push_cast; exact IntWalk.i64_in _ (by omega)
  have hw2 : IntKind.i64.wrap ((n : Int) + 9) = (q : Int) := by rw [← hq]; push_cast; exact IntWalk.i64_in _ (by omega)
  have hw3 : IntKind.i64.wrap ((n : Int) + 1) = (n : Int) + 1 := IntWalk.i64_in _ (by omega)
  have hw4 : IntKind.u32.wrap ((n : Int) + 1) = (n : Int) + 1 := by rw [show IntKind.u32.wrap ((n : Int) + 1) = ((n : Int) + 1) % 4294967296 from rfl]; omega
  have hmk := run_make_zeros (P := Try.prog) 66 27 (.int .u32 0) 4 Try.underlying66 info_u rfl m (by omega) (by omega)
  have HKW := Lib.hid (fun (w : World) => Pack.word_to 1073741823 0 0 (.inl rfl) (.inl rfl) w 4294967292 (by decide))
  have R0 : Row (w.alloc (.cells (zeros m (.int .u32 0)) 27)) w.heap.size (List.replicate m (.int .u32 0)) := Row.ofZeros rfl
  have B1 : Below w.heap.size w (w.alloc (.cells (zeros m (.int .u32 0)) 27)) := (Below.refl _ _).alloc (Nat.le_refl _) _
  obtain ⟨w1, hw⟩ : ∃ w1, w.alloc (.cells (zeros m (.int .u32 0)) 27) = w1 := ⟨_, rfl⟩
  obtain ⟨D, hD⟩ : ∃ D, w.heap.size = D := ⟨_, rfl⟩
  rw [hw] at R0 B1
  rw [hD] at R0 B1 ⊢
  have HW := Lib.hid hw
  have HD := Lib.hid hD
  have hz1 : D ≤ w1.heap.size := by rw [← hD]; exact (hD ▸ B1).size
  have c0 := R0.cell (i := 0) (by rw [List.getElem?_replicate_of_lt (by omega)])
  have f0 := R0.frozen 0
  have R1 := R0.set 0 (.int .u32 ((n : Int) + 1))
  have c1 := R1.cell (i := q) (by rw [List.getElem?_set_ne (by omega), List.getElem?_replicate_of_lt (by omega)])
  have f1 := R1.frozen q
  have R2 := R1.set q (.int .u32 4294967292)
  have U := (Upd.one w1 D 0 (.int .u32 ((n : Int) + 1))).trans (Upd.one (w1.setCell ⟨D, 0, none⟩ (.int .u32 ((n : Int) + 1))) D q (.int .u32 4294967292))
  have B3 := U.below B1 hz1 (fun i e => Nat.le_of_eq e.symm)
  have hl1 : (0 : Int) < (m : Int) := by omega
  have hl2 : (q : Int) < (m : Int) := by omega
  have HM := Lib.hid hm
  have HQ := Lib.hid hq
  clear hw hD hm hq
  go_enter Try.func28, Try.ntmps28
  go_upto_region 2 with (fail)
  rw [HW.out, HD.out]
  go_wp2_with fail
  refine (HKW.out _).mono ?_
  rintro e w' ⟨rfl, rfl⟩
  go_wp2_with fail
  go_ret
  have hr2 : ((List.replicate m (Value.int .u32 0)).set 0 (.int .u32 ((n : Int) + 1))).set q (.int .u32 4294967292) = ints .u32 ([] ++ [(n : Int) + 1] ++ List.replicate 8 0 ++ List.replicate n 0 ++ [4294967292]) := by
    rw [← HM.out, ← HQ.out, two_set]
    simp [ints]
  rw [hr2] at R2
  refine ⟨_, rfl, ⟨some ⟨D, 0, none⟩, m, by rw [← HM.out]; simp, fun e => (by cases e), fun _ => ⟨D, 0, rfl, R2.lt, fun i hi => (by rw [Nat.zero_add]; exact R2.cell (ints_get hi))⟩⟩, B3⟩
end Go.Proofs.Ytmiidiijhhjabaa.Ref15
