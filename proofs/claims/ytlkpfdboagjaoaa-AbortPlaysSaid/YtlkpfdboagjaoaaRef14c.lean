/- The document's lock of whom time may run out: Seats, Homes; as the laws take it. -/
import Derived.Test.YtlkpfdboagjaoaaRef14b
import Derived.Test.YtlkpfdboagjaoaaLaw14
namespace Go.Proofs.Ytlkpfdboagjaoaa.Ref14
open Go Go.RowKit Go.Proofs.Ytlkpfdboagjaoaa.Heap Go.Proofs.Ytlkpfdboagjaoaa.Open Go.Proofs.Ytlkpfdboagjaoaa.Seat Go.Proofs.Ytlkpfdboagjaoaa.Mach Go.Proofs.Ytlkpfdboagjaoaa.Has Go.Proofs.Ytlkpfdboagjaoaa.Ref09 Go.Proofs.Ytlkpfdboagjaoaa.Modl Go.Proofs.Ytlkpfdboagjaoaa.SeatP Go.Proofs.Ytlkpfdboagjaoaa.StepU Go.Proofs.Ytlkpfdboagjaoaa.Abort Go.Proofs.Ytlkpfdboagjaoaa.Law14
variable {b : Bk} {c : Nat}
theorem seatsC {w : World} {sl : List (Int × Int)} {pl : List P} {al : List Int} (h : MAt b w c sl pl al) :
    Calls Try.prog 105 #[.pointer (some ⟨b.x, 0, none⟩)] w fun e w' => e = .returned (.pointer (some ⟨b.sx, 0, none⟩)) ∧ w = w' := by
  have c0 := h.top.cell (i := 0) rfl
  go_enter Try.func105, Try.ntmps105
  go_wp2
  go_ret
  exact ⟨rfl, rfl⟩
theorem wrt_wd {ws : List Int} (h : Mem.Wd ws) (k : Nat) (a x v : Int) (h0 : 0 ≤ v) (h1 : v < 4294967296) : Mem.Wd (wrt k ws a x v) := by
  unfold wrt; split
  · exact h.put _ h0 h1
  · exact h
theorem wrt_len (ws : List Int) (k : Nat) (a x v : Int) : (wrt k ws a x v).length = ws.length := by
  unfold wrt; split
  · exact Mem.put_len _ _ _
  · rfl
theorem mid_ws {n : Nat} {st : St} (hn : ∀ t, 0 ≤ (st.pls.getD t p0).n ∧ (st.pls.getD t p0).n < 4294967296) (h : Mem.Wd st.ws) (t a now : Int) : Mem.Wd (midS n 0 c st t a now).2.ws ∧ (midS n 0 c st t a now).2.ws.length = st.ws.length := by
  have o3 := hn t.toNat
  have q0 := fun x => wrt_wd h n a x 0 (by decide) (by decide)
  have q1 := fun x => wrt_wd h n a x 1 (by decide) (by decide)
  have q2 := fun x => wrt_wd h n a x (st.pls.getD t.toNat p0).n o3.1 o3.2
  have q3 := fun x => Mem.Wd.put h x (x := 2) (by decide) (by decide)
  have q4 := fun x => Mem.Wd.put h x (x := 0) (by decide) (by decide)
  have q5 := fun x => Mem.Wd.put h x (x := 1) (by decide) (by decide)
  unfold midS
  split
  · obtain ⟨⟨d, st'⟩, e⟩ : ∃ r, lockS n 0 c st t.toNat a (lateB st.seats t now) = r := ⟨_, rfl⟩
    rw [e]
    unfold lockS at e
    dsimp only at e
    (repeat' split at e) <;> cases e <;> first | exact ⟨h, rfl⟩ | exact ⟨q0 _, wrt_len _ _ _ _ _⟩ | exact ⟨q1 _, wrt_len _ _ _ _ _⟩ | exact ⟨q2 _, wrt_len _ _ _ _ _⟩ | exact ⟨q3 _, Mem.put_len _ _ _⟩
  · split
    · obtain ⟨⟨d, st'⟩, e⟩ : ∃ r, unlS n 0 st t.toNat a = r := ⟨_, rfl⟩
      rw [e]
      unfold unlS at e
      dsimp only at e
      (repeat' split at e) <;> cases e <;> first | exact ⟨h, rfl⟩ | exact ⟨q0 _, wrt_len _ _ _ _ _⟩ | exact ⟨q4 _, Mem.put_len _ _ _⟩ | exact ⟨q5 _, Mem.put_len _ _ _⟩
    · exact ⟨h, rfl⟩
theorem n_at {pl : List P} (h : OkD pl) (t : Nat) : 0 ≤ (pl.getD t p0).n ∧ (pl.getD t p0).n < 4294967296 := by
  by_cases ht : t < pl.length
  · exact (h t ht).2.2
  · rw [show pl.getD t p0 = p0 by simp [List.getD, ht]]; exact ⟨by decide, by decide⟩
/-- The document's lock as the laws take it. -/
theorem modl (n : Nat) (n8 : n ≤ 8) (c1 : 1 ≤ c) (c8 : c ≤ 8) : Modl b.x b.sx b.sb b.db true false (fm b) n St.seats setS (fun st t a now => Abort.step n 0 c st t a now) St.ws St.ts (fun w st => (∃ al, MAt b w c st.seats st.pls al ∧ Rel st al) ∧ IV n c st ∧ st.ws.length = 1 + n * (3 * c) ∧ Mem.Wd st.ws) where
  keep := fun h hu hd => by
    obtain ⟨⟨al, h1, h2⟩, h3⟩ := h
    exact ⟨⟨al, h1.keep hu hd, h2⟩, h3⟩
  lt := fun h => by
    obtain ⟨⟨al, h1, h2⟩, h3⟩ := h
    exact h1.lt
  seat := fun h => by
    obtain ⟨⟨al, h1, h2⟩, h3⟩ := h
    exact h1.seat
  fs := ⟨(fm_all b).2.1, (fm_all b).2.2.1, (fm_all b).2.2.2.1⟩
  len := fun h => h.2.1.sl
  turn := fun {w w' st l'} h hs ha hu => by
    obtain ⟨⟨al, h1, h2⟩, hI, h3⟩ := h
    have hl : l'.length = st.seats.length := by
      rcases hs with rfl | ⟨k, _, a, d, rfl, _⟩
      · rfl
      · simp
    refine ⟨⟨al, h1.seats hl ha hu, h2⟩, ?_, h3⟩
    rcases hs with rfl | ⟨k, hk, a, d, rfl, hc⟩
    · exact hI
    · exact hI.turn c1 k (by rw [← hI.sl]; exact hk) a d rfl ⟨by omega, by omega⟩
  seatsC := fun h => by
    obtain ⟨⟨al, h1, h2⟩, h3⟩ := h
    exact seatsC h1
  wsS := fun _ _ => rfl
  tsS := fun _ _ => rfl
  stepC := fun {w st y R} h hR hd hf t now => by
    obtain ⟨⟨al, h1, h2⟩, hI, h3, h4⟩ := h
    have hnc : n * (3 * c) ≤ 8 * 24 := Nat.mul_le_mul n8 (by omega)
    have hm := mid_ws (c := c) (n := n) (n_at h1.ok) h4 t t now
    refine (stepR h1 h2 hR hI hd hf n8 (by omega) h4 c8 t now).mono fun e w' ⟨he, hM, hr⟩ => ⟨he, ⟨hM, hI.step (fun u hu => (h1.ok u (by rw [h1.l1, hI.sl]; exact hu)).1.1) t t now n 0, ?_, ?_⟩, hr⟩
    · exact hm.2.trans h3
    · exact hm.1
set_option maxHeartbeats 4000000 in
/-- The homes that the document has. -/
theorem homesR (w : World) (v : Value) (hs : List Int) (h : Src1 w v .i64 hs) (n1 : 1 ≤ hs.length) (n2 : hs.length ≤ 64) (c1 : 1 ≤ c) (c8 : c ≤ 8) :
    Calls Try.prog 26 #[v, .int .i64 c] w fun e w' => ∃ v', e = .returned v' ∧ Src1 w' v' .i64 (hh c hs) ∧ Below w.heap.size w w' := by
  obtain ⟨a, cv, rfl, -, hcell⟩ := h
  obtain ⟨hb, off, rfl, hbw, hcell⟩ := hcell (by omega)
  have c0 : w.cell? ⟨hb, off, none⟩ = some (.int .i64 (hs.getD 0 0)) := hcell 0 (by omega)
  obtain ⟨y, hy⟩ : ∃ y, hs.getD 0 0 = y := ⟨_, rfl⟩
  have hhe : hh c hs = [y] ++ nodeH c hs := by unfold hh; rw [hy]; rfl
  rw [hhe]
  rw [hy] at c0
  have n3 : (0 : Int) < hs.length := by omega
  obtain ⟨m3, hm3⟩ : ∃ m : Nat, 3 * c = m := ⟨_, rfl⟩
  have hm4 : 3 ≤ m3 ∧ m3 ≤ 24 := by omega
  have h3c : IntKind.i64.wrap (3 * (c : Int)) = (m3 : Int) := by rw [← hm3]; push_cast; exact IntWalk.i64_in _ (by omega)
  have HM3 := Lib.hid hm3
  obtain ⟨D, hD⟩ : ∃ D, w.heap.size = D := ⟨_, rfl⟩
  have HO : (w.alloc (.cells #[.int .i64 y] 3)).ownsRow D 3 1 (.slice (some ⟨D, 0, none⟩) 1 1) 1 (ints .i64 [y]) := by
    rw [← hD]
    exact ⟨by simp [ints], .inr ⟨w.heap.size, 1, #[.int .i64 y], rfl, Nat.le_refl _, heap_alloc_new w _, by simp, by unfold maxLen; omega, rfl, rfl⟩⟩
  have B1 : Below D w (w.alloc (.cells #[.int .i64 y] 3)) := by rw [← hD]; exact (Below.refl _ _).alloc (Nat.le_refl _) _
  have HC := Lib.hid (fun (j : Nat) (hj : j < hs.length) => hcell j hj)
  have HDW := Lib.hid hD
  have hbD : hb < D := by rw [← hD]; exact hbw
  have hz1 : D ≤ (w.alloc (.cells #[.int .i64 y] 3)).heap.size := by simp; omega
  clear hcell hy hhe hm3 hbw
  go_enter Try.func26, Try.ntmps26
  go_upto_region 2 with (fail)
  obtain ⟨w1, hw1⟩ : ∃ w1, w.alloc (.cells #[.int .i64 y] 3) = w1 := ⟨_, rfl⟩
  rw [hw1] at HO B1 hz1 ⊢
  clear hw1 c0 hD
  go_wp2_with fail
  go_loopw [5, 15] (fun s5 i wr => ∃ j : Nat, j ≤ hs.length ∧ i = .int .i64 j ∧ ∃ N, N = 1 + j * m3 ∧ wr.ownsRow D 3 1 s5 N (ints .i64 ([y] ++ nodeH c (hs.take j))) ∧ Below D w wr ∧ D ≤ wr.heap.size) (fun _ i _ => hs.length - (intOf i).toNat)
  case atStart => exact ⟨0, Nat.zero_le _, rfl, 1, by simp, by simpa [nodeH] using HO, B1, hz1⟩
  case round =>
    clear HO B1 hz1
    obtain ⟨j, hj, rfl, N, hN, hown, hB, hz⟩ := hrel
    by_cases hlt : j < hs.length
    · have cj : wr.cell? ⟨hb, off + j, none⟩ = some (.int .i64 (hs.getD j 0)) := (hB.cell (p := ⟨hb, off + j, none⟩) hbD).trans (HC.out j hlt)
      obtain ⟨yj, hyj⟩ : ∃ yj, hs.getD j 0 = yj := ⟨_, rfl⟩
      rw [hyj] at cj
      have hlt' : (j : Int) < (hs.length : Int) := by omega
      have hjm : j * m3 ≤ 64 * 24 := Nat.mul_le_mul (by omega) hm4.2
      have HY := Lib.hid hyj
      clear hyj
      go_wp2_with fail
      go_loopw [5, 8] (fun s5 i wq => ∃ i3 : Nat, i3 ≤ m3 ∧ i = .int .i64 i3 ∧ wq.ownsRow D 3 1 s5 (N + i3) (ints .i64 ([y] ++ nodeH c (hs.take j) ++ List.replicate i3 yj)) ∧ Below D w wq ∧ D ≤ wq.heap.size) (fun _ i _ => m3 - (intOf i).toNat)
      case atStart => exact ⟨0, Nat.zero_le _, rfl, by simpa using hown, hB, hz⟩
      case round =>
        clear hown hB hz cj
        obtain ⟨i3, hi3, rfl, hown, hB, hz⟩ := hrel
        by_cases hl3 : i3 < m3
        · obtain ⟨va, vc, rfl⟩ := owned_len1 hown
          obtain ⟨N2, hN2⟩ : ∃ N2, N + i3 = N2 := ⟨_, rfl⟩
          rw [hN2] at hown ⊢
          have hNN : N2 ≤ 2000 := by omega
          have hl3' : (i3 : Int) < (m3 : Int) := by omega
          go_wp2_with (at_builtin; refine wpList_append_near rfl (.tmp 25) (.tmp 27) 22 rfl D 3 (.int .i64 0) 1 8 Try.underlying22 info_i rfl (by decide) (.slice va N2 vc) N2 (ints .i64 ([y] ++ nodeH c (hs.take j) ++ List.replicate i3 yj)) rfl (own_upd hown ((Upd.refl (fun _ => False) _).alloc _) (fun _ _ => id)) ⟨wr.heap.size, 0, none⟩ 1 1 [.int .i64 yj] rfl rfl (cell_newAt _ _ _ _ rfl) (one_cell rfl) (by unfold maxLen; omega) (by omega) (by simp; omega) ?_; intro v7 w7 hown7 hg7 near7; have u7 : Upd (fun i => (Value.slice va N2 vc).ownBlock = some i) wr w7 := ((Upd.refl _ _).alloc _).trans (Upd.grown hg7); have B7 := u7.below hB hz (fun i e => (own_lt hown e).2); clear hg7 near7)
          have hz7 : D ≤ w7.heap.size := by have := u7.size; omega
          go_roundw
          case rel => exact ⟨i3 + 1, by omega, by go_num, by rw [List.replicate_succ', ← List.append_assoc, show N + (i3 + 1) = N2 + 1 by omega, show ints .i64 ([y] ++ nodeH c (hs.take j) ++ List.replicate i3 yj ++ [yj]) = ints .i64 ([y] ++ nodeH c (hs.take j) ++ List.replicate i3 yj) ++ [.int .i64 yj] by simp [ints]]; exact hown7, B7, hz7⟩
          case measure => simp [intOf]; omega
        · obtain rfl : i3 = m3 := by omega
          go_wp2_with fail
          go_roundw
          case rel =>
            refine ⟨j + 1, by omega, by go_num, N + i3, by rw [hN, Nat.add_one_mul]; omega, ?_, hB, hz⟩
            have e1 : hs.take (j + 1) = hs.take j ++ [yj] := by rw [List.take_succ_eq_append_getElem hlt, ← HY.out, getD_lt _ _ _ hlt]
            rw [e1, nodeH_snoc, HM3.out, ← List.append_assoc]
            exact hown
          case measure => simp [intOf]; omega
    · obtain rfl : j = hs.length := by omega
      rw [List.take_length] at hown
      obtain ⟨g, cap, rfl, hg, hr⟩ := owned hown (by omega)
      go_wp2_with fail
      go_ret
      have hl : ([y] ++ nodeH c hs).length = N := by rw [List.length_append, nodeH_len, HM3.out, hN]; rfl
      exact ⟨.slice (some ⟨g, 0, none⟩) N cap, rfl, ⟨some ⟨g, 0, none⟩, cap, congrArg (fun z => Value.slice (some ⟨g, 0, none⟩) z cap) hl.symm, fun e => (by cases e), fun _ => ⟨g, 0, rfl, hr.lt, fun i hi => (by rw [Nat.zero_add]; exact hr.cell (ints_get hi))⟩⟩, HDW.out ▸ hB⟩
end Go.Proofs.Ytlkpfdboagjaoaa.Ref14
