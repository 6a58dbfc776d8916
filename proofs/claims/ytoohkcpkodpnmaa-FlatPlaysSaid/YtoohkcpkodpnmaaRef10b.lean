/- The document's ticket lock: New, Seats; as the laws take it. -/
import Derived.Test.YtoohkcpkodpnmaaRef10
namespace Go.Proofs.Ytoohkcpkodpnmaa.Ref10
open Go Go.RowKit Go.Proofs.Ytoohkcpkodpnmaa.Heap Go.Proofs.Ytoohkcpkodpnmaa.Open Go.Proofs.Ytoohkcpkodpnmaa.Seat Go.Proofs.Ytoohkcpkodpnmaa.Mach Go.Proofs.Ytoohkcpkodpnmaa.Has Go.Proofs.Ytoohkcpkodpnmaa.Ref09 Go.Proofs.Ytoohkcpkodpnmaa.Modl Go.Proofs.Ytoohkcpkodpnmaa.SeatP Go.Proofs.Ytoohkcpkodpnmaa.Flat
variable {x sx sb db pc mb : Nat}
theorem seatsC {w : World} {sl : List (Int × Int)} {drew : List Bool} {nums : List Int} (h : MAt x sx sb db pc mb w sl drew nums) :
    Calls Try.prog 89 #[.pointer (some ⟨x, 0, none⟩)] w fun e w' => e = .returned (.pointer (some ⟨sx, 0, none⟩)) ∧ w = w' := by
  have c0 := h.top.cell (i := 0) rfl
  go_enter Try.func89, Try.ntmps89
  go_wp2
  go_ret
  exact ⟨rfl, rfl⟩
theorem info_i : (Try.prog.info? 3).map (fun i => (i.zero, i.size, i.bytes)) = some (some (.int .i64 0), 1, 8) := by kernel_rfl
theorem info_u : (Try.prog.info? 23).map (fun i => (i.zero, i.size, i.bytes)) = some (some (.int .u32 0), 1, 4) := by kernel_rfl
set_option maxHeartbeats 4000000 in
theorem newR (w : World) (n : Nat) (n1 : 1 ≤ n) (n64 : n ≤ 64) :
    Calls Try.prog 15 #[.int .i64 n, .int .i64 0] w fun e w' => ∃ x sx sb db pc mb, e = .returned (.pointer (some ⟨x, 0, none⟩)) ∧ MAt x sx sb db pc mb w' (List.replicate n (0, -1)) (List.replicate n false) (List.replicate n 0) ∧ (∀ i, fm x sx sb db pc mb i → w.heap.size ≤ i) ∧ Below w.heap.size w w' := by
  have m1 := run_make_zeros (P := Try.prog) 22 3 (.int .i64 0) 8 Try.underlying22 info_i rfl n (by omega) (by omega)
  have m2 := run_make_zeros (P := Try.prog) 51 23 (.int .u32 0) 4 Try.underlying51 info_u rfl n (by omega) (by omega)
  have HN := Lib.hid (fun w' : World => rnew w' n false true n1 n64)
  have fin : ∀ (wz : World) (x sx sb db pc mb : Nat), x = wz.heap.size → RAt wz sx sb db (List.replicate n (0, -1)) false true → Row wz pc (List.replicate n (.int .i64 0)) → Row wz mb (List.replicate n (.int .u32 0)) → Below w.heap.size w wz → (pc ≠ sx ∧ pc ≠ sb ∧ pc ≠ db ∧ pc ≠ mb) → (mb ≠ sx ∧ mb ≠ sb ∧ mb ≠ db) → w.heap.size ≤ sx ∧ w.heap.size ≤ sb ∧ w.heap.size ≤ db ∧ w.heap.size ≤ pc ∧ w.heap.size ≤ mb →
      MAt x sx sb db pc mb (wz.alloc (.cells #[.pointer (some ⟨sx, 0, none⟩), .int .i64 0, .slice (some ⟨pc, 0, none⟩) n n, .slice (some ⟨mb, 0, none⟩) n n] 93)) (List.replicate n (0, -1)) (List.replicate n false) (List.replicate n 0) ∧ (∀ i, fm x sx sb db pc mb i → w.heap.size ≤ i) ∧ Below w.heap.size w (wz.alloc (.cells #[.pointer (some ⟨sx, 0, none⟩), .int .i64 0, .slice (some ⟨pc, 0, none⟩) n n, .slice (some ⟨mb, 0, none⟩) n n] 93)) := by
    rintro wz x sx sb db pc mb rfl h1 h2 h3 hB e2 e3 ⟨s1, s2, s3, s4, s5⟩
    have hz := hB.size
    obtain ⟨cs, cd, ht⟩ := h1.top
    have l1 := ht.lt
    have l2 := h1.st.lt
    have l3 := h1.dl.lt
    have l4 := h2.lt
    have l5 := h3.lt
    refine ⟨⟨by simpa using Row.new' rfl, h1.alloc _, ?_, ?_, by simp, by simp, ⟨by omega, by omega, by omega, by omega, by omega⟩, e2, e3, Mem.Wd.zeros n⟩, ?_, hB.alloc hz _⟩
    · have : pcs (List.replicate n false) = List.replicate n (.int .i64 0) := by simp [pcs, b2i]
      rw [this]; exact h2.alloc _
    · have : ints .u32 (List.replicate n 0) = List.replicate n (.int .u32 0) := by simp [ints]
      rw [this]; exact h3.alloc _
    · intro i hi
      rcases hi with rfl | rfl | rfl | rfl | rfl | rfl
      · exact hz
      all_goals assumption
  have FIN := Lib.hid fin
  have B0 : Below w.heap.size w w.drew := below_drewN (Below.refl _ _) 1
  have B1 : ∀ o, Below w.heap.size w (w.alloc o).drew := fun o => below_drewN ((Below.refl _ _).alloc (Nat.le_refl _) _) 1
  have B2 : ∀ o o', Below w.heap.size w ((w.alloc o).alloc o').drew := fun o o' => below_drewN (((Below.refl _ _).alloc (Nat.le_refl _) _).alloc (by simp) _) 1
  have z0 : w.drew.heap.size = w.heap.size := rfl
  have z1 : ∀ o, (w.alloc o).drew.heap.size = w.heap.size + 1 := fun o => by show (w.alloc o).heap.size = _; simp
  have z2 : ∀ o o', ((w.alloc o).alloc o').drew.heap.size = w.heap.size + 2 := fun o o' => by show ((w.alloc o).alloc o').heap.size = _; simp
  clear fin
  go_enter Try.func15, Try.ntmps15
  go_wp2_with fail
  go_region_with ((go_at_call 32; refine (HN.out _).mono ?_; rintro e w5 ⟨sx, sb, db, rfl, hra, k1, k2, k3, hB⟩))
  · go_wp2_with fail
    go_ret
    have hz := hB.size
    have l1 := hra.st.lt
    have l2 := hra.dl.lt
    obtain ⟨cs, cd, ht⟩ := hra.top
    have l3 := ht.lt
    rw [z0] at hz k1 k2 k3
    exact ⟨(w5.heap.size + 1 + 1), sx, sb, db, w5.heap.size, (w5.heap.size + 1), rfl, FIN.out ((w5.alloc (.cells (zeros n (.int .i64 0)) 3)).alloc (.cells (zeros n (.int .u32 0)) 23)) (w5.heap.size + 1 + 1) sx sb db w5.heap.size (w5.heap.size + 1) (by simp) ((hra.alloc _).alloc _) ((Row.ofZeros rfl).alloc _) (Row.ofZeros (by simp)) (((B0.trans (hB.mono (by rw [z0]; omega))).alloc (by omega) _).alloc (by simp; omega) _) (by omega) (by omega) (by omega)⟩
  · go_wp2_with fail
    go_ret
    have hz := hB.size
    have l1 := hra.st.lt
    have l2 := hra.dl.lt
    obtain ⟨cs, cd, ht⟩ := hra.top
    have l3 := ht.lt
    rw [z0] at hz k1 k2 k3
    exact ⟨(w5.heap.size + 1 + 1), sx, sb, db, (w5.heap.size + 1), w5.heap.size, rfl, FIN.out ((w5.alloc (.cells (zeros n (.int .u32 0)) 23)).alloc (.cells (zeros n (.int .i64 0)) 3)) (w5.heap.size + 1 + 1) sx sb db (w5.heap.size + 1) w5.heap.size (by simp) ((hra.alloc _).alloc _) (Row.ofZeros (by simp)) ((Row.ofZeros rfl).alloc _) (((B0.trans (hB.mono (by rw [z0]; omega))).alloc (by omega) _).alloc (by simp; omega) _) (by omega) (by omega) (by omega)⟩
  · go_wp2_with fail
    go_ret
    have hz := hB.size
    have l1 := hra.st.lt
    have l2 := hra.dl.lt
    obtain ⟨cs, cd, ht⟩ := hra.top
    have l3 := ht.lt
    rw [z1] at hz k1 k2 k3
    exact ⟨(w5.heap.size + 1), sx, sb, db, w.heap.size, w5.heap.size, rfl, FIN.out (w5.alloc (.cells (zeros n (.int .u32 0)) 23)) (w5.heap.size + 1) sx sb db w.heap.size w5.heap.size (by simp) (hra.alloc _) ((((Row.ofZeros (w := w) (T := 3) (n := n) (z := .int .i64 0) rfl).drew).below hB (by rw [z1]; omega)).alloc _) (Row.ofZeros rfl) (((B1 _).trans (hB.mono (by rw [z1]; omega))).alloc (by omega) _) (by omega) (by omega) (by omega)⟩
  · go_wp2_with fail
    go_ret
    have hz := hB.size
    have l1 := hra.st.lt
    have l2 := hra.dl.lt
    obtain ⟨cs, cd, ht⟩ := hra.top
    have l3 := ht.lt
    rw [z2] at hz k1 k2 k3
    exact ⟨w5.heap.size, sx, sb, db, w.heap.size, (w.heap.size + 1), rfl, FIN.out w5 w5.heap.size sx sb db w.heap.size (w.heap.size + 1) (by simp) hra ((((Row.ofZeros (w := w) (T := 3) (n := n) (z := .int .i64 0) rfl).alloc _).drew).below hB (by rw [z2]; omega)) (((Row.ofZeros (w := w.alloc (.cells (zeros n (.int .i64 0)) 3)) (T := 23) (n := n) (z := .int .u32 0) (by simp)).drew).below hB (by rw [z2]; omega)) ((B2 _ _).trans (hB.mono (by rw [z2]; omega))) (by omega) (by omega) (by omega)⟩
  · go_wp2_with fail
    go_ret
    have hz := hB.size
    have l1 := hra.st.lt
    have l2 := hra.dl.lt
    obtain ⟨cs, cd, ht⟩ := hra.top
    have l3 := ht.lt
    rw [z1] at hz k1 k2 k3
    exact ⟨(w5.heap.size + 1), sx, sb, db, w5.heap.size, w.heap.size, rfl, FIN.out (w5.alloc (.cells (zeros n (.int .i64 0)) 3)) (w5.heap.size + 1) sx sb db w5.heap.size w.heap.size (by simp) (hra.alloc _) (Row.ofZeros rfl) ((((Row.ofZeros (w := w) (T := 23) (n := n) (z := .int .u32 0) rfl).drew).below hB (by rw [z1]; omega)).alloc _) (((B1 _).trans (hB.mono (by rw [z1]; omega))).alloc (by omega) _) (by omega) (by omega) (by omega)⟩
  · go_wp2_with fail
    go_ret
    have hz := hB.size
    have l1 := hra.st.lt
    have l2 := hra.dl.lt
    obtain ⟨cs, cd, ht⟩ := hra.top
    have l3 := ht.lt
    rw [z2] at hz k1 k2 k3
    exact ⟨w5.heap.size, sx, sb, db, (w.heap.size + 1), w.heap.size, rfl, FIN.out w5 w5.heap.size sx sb db (w.heap.size + 1) w.heap.size (by simp) hra (((Row.ofZeros (w := w.alloc (.cells (zeros n (.int .u32 0)) 23)) (T := 3) (n := n) (z := .int .i64 0) (by simp)).drew).below hB (by rw [z2]; omega)) ((((Row.ofZeros (w := w) (T := 23) (n := n) (z := .int .u32 0) rfl).alloc _).drew).below hB (by rw [z2]; omega)) ((B2 _ _).trans (hB.mono (by rw [z2]; omega))) (by omega) (by omega) (by omega)⟩
/-- The document's lock as the laws take it. -/
theorem modl (n : Nat) (n8 : n ≤ 8) : Modl x sx sb db false true (fm x sx sb db pc mb) n St.seats setS (fun st t a now => Flat.step n 0 1 st t a now) St.ws St.ts (fun w st => MAt x sx sb db pc mb w st.seats st.drew st.nums ∧ st.seats.length = n ∧ st.ws.length ≤ 100000 ∧ Mem.Wd st.ws) where
  keep := fun h hu hd => ⟨h.1.keep hu hd, h.2⟩
  lt := fun h => h.1.lt
  seat := fun h => h.1.seat
  fs := ⟨by simp [fm], by simp [fm], by simp [fm]⟩
  len := fun h => h.2.1
  turn := fun {w w' st l'} h hs ha hu => by
    have hl : l'.length = st.seats.length := by
      rcases hs with rfl | ⟨k, _, a, d, rfl, _⟩
      · rfl
      · simp
    exact ⟨h.1.seats hl ha hu, by rw [← h.2.1]; exact hl, h.2.2⟩
  seatsC := fun h => seatsC h.1
  wsS := fun _ _ => rfl
  tsS := fun _ _ => rfl
  stepC := fun {w st y R} h hR hd hf t now => (stepR h.1 h.2.1 n8 hR hd hf h.2.2.1 h.2.2.2 t now).mono fun e w' ⟨he, hm, R', hr⟩ => by
    refine ⟨he, ⟨hm, ?_, ?_, ?_⟩, R', hr⟩
    · refine Eq.trans ?_ h.2.1
      show (fin (midS n 0 1 st t t).2.seats t (midS n 0 1 st t t).1.1).2.length = _
      rw [StepU.fin_len]
      unfold midS lockS
      (repeat' split) <;> rfl
    · show (midS n 0 1 st t t).2.ws.length ≤ _
      have : (midS n 0 1 st t t).2.ws.length = st.ws.length := by
        unfold midS lockS wrt
        (repeat' split) <;> first | rfl | exact Mem.put_len _ _ _
      rw [this]; exact h.2.2.1
    · show Mem.Wd (midS n 0 1 st t t).2.ws
      have hm2 : ∀ y : Int, 0 ≤ y % 4294967296 ∧ y % 4294967296 < 4294967296 := fun y => by omega
      unfold midS lockS wrt
      (repeat' split) <;> first | exact h.2.2.2 | exact h.2.2.2.put _ (hm2 _).1 (hm2 _).2
end Go.Proofs.Ytoohkcpkodpnmaa.Ref10
