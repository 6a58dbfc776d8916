/- The document's lock of Mellor-Crummey and Scott: New, Seats; as the laws take it. -/
import Derived.Test.YtemcpnickdcekaaRef13s
namespace Go.Proofs.Ytemcpnickdcekaa.Ref13
open Go Go.RowKit Go.Proofs.Ytemcpnickdcekaa.Heap Go.Proofs.Ytemcpnickdcekaa.Open Go.Proofs.Ytemcpnickdcekaa.Seat Go.Proofs.Ytemcpnickdcekaa.Mach Go.Proofs.Ytemcpnickdcekaa.Has Go.Proofs.Ytemcpnickdcekaa.Ref09 Go.Proofs.Ytemcpnickdcekaa.Modl Go.Proofs.Ytemcpnickdcekaa.SeatP Go.Proofs.Ytemcpnickdcekaa.StepU Go.Proofs.Ytemcpnickdcekaa.Mcs
variable {x sx sb db pc mb : Nat}
theorem seatsC {w : World} {sl : List (Int × Int)} {pl ol : List Int} (h : MAt x sx sb db pc mb w sl pl ol) :
    Calls Try.prog 96 #[.pointer (some ⟨x, 0, none⟩)] w fun e w' => e = .returned (.pointer (some ⟨sx, 0, none⟩)) ∧ w = w' := by
  have c0 := h.top.cell (i := 0) rfl
  go_enter Try.func96, Try.ntmps96
  go_wp2
  go_ret
  exact ⟨rfl, rfl⟩
theorem info_i : (Try.prog.info? 3).map (fun i => (i.zero, i.size, i.bytes)) = some (some (.int .i64 0), 1, 8) := by kernel_rfl
set_option maxHeartbeats 4000000 in
theorem newR (w : World) (n : Nat) (n1 : 1 ≤ n) (n64 : n ≤ 64) :
    Calls Try.prog 21 #[.int .i64 n, .int .i64 0] w fun e w' => ∃ x sx sb db pc mb, e = .returned (.pointer (some ⟨x, 0, none⟩)) ∧ MAt x sx sb db pc mb w' (List.replicate n (0, -1)) (List.replicate n 0) (List.replicate n 0) ∧ (∀ i, fm x sx sb db pc mb i → w.heap.size ≤ i) ∧ Below w.heap.size w w' := by
  have m1 := run_make_zeros (P := Try.prog) 22 3 (.int .i64 0) 8 Try.underlying22 info_i rfl n (by omega) (by omega)
  have HN := Lib.hid (fun w' : World => rnew w' n false true n1 n64)
  have fin : ∀ (wz : World) (x sx sb db pc mb : Nat), x = wz.heap.size → RAt wz sx sb db (List.replicate n (0, -1)) false true → Row wz pc (List.replicate n (.int .i64 0)) → Row wz mb (List.replicate n (.int .i64 0)) → Below w.heap.size w wz → (pc ≠ sx ∧ pc ≠ sb ∧ pc ≠ db ∧ pc ≠ mb) → (mb ≠ sx ∧ mb ≠ sb ∧ mb ≠ db) → w.heap.size ≤ sx ∧ w.heap.size ≤ sb ∧ w.heap.size ≤ db ∧ w.heap.size ≤ pc ∧ w.heap.size ≤ mb →
      MAt x sx sb db pc mb (wz.alloc (.cells #[.pointer (some ⟨sx, 0, none⟩), .int .i64 0, .slice (some ⟨pc, 0, none⟩) n n, .slice (some ⟨mb, 0, none⟩) n n] 96)) (List.replicate n (0, -1)) (List.replicate n 0) (List.replicate n 0) ∧ (∀ i, fm x sx sb db pc mb i → w.heap.size ≤ i) ∧ Below w.heap.size w (wz.alloc (.cells #[.pointer (some ⟨sx, 0, none⟩), .int .i64 0, .slice (some ⟨pc, 0, none⟩) n n, .slice (some ⟨mb, 0, none⟩) n n] 96)) := by
    rintro wz x sx sb db pc mb rfl h1 h2 h3 hB e2 e3 ⟨s1, s2, s3, s4, s5⟩
    have hz := hB.size
    obtain ⟨cs, cd, ht⟩ := h1.top
    have l1 := ht.lt
    have l2 := h1.st.lt
    have l3 := h1.dl.lt
    have l4 := h2.lt
    have l5 := h3.lt
    refine ⟨⟨by simpa using Row.new' rfl, h1.alloc _, ?_, ?_, by simp, by simp, ⟨by omega, by omega, by omega, by omega, by omega⟩, e2, e3, (fun t => by rw [List.getD, List.getElem?_replicate]; split <;> exact ⟨by decide, by decide⟩)⟩, ?_, hB.alloc hz _⟩
    · have : ints .i64 (List.replicate n 0) = List.replicate n (.int .i64 0) := by simp [ints]
      rw [this]; exact h2.alloc _
    · have : ints .i64 (List.replicate n 0) = List.replicate n (.int .i64 0) := by simp [ints]
      rw [this]; exact h3.alloc _
    · intro i hi
      rcases hi with rfl | rfl | rfl | rfl | rfl | rfl
      · exact hz
      all_goals assumption
  have FIN := Lib.hid fin
  have B0 : Below w.heap.size w w.drew := below_drewN (Below.refl _ _) 1
  have B1 : ∀ o, Below w.heap.size w (w.alloc o).drew := fun o => below_drewN ((Below.refl _ _).alloc (Nat.le_refl _) _) 1
  have B2 : ∀ o o', Below w.heap.size w ((w.alloc o).alloc o').drew := fun o o' => below_drewN (((Below.refl _ _).alloc (Nat.le_refl _) _).alloc (by simp) _) 1
  have z0 : w.drew.heap.size = w.heap.size := rfl
  have z1 : ∀ o, (w.alloc o).drew.heap.size = w.heap.size + 1 := fun o => by show (w.alloc o).heap.size = _; simp
  have z2 : ∀ o o', ((w.alloc o).alloc o').drew.heap.size = w.heap.size + 2 := fun o o' => by show ((w.alloc o).alloc o').heap.size = _; simp
  clear fin
  go_enter Try.func21, Try.ntmps21
  go_wp2_with fail
  go_region_with ((go_at_call 36; refine (HN.out _).mono ?_; rintro e w5 ⟨sx, sb, db, rfl, hra, k1, k2, k3, hB⟩))
  · go_wp2_with fail
    go_ret
    have hz := hB.size
    have l1 := hra.st.lt
    have l2 := hra.dl.lt
    obtain ⟨cs, cd, ht⟩ := hra.top
    have l3 := ht.lt
    rw [z0] at hz k1 k2 k3
    exact ⟨(w5.heap.size + 1 + 1), sx, sb, db, w5.heap.size, (w5.heap.size + 1), rfl, FIN.out ((w5.alloc (.cells (zeros n (.int .i64 0)) 3)).alloc (.cells (zeros n (.int .i64 0)) 3)) (w5.heap.size + 1 + 1) sx sb db w5.heap.size (w5.heap.size + 1) (by simp) ((hra.alloc _).alloc _) ((Row.ofZeros rfl).alloc _) (Row.ofZeros (by simp)) (((B0.trans (hB.mono (by rw [z0]; omega))).alloc (by omega) _).alloc (by simp; omega) _) (by omega) (by omega) (by omega)⟩
  · go_wp2_with fail
    go_ret
    have hz := hB.size
    have l1 := hra.st.lt
    have l2 := hra.dl.lt
    obtain ⟨cs, cd, ht⟩ := hra.top
    have l3 := ht.lt
    rw [z0] at hz k1 k2 k3
    exact ⟨(w5.heap.size + 1 + 1), sx, sb, db, (w5.heap.size + 1), w5.heap.size, rfl, FIN.out ((w5.alloc (.cells (zeros n (.int .i64 0)) 3)).alloc (.cells (zeros n (.int .i64 0)) 3)) (w5.heap.size + 1 + 1) sx sb db (w5.heap.size + 1) w5.heap.size (by simp) ((hra.alloc _).alloc _) (Row.ofZeros (by simp)) ((Row.ofZeros rfl).alloc _) (((B0.trans (hB.mono (by rw [z0]; omega))).alloc (by omega) _).alloc (by simp; omega) _) (by omega) (by omega) (by omega)⟩
  · go_wp2_with fail
    go_ret
    have hz := hB.size
    have l1 := hra.st.lt
    have l2 := hra.dl.lt
    obtain ⟨cs, cd, ht⟩ := hra.top
    have l3 := ht.lt
    rw [z1] at hz k1 k2 k3
    exact ⟨(w5.heap.size + 1), sx, sb, db, w.heap.size, w5.heap.size, rfl, FIN.out (w5.alloc (.cells (zeros n (.int .i64 0)) 3)) (w5.heap.size + 1) sx sb db w.heap.size w5.heap.size (by simp) (hra.alloc _) ((((Row.ofZeros (w := w) (T := 3) (n := n) (z := .int .i64 0) rfl).drew).below hB (by rw [z1]; omega)).alloc _) (Row.ofZeros rfl) (((B1 _).trans (hB.mono (by rw [z1]; omega))).alloc (by omega) _) (by omega) (by omega) (by omega)⟩
  · go_wp2_with fail
    go_ret
    have hz := hB.size
    have l1 := hra.st.lt
    have l2 := hra.dl.lt
    obtain ⟨cs, cd, ht⟩ := hra.top
    have l3 := ht.lt
    rw [z2] at hz k1 k2 k3
    exact ⟨w5.heap.size, sx, sb, db, w.heap.size, (w.heap.size + 1), rfl, FIN.out w5 w5.heap.size sx sb db w.heap.size (w.heap.size + 1) (by simp) hra ((((Row.ofZeros (w := w) (T := 3) (n := n) (z := .int .i64 0) rfl).alloc _).drew).below hB (by rw [z2]; omega)) (((Row.ofZeros (w := w.alloc (.cells (zeros n (.int .i64 0)) 3)) (T := 3) (n := n) (z := .int .i64 0) (by simp)).drew).below hB (by rw [z2]; omega)) ((B2 _ _).trans (hB.mono (by rw [z2]; omega))) (by omega) (by omega) (by omega)⟩
  · go_wp2_with fail
    go_ret
    have hz := hB.size
    have l1 := hra.st.lt
    have l2 := hra.dl.lt
    obtain ⟨cs, cd, ht⟩ := hra.top
    have l3 := ht.lt
    rw [z1] at hz k1 k2 k3
    exact ⟨(w5.heap.size + 1), sx, sb, db, w5.heap.size, w.heap.size, rfl, FIN.out (w5.alloc (.cells (zeros n (.int .i64 0)) 3)) (w5.heap.size + 1) sx sb db w5.heap.size w.heap.size (by simp) (hra.alloc _) (Row.ofZeros rfl) ((((Row.ofZeros (w := w) (T := 3) (n := n) (z := .int .i64 0) rfl).drew).below hB (by rw [z1]; omega)).alloc _) (((B1 _).trans (hB.mono (by rw [z1]; omega))).alloc (by omega) _) (by omega) (by omega) (by omega)⟩
  · go_wp2_with fail
    go_ret
    have hz := hB.size
    have l1 := hra.st.lt
    have l2 := hra.dl.lt
    obtain ⟨cs, cd, ht⟩ := hra.top
    have l3 := ht.lt
    rw [z2] at hz k1 k2 k3
    exact ⟨w5.heap.size, sx, sb, db, (w.heap.size + 1), w.heap.size, rfl, FIN.out w5 w5.heap.size sx sb db (w.heap.size + 1) w.heap.size (by simp) hra (((Row.ofZeros (w := w.alloc (.cells (zeros n (.int .i64 0)) 3)) (T := 3) (n := n) (z := .int .i64 0) (by simp)).drew).below hB (by rw [z2]; omega)) ((((Row.ofZeros (w := w) (T := 3) (n := n) (z := .int .i64 0) rfl).alloc _).drew).below hB (by rw [z2]; omega)) ((B2 _ _).trans (hB.mono (by rw [z2]; omega))) (by omega) (by omega) (by omega)⟩
theorem wrt_wd {ws : List Int} (h : Mem.Wd ws) (k : Nat) (a x v : Int) (h0 : 0 ≤ v) (h1 : v < 4294967296) : Mem.Wd (wrt k ws a x v) := by
  unfold wrt; split
  · exact h.put _ h0 h1
  · exact h
theorem lock_wd {n : Nat} {tl : Int} {st : St} (h : Mem.Wd st.ws) (k : Nat) (hk : (k : Int) < 1000) (a : Int) : Mem.Wd (lockS n tl st k a).2.ws := by
  have p0 := fun x => wrt_wd h n a x 0 (by decide) (by decide)
  have p1 := fun x => wrt_wd h n a x 1 (by decide) (by decide)
  have p2 := fun x => wrt_wd h n a x ((k : Int) + 1) (by omega) (by omega)
  unfold lockS
  dsimp only
  (repeat' split) <;> first | exact h | exact p0 _ | exact p1 _ | exact p2 _
theorem unl_wd {n : Nat} {tl : Int} {st : St} (h : Mem.Wd st.ws) (k : Nat) (a : Int) : Mem.Wd (unlS n tl st k a).2.ws := by
  have p0 := fun x => wrt_wd h n a x 0 (by decide) (by decide)
  have p1 := fun x => h.put x (x := 0) (by decide) (by decide)
  unfold unlS
  dsimp only
  (repeat' split) <;> first | exact h | exact p0 _ | exact p1 _
/-- The document's lock as the laws take it. -/
theorem modl (n : Nat) : Modl x sx sb db false true (fm x sx sb db pc mb) n St.seats setS (fun st t a now => Mcs.step n 0 st t a now) St.ws St.ts (fun w st => (∃ ol, MAt x sx sb db pc mb w st.seats (pcl st) ol ∧ Rel st ol) ∧ (∃ q h, McsP.I n st q h) ∧ Mem.Wd st.ws) where
  keep := fun h hu hd => by
    obtain ⟨⟨ol, h1, h2⟩, h3⟩ := h
    exact ⟨⟨ol, h1.keep hu hd, h2⟩, h3⟩
  lt := fun h => by
    obtain ⟨⟨ol, h1, h2⟩, h3⟩ := h
    exact h1.lt
  seat := fun h => by
    obtain ⟨⟨ol, h1, h2⟩, h3⟩ := h
    exact h1.seat
  fs := ⟨by simp [fm], by simp [fm], by simp [fm]⟩
  len := fun h => by
    obtain ⟨_, ⟨q, hh, hI⟩, _⟩ := h
    exact hI.sl
  turn := fun {w w' st l'} h hs ha hu => by
    obtain ⟨⟨ol, h1, h2⟩, ⟨q, hh, hI⟩, h4⟩ := h
    have hl : l'.length = st.seats.length := by
      rcases hs with rfl | ⟨k, _, a, d, rfl, _⟩
      · rfl
      · simp
    refine ⟨⟨ol, h1.seats hl ha hu, ?_⟩, ?_, h4⟩
    · rcases hs with rfl | ⟨k, hk, a, d, rfl, hc⟩
      · exact h2
      · intro u hu
        have hp0 : McsP.sp st k = 0 := hI.ci.p0 k (by rw [← hI.sl]; exact hk) (by omega)
        by_cases e : u = k
        · subst e
          have : McsP.sp (setS st (st.seats.set u (a, d))) u = 0 := hp0
          rw [this] at hu; omega
        · have e1 : stt (setS st (st.seats.set k (a, d))).seats u = stt st.seats u := by
            show stt (st.seats.set k (a, d)) u = _
            rw [stt_set _ _ _ hk, if_neg e]
          rw [e1] at hu
          exact h2 u hu
    · rcases hs with rfl | ⟨k, hk, a, d, rfl, hc⟩
      · exact ⟨q, hh, hI⟩
      · exact ⟨q, hh, hI.seat k (by rw [← hI.sl]; exact hk) a d (by omega)⟩
  seatsC := fun h => by
    obtain ⟨⟨ol, h1, h2⟩, h3⟩ := h
    exact seatsC h1
  wsS := fun _ _ => rfl
  tsS := fun _ _ => rfl
  stepC := fun {w st y R} h hR hd hf t now => by
    obtain ⟨⟨ol, h1, h2⟩, ⟨q, hh, hI⟩, h4⟩ := h
    refine (stepR h1 h2 hI hR hd hf h4 t now).mono fun e w' ⟨he, hm, hr⟩ => ⟨he, ⟨hm, ?_, ?_⟩, hr⟩
    · obtain ⟨h', hI'⟩ := (((McsP.ql n).keeps true).step st q t now ⟨hh, hI⟩).2
      exact ⟨_, h', hI'⟩
    · show Mem.Wd (midS n 0 st t t).2.ws
      by_cases hin : ∃ k : Nat, t = k ∧ k < st.seats.length
      · obtain ⟨k, rfl, hk⟩ := hin
        have hk8 : (k : Int) < 8 := by have := hI.ci.n8; have := hI.sl; omega
        unfold midS
        rw [Int.toNat_natCast]
        split
        · exact lock_wd h4 k (by omega) _
        · split
          · exact unl_wd h4 k _
          · split
            · exact h4
            · exact h4
      · have hz := SeatP.state_out st.seats t hin
        unfold midS
        rw [hz, if_neg (by decide), if_neg (by decide), if_neg (by decide)]
        exact h4
theorem ints_snoc2 (xs ys : List Int) : ints .i64 xs ++ ints .i64 ys = ints .i64 (xs ++ ys) := by simp [ints]
/-- The homes that the document has. -/
theorem homesR (w : World) (v : Value) (hs : List Int) (h : Src1 w v .i64 hs) (n1 : 1 ≤ hs.length) (n2 : hs.length ≤ 64) :
    Calls Try.prog 18 #[v] w fun e w' => ∃ v', e = .returned v' ∧ Src1 w' v' .i64 ([hs.getD 0 0] ++ twice hs) ∧ Below w.heap.size w w' := by
  obtain ⟨a, c, rfl, -, hcell⟩ := h
  obtain ⟨hb, off, rfl, hbw, hcell⟩ := hcell (by omega)
  have c0 : w.cell? ⟨hb, off, none⟩ = some (.int .i64 (hs.getD 0 0)) := hcell 0 (by omega)
  obtain ⟨y, hy⟩ : ∃ y, hs.getD 0 0 = y := ⟨_, rfl⟩
  rw [hy] at c0 ⊢
  have HC := Lib.hid hcell
  have n3 : (0 : Int) < hs.length := by omega
  clear hcell hy
  go_enter Try.func18, Try.ntmps18
  go_wp2_with fail
  go_loopw [3, 12] (fun v3 i wr => ∃ j : Nat, j ≤ hs.length ∧ i = .int .i64 j ∧ wr.ownsRow w.heap.size 3 1 v3 ((([y] ++ twice (hs.take j) : List Int)).length) (ints .i64 ([y] ++ twice (hs.take j))) ∧ Below w.heap.size w wr) (fun _ i _ => hs.length - (intOf i).toNat)
  case atStart =>
    exact ⟨0, Nat.zero_le _, rfl, ⟨by simp [twice, ints], .inr ⟨w.heap.size, 1, #[.int .i64 y], rfl, Nat.le_refl _, heap_alloc_new w _, by simp [twice], by unfold maxLen; omega, rfl, rfl⟩⟩, (Below.refl _ _).alloc (Nat.le_refl _) _⟩
  case round =>
    obtain ⟨j, hj, rfl, hown, hB⟩ := hrel
    have hL : (([y] ++ twice (hs.take j) : List Int)).length = 1 + 2 * j := by simp [twice_len, Nat.min_eq_left hj]; omega
    by_cases hlt : j < hs.length
    · have cj := (hB.cell (p := ⟨hb, off + j, none⟩) hbw).trans (HC.out j hlt)
      obtain ⟨x, hx⟩ : ∃ x, hs.getD j 0 = x := ⟨_, rfl⟩
      rw [hx] at cj
      have hlt' : (j : Int) < (hs.length : Int) := by omega
      have hnext : [y] ++ twice (hs.take (j + 1)) = ([y] ++ twice (hs.take j)) ++ [x, x] := by
        rw [List.take_succ_eq_append_getElem hlt, twice_append, ← hx, getD_lt _ _ _ hlt, List.append_assoc]; rfl
      have HNX := Lib.hid hnext
      obtain ⟨L, hLL⟩ : ∃ L, [y] ++ twice (hs.take j) = L := ⟨_, rfl⟩
      rw [hLL] at hown hL HNX
      obtain ⟨va, vc, rfl⟩ := owned_len1 hown
      have hz := hB.size
      have hLb : L.length ≤ 200 := by omega
      clear hnext hLL hx
      go_wp2_with (at_builtin; refine wpList_append_near rfl (.tmp 16) (.tmp 19) 22 rfl w.heap.size 3 (.int .i64 0) 1 8 Try.underlying22 info_i rfl (by decide) (.slice va L.length vc) L.length (ints .i64 L) rfl (own_upd hown ((Upd.refl (fun _ => False) _).alloc _) (fun _ _ => id)) ⟨wr.heap.size, 0, none⟩ 2 2 [.int .i64 x, .int .i64 x] rfl rfl (by intro k u hk; match k, hk with | 0, hk => (simp at hk; subst hk; simp [Addr.add]) | 1, hk => (simp at hk; subst hk; simp [Addr.add])) (by intro u hu; simp at hu; rcases hu with rfl | rfl <;> rfl) (by unfold maxLen; omega) (by omega) (by simp; omega) ?_; intro v7 w7 hown7 hg7 near7)
      have u7 := Upd.grown hg7
      have hB7 : Below w.heap.size w w7 := ((hB.alloc hz _)).trans ⟨u7.os, u7.tape, u7.output, u7.size, fun k hk => u7.block k (by simp; omega) (fun e => by have := (own_lt hown e).2; omega)⟩
      go_roundw
      case rel => exact ⟨j + 1, by omega, by go_num, by rw [HNX.out, ← ints_snoc2, List.length_append]; exact hown7, hB7⟩
      case measure => simp [intOf]; omega
    · obtain rfl : j = hs.length := by omega
      rw [List.take_length] at hown
      obtain ⟨g, cap, rfl, hg, hr⟩ := owned hown (by simp)
      go_wp2_with fail
      go_ret
      have hsrc : Src1 wr (.slice (some ⟨g, 0, none⟩) ([y] ++ twice hs : List Int).length cap) .i64 ([y] ++ twice hs) :=
        ⟨some ⟨g, 0, none⟩, cap, rfl, fun e => (by cases e), fun _ => ⟨g, 0, rfl, hr.lt, fun i hi => (by rw [Nat.zero_add]; exact hr.cell (ints_get hi))⟩⟩
      exact ⟨_, rfl, hsrc, hB⟩
end Go.Proofs.Ytemcpnickdcekaa.Ref13
