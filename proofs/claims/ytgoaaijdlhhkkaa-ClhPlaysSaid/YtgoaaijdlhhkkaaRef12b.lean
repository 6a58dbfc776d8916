/- The document's lock of Craig, Landin and Hagersten: New, Seats, Homes; as the laws take it. -/
import Derived.Test.YtgoaaijdlhhkkaaRef12s
namespace Go.Proofs.Ytgoaaijdlhhkkaa.Ref12
open Go Go.RowKit Go.Proofs.Ytgoaaijdlhhkkaa.Heap Go.Proofs.Ytgoaaijdlhhkkaa.Open Go.Proofs.Ytgoaaijdlhhkkaa.Seat Go.Proofs.Ytgoaaijdlhhkkaa.Mach Go.Proofs.Ytgoaaijdlhhkkaa.Has Go.Proofs.Ytgoaaijdlhhkkaa.Ref09 Go.Proofs.Ytgoaaijdlhhkkaa.Modl Go.Proofs.Ytgoaaijdlhhkkaa.SeatP Go.Proofs.Ytgoaaijdlhhkkaa.StepU Go.Proofs.Ytgoaaijdlhhkkaa.Clh
variable {x sx sb db pc nb cn ab : Nat}
theorem seatsC {w : World} {sl : List (Int × Int)} {pl nl ol : List Int} (h : MAt x sx sb db pc nb cn ab w sl pl nl ol) :
    Calls Try.prog 93 #[.pointer (some ⟨x, 0, none⟩)] w fun e w' => e = .returned (.pointer (some ⟨sx, 0, none⟩)) ∧ w = w' := by
  have c0 := h.top.cell (i := 0) rfl
  go_enter Try.func93, Try.ntmps93
  go_wp2
  go_ret
  exact ⟨rfl, rfl⟩
theorem info_i : (Try.prog.info? 3).map (fun i => (i.zero, i.size, i.bytes)) = some (some (.int .i64 0), 1, 8) := by kernel_rfl
theorem cell_newAt (w : World) (v : Value) (T : TypeId) (b : Nat) (hb : b = w.heap.size) : ∀ j u, [v][j]? = some u → (w.alloc (.cells #[v] T)).cell? ((⟨b, 0, none⟩ : Addr).add j) = some u := by subst hb; exact cell_new1 w v T
/-- The first nodes. -/
def nds (n : Nat) : List Int := (news n).map (·.1)
theorem nds_next (n : Nat) : nds (n + 1) = nds n ++ [(n : Int) + 1] := by simp [nds, news_next]
theorem nds_len (n : Nat) : (nds n).length = n := by simp [nds, news_len]
/-- Ahead of the loop. -/
structure Pre (x sx sb db pc ab n : Nat) (v : Value) (w0 w : World) : Prop where
  row : Row w x [.pointer (some ⟨sx, 0, none⟩), .int .i64 0, .slice (some ⟨pc, 0, none⟩) n n, v, .slice (some ⟨ab, 0, none⟩) n n]
  seat : RAt w sx sb db (List.replicate n (0, -1)) false true
  prow : Row w pc (List.replicate n (.int .i64 0))
  arow : Row w ab (List.replicate n (.int .i64 0))
  bel : Below w0.heap.size w0 w
  lt : sx < x ∧ sb < x ∧ db < x ∧ pc < x ∧ ab < x
  ge : w0.heap.size ≤ sx ∧ w0.heap.size ≤ sb ∧ w0.heap.size ≤ db ∧ w0.heap.size ≤ pc ∧ w0.heap.size ≤ ab
  e2 : pc ≠ sx ∧ pc ≠ sb ∧ pc ≠ db ∧ pc ≠ ab
  e4 : ab ≠ sx ∧ ab ≠ sb ∧ ab ≠ db
theorem Pre.upd {n : Nat} {v v' : Value} {w0 w w7 : World} {B : Nat → Prop} (h : Pre x sx sb db pc ab n v w0 w) (u : Upd B w w7) (hB : ∀ b, B b → x < b) : Pre x sx sb db pc ab n v' w0 (w7.setCell ⟨x, 3, none⟩ v') := by
  have U8 := Upd.one w7 x 3 v'
  have hx := h.row.lt
  have hz := h.bel.size
  have k := h.lt
  have nb' : ∀ i, i ≤ x → ¬ B i := fun i hi e => by have := hB i e; omega
  refine ⟨by simpa using (h.row.upd u (nb' _ (Nat.le_refl _))).set 3 v', (h.seat.upd u (nb' _ (by omega)) (nb' _ (by omega)) (nb' _ (by omega))).upd U8 (by omega) (by omega) (by omega), (h.prow.upd u (nb' _ (by omega))).upd U8 (by omega), (h.arow.upd u (nb' _ (by omega))).upd U8 (by omega), ?_, h.lt, h.ge, h.e2, h.e4⟩
  exact (((u.mono (S' := fun i => B i ∨ i = x) fun i _ h => Or.inl h).trans (U8.mono fun i _ h => Or.inr h)).below h.bel hz (fun i hi => by
    have := h.ge
    rcases hi with hi | hi
    · have := hB i hi; omega
    · omega))
set_option maxHeartbeats 8000000 in
theorem newR (w : World) (n : Nat) (n1 : 1 ≤ n) (n64 : n ≤ 64) :
    Calls Try.prog 28 #[.int .i64 n, .int .i64 0] w fun e w' => ∃ x sx sb db pc nb cn ab, e = .returned (.pointer (some ⟨x, 0, none⟩)) ∧ MAt x sx sb db pc nb cn ab w' (List.replicate n (0, -1)) (List.replicate n 0) (nds n) (List.replicate n 0) ∧ (∀ i, fm x sx sb db pc nb ab i → w.heap.size ≤ i) ∧ Below w.heap.size w w' := by
  have m1 := run_make_zeros (P := Try.prog) 22 3 (.int .i64 0) 8 Try.underlying22 info_i rfl n (by omega) (by omega)
  have HN := Lib.hid (fun w' : World => rnew w' n false true n1 n64)
  have fin : ∀ (wz : World) (x sx sb db pc ab : Nat), x = wz.heap.size → RAt wz sx sb db (List.replicate n (0, -1)) false true → Row wz pc (List.replicate n (.int .i64 0)) → Row wz ab (List.replicate n (.int .i64 0)) → Below w.heap.size w wz → (pc ≠ sx ∧ pc ≠ sb ∧ pc ≠ db ∧ pc ≠ ab) → (ab ≠ sx ∧ ab ≠ sb ∧ ab ≠ db) → w.heap.size ≤ sx ∧ w.heap.size ≤ sb ∧ w.heap.size ≤ db ∧ w.heap.size ≤ pc ∧ w.heap.size ≤ ab →
      Pre x sx sb db pc ab n (.slice none 0 0) w (wz.alloc (.cells #[.pointer (some ⟨sx, 0, none⟩), .int .i64 0, .slice (some ⟨pc, 0, none⟩) n n, .slice none 0 0, .slice (some ⟨ab, 0, none⟩) n n] 71)) := by
    rintro wz x sx sb db pc ab rfl h1 h2 h3 hB e2 e4 hs
    have hz := hB.size
    obtain ⟨cs, cd, ht⟩ := h1.top
    have l1 := ht.lt
    have l2 := h1.st.lt
    have l3 := h1.dl.lt
    have l4 := h2.lt
    have l5 := h3.lt
    exact ⟨by simpa using Row.new' rfl, h1.alloc _, h2.alloc _, h3.alloc _, hB.alloc hz _, ⟨by omega, by omega, by omega, by omega, by omega⟩, hs, e2, e4⟩
  have FIN := Lib.hid fin
  have B0 : Below w.heap.size w w.drew := below_drewN (Below.refl _ _) 1
  have B1 : ∀ o, Below w.heap.size w (w.alloc o).drew := fun o => below_drewN ((Below.refl _ _).alloc (Nat.le_refl _) _) 1
  have B2 : ∀ o o', Below w.heap.size w ((w.alloc o).alloc o').drew := fun o o' => below_drewN (((Below.refl _ _).alloc (Nat.le_refl _) _).alloc (by simp) _) 1
  have z0 : w.drew.heap.size = w.heap.size := rfl
  have z1 : ∀ o, (w.alloc o).drew.heap.size = w.heap.size + 1 := fun o => by show (w.alloc o).heap.size = _; simp
  have z2 : ∀ o o', ((w.alloc o).alloc o').drew.heap.size = w.heap.size + 2 := fun o o' => by show ((w.alloc o).alloc o').heap.size = _; simp
  clear fin
  go_enter Try.func28, Try.ntmps28
  go_wp2_with fail
  go_region_with ((go_at_call 45; refine (HN.out _).mono ?_; rintro e w5 ⟨sx, sb, db, rfl, hra, k1, k2, k3, hB⟩))
  · go_wp2_with fail
    have hz := hB.size
    have l1 := hra.st.lt
    have l2 := hra.dl.lt
    obtain ⟨cs, cd, ht⟩ := hra.top
    have l3 := ht.lt
    rw [z0] at hz k1 k2 k3
    have P := FIN.out ((w5.alloc (.cells (zeros n (.int .i64 0)) 3)).alloc (.cells (zeros n (.int .i64 0)) 3)) (w5.heap.size + 1 + 1) sx sb db w5.heap.size (w5.heap.size + 1) (by simp) ((hra.alloc _).alloc _) ((Row.ofZeros rfl).alloc _) (Row.ofZeros (by simp)) (((B0.trans (hB.mono (by rw [z0]; omega))).alloc (by omega) _).alloc (by simp; omega) _) (by omega) (by omega) (by omega)
    revert P
    generalize ((w5.alloc (.cells (zeros n (.int .i64 0)) 3)).alloc (.cells (zeros n (.int .i64 0)) 3)).alloc (.cells #[.pointer (some ⟨sx, 0, none⟩), .int .i64 0, .slice (some ⟨w5.heap.size, 0, none⟩) n n, .slice none 0 0, .slice (some ⟨(w5.heap.size + 1), 0, none⟩) n n] 71) = W
    generalize (w5.heap.size + 1 + 1) = X
    intro P
    replace P : ∃ pc ab, Pre X sx sb db pc ab n (.slice none 0 0) w W := ⟨_, _, P⟩
    obtain ⟨pc, ab, P⟩ := P
    clear FIN HN B0 B1 B2 z0 z1 z2 m1 k1 k2 k3 hB hra ht l1 l2 l3 hz
    go_loopw [6] (fun i wr => ∃ j : Nat, j ≤ n ∧ i = .int .i64 j ∧ ∃ v3, Pre X sx sb db pc ab n v3 w wr ∧ wr.ownsRow (X + 1) 3 1 v3 j (ints .i64 (nds j))) (fun i _ => n - (intOf i).toNat)
    case atStart => exact ⟨0, Nat.zero_le _, rfl, .slice none 0 0, P, World.ownsRow_nil _ _ _ _⟩
    case round =>
      obtain ⟨j, hj, rfl, v3, PR, hown⟩ := hrel
      by_cases hlt : j < n
      · obtain ⟨va, vc, rfl⟩ := owned_len1 hown
        have c3 := PR.row.cell (i := 3) rfl
        have hlt' : (j : Int) < (n : Int) := by omega
        have HPR := Lib.hid PR
        have hxw := PR.row.lt
        clear P PR
        go_wp2_with (at_builtin; refine wpList_append_near rfl (.tmp 25) (.tmp 28) 22 rfl (X + 1) 3 (.int .i64 0) 1 8 Try.underlying22 info_i rfl (by decide) (.slice va j vc) j (ints .i64 (nds j)) rfl (own_upd hown ((Upd.refl (fun _ => False) _).alloc _) (fun _ _ => id)) ⟨wr.heap.size, 0, none⟩ 1 1 [.int .i64 ((j : Int) + 1)] rfl rfl (cell_newAt _ _ _ _ rfl) (one_cell rfl) (by unfold maxLen; omega) (by omega) (by simp; omega) ?_; intro v7 w7 hown7 hg7 near7; obtain ⟨va7, vc7, rfl⟩ := owned_len1 hown7; have u7 : Upd (fun i => (Value.slice va j vc).ownBlock = some i) wr w7 := ((Upd.refl _ _).alloc _).trans (Upd.grown hg7); have row7 := HPR.out.row.upd u7 (fun e => by have := (own_lt hown e).2; omega); have t7 := row7.cell (i := 3) rfl; have g7 := row7.frozen 3; clear hg7 near7)
        have P8 := HPR.out.upd (v' := .slice va7 (j + 1) vc7) u7 (fun b hb => by have := (own_lt hown hb).2; omega)
        have own8 := own_upd hown7 (Upd.one w7 X 3 (.slice va7 (j + 1) vc7)) (fun b hb e => by have := (own_lt hown7 hb).2; omega)
        go_round
        case rel => exact ⟨j + 1, by omega, by go_num, .slice va7 (j + 1) vc7, P8, by rw [nds_next]; simpa [ints] using own8⟩
        case measure => simp [intOf]; omega
      · obtain rfl : j = n := by omega
        obtain ⟨nb, cap, rfl, hnb, hrp⟩ := owned hown (by omega)
        clear P
        go_wp2_with fail
        go_ret
        have k := PR.lt
        have kg := PR.ge
        have k0 := PR.bel.size
        have ez : ints .i64 (List.replicate j 0) = List.replicate j (.int .i64 0) := by simp [ints]
        refine ⟨X, sx, sb, db, pc, nb, cap, ab, rfl, ⟨by simpa using PR.row, PR.seat, by rw [ez]; exact PR.prow, hrp, by rw [ez]; exact PR.arow, by simp, by simp [nds_len], by simp, ⟨by omega, by omega, by omega, by omega, by omega, by omega⟩, ⟨PR.e2.1, PR.e2.2.1, PR.e2.2.2.1, by omega, PR.e2.2.2.2⟩, ⟨by omega, by omega, by omega, by omega⟩, PR.e4, (fun t => by rw [List.getD, List.getElem?_replicate]; split <;> exact ⟨by decide, by decide⟩)⟩, ?_, PR.bel⟩
        intro i hi
        rcases hi with rfl | rfl | rfl | rfl | rfl | rfl | rfl
        all_goals omega
  · go_wp2_with fail
    have hz := hB.size
    have l1 := hra.st.lt
    have l2 := hra.dl.lt
    obtain ⟨cs, cd, ht⟩ := hra.top
    have l3 := ht.lt
    rw [z0] at hz k1 k2 k3
    have P := FIN.out ((w5.alloc (.cells (zeros n (.int .i64 0)) 3)).alloc (.cells (zeros n (.int .i64 0)) 3)) (w5.heap.size + 1 + 1) sx sb db (w5.heap.size + 1) w5.heap.size (by simp) ((hra.alloc _).alloc _) (Row.ofZeros (by simp)) ((Row.ofZeros rfl).alloc _) (((B0.trans (hB.mono (by rw [z0]; omega))).alloc (by omega) _).alloc (by simp; omega) _) (by omega) (by omega) (by omega)
    revert P
    generalize ((w5.alloc (.cells (zeros n (.int .i64 0)) 3)).alloc (.cells (zeros n (.int .i64 0)) 3)).alloc (.cells #[.pointer (some ⟨sx, 0, none⟩), .int .i64 0, .slice (some ⟨(w5.heap.size + 1), 0, none⟩) n n, .slice none 0 0, .slice (some ⟨w5.heap.size, 0, none⟩) n n] 71) = W
    generalize (w5.heap.size + 1 + 1) = X
    intro P
    replace P : ∃ pc ab, Pre X sx sb db pc ab n (.slice none 0 0) w W := ⟨_, _, P⟩
    obtain ⟨pc, ab, P⟩ := P
    clear FIN HN B0 B1 B2 z0 z1 z2 m1 k1 k2 k3 hB hra ht l1 l2 l3 hz
    go_loopw [6] (fun i wr => ∃ j : Nat, j ≤ n ∧ i = .int .i64 j ∧ ∃ v3, Pre X sx sb db pc ab n v3 w wr ∧ wr.ownsRow (X + 1) 3 1 v3 j (ints .i64 (nds j))) (fun i _ => n - (intOf i).toNat)
    case atStart => exact ⟨0, Nat.zero_le _, rfl, .slice none 0 0, P, World.ownsRow_nil _ _ _ _⟩
    case round =>
      obtain ⟨j, hj, rfl, v3, PR, hown⟩ := hrel
      by_cases hlt : j < n
      · obtain ⟨va, vc, rfl⟩ := owned_len1 hown
        have c3 := PR.row.cell (i := 3) rfl
        have hlt' : (j : Int) < (n : Int) := by omega
        have HPR := Lib.hid PR
        have hxw := PR.row.lt
        clear P PR
        go_wp2_with (at_builtin; refine wpList_append_near rfl (.tmp 25) (.tmp 28) 22 rfl (X + 1) 3 (.int .i64 0) 1 8 Try.underlying22 info_i rfl (by decide) (.slice va j vc) j (ints .i64 (nds j)) rfl (own_upd hown ((Upd.refl (fun _ => False) _).alloc _) (fun _ _ => id)) ⟨wr.heap.size, 0, none⟩ 1 1 [.int .i64 ((j : Int) + 1)] rfl rfl (cell_newAt _ _ _ _ rfl) (one_cell rfl) (by unfold maxLen; omega) (by omega) (by simp; omega) ?_; intro v7 w7 hown7 hg7 near7; obtain ⟨va7, vc7, rfl⟩ := owned_len1 hown7; have u7 : Upd (fun i => (Value.slice va j vc).ownBlock = some i) wr w7 := ((Upd.refl _ _).alloc _).trans (Upd.grown hg7); have row7 := HPR.out.row.upd u7 (fun e => by have := (own_lt hown e).2; omega); have t7 := row7.cell (i := 3) rfl; have g7 := row7.frozen 3; clear hg7 near7)
        have P8 := HPR.out.upd (v' := .slice va7 (j + 1) vc7) u7 (fun b hb => by have := (own_lt hown hb).2; omega)
        have own8 := own_upd hown7 (Upd.one w7 X 3 (.slice va7 (j + 1) vc7)) (fun b hb e => by have := (own_lt hown7 hb).2; omega)
        go_round
        case rel => exact ⟨j + 1, by omega, by go_num, .slice va7 (j + 1) vc7, P8, by rw [nds_next]; simpa [ints] using own8⟩
        case measure => simp [intOf]; omega
      · obtain rfl : j = n := by omega
        obtain ⟨nb, cap, rfl, hnb, hrp⟩ := owned hown (by omega)
        clear P
        go_wp2_with fail
        go_ret
        have k := PR.lt
        have kg := PR.ge
        have k0 := PR.bel.size
        have ez : ints .i64 (List.replicate j 0) = List.replicate j (.int .i64 0) := by simp [ints]
        refine ⟨X, sx, sb, db, pc, nb, cap, ab, rfl, ⟨by simpa using PR.row, PR.seat, by rw [ez]; exact PR.prow, hrp, by rw [ez]; exact PR.arow, by simp, by simp [nds_len], by simp, ⟨by omega, by omega, by omega, by omega, by omega, by omega⟩, ⟨PR.e2.1, PR.e2.2.1, PR.e2.2.2.1, by omega, PR.e2.2.2.2⟩, ⟨by omega, by omega, by omega, by omega⟩, PR.e4, (fun t => by rw [List.getD, List.getElem?_replicate]; split <;> exact ⟨by decide, by decide⟩)⟩, ?_, PR.bel⟩
        intro i hi
        rcases hi with rfl | rfl | rfl | rfl | rfl | rfl | rfl
        all_goals omega
  · go_wp2_with fail
    have hz := hB.size
    have l1 := hra.st.lt
    have l2 := hra.dl.lt
    obtain ⟨cs, cd, ht⟩ := hra.top
    have l3 := ht.lt
    rw [z1] at hz k1 k2 k3
    have P := FIN.out (w5.alloc (.cells (zeros n (.int .i64 0)) 3)) (w5.heap.size + 1) sx sb db w.heap.size w5.heap.size (by simp) (hra.alloc _) ((((Row.ofZeros (w := w) (T := 3) (n := n) (z := .int .i64 0) rfl).drew).below hB (by rw [z1]; omega)).alloc _) (Row.ofZeros rfl) (((B1 _).trans (hB.mono (by rw [z1]; omega))).alloc (by omega) _) (by omega) (by omega) (by omega)
    revert P
    generalize (w5.alloc (.cells (zeros n (.int .i64 0)) 3)).alloc (.cells #[.pointer (some ⟨sx, 0, none⟩), .int .i64 0, .slice (some ⟨w.heap.size, 0, none⟩) n n, .slice none 0 0, .slice (some ⟨w5.heap.size, 0, none⟩) n n] 71) = W
    generalize (w5.heap.size + 1) = X
    intro P
    replace P : ∃ pc ab, Pre X sx sb db pc ab n (.slice none 0 0) w W := ⟨_, _, P⟩
    obtain ⟨pc, ab, P⟩ := P
    clear FIN HN B0 B1 B2 z0 z1 z2 m1 k1 k2 k3 hB hra ht l1 l2 l3 hz
    go_loopw [6] (fun i wr => ∃ j : Nat, j ≤ n ∧ i = .int .i64 j ∧ ∃ v3, Pre X sx sb db pc ab n v3 w wr ∧ wr.ownsRow (X + 1) 3 1 v3 j (ints .i64 (nds j))) (fun i _ => n - (intOf i).toNat)
    case atStart => exact ⟨0, Nat.zero_le _, rfl, .slice none 0 0, P, World.ownsRow_nil _ _ _ _⟩
    case round =>
      obtain ⟨j, hj, rfl, v3, PR, hown⟩ := hrel
      by_cases hlt : j < n
      · obtain ⟨va, vc, rfl⟩ := owned_len1 hown
        have c3 := PR.row.cell (i := 3) rfl
        have hlt' : (j : Int) < (n : Int) := by omega
        have HPR := Lib.hid PR
        have hxw := PR.row.lt
        clear P PR
        go_wp2_with (at_builtin; refine wpList_append_near rfl (.tmp 25) (.tmp 28) 22 rfl (X + 1) 3 (.int .i64 0) 1 8 Try.underlying22 info_i rfl (by decide) (.slice va j vc) j (ints .i64 (nds j)) rfl (own_upd hown ((Upd.refl (fun _ => False) _).alloc _) (fun _ _ => id)) ⟨wr.heap.size, 0, none⟩ 1 1 [.int .i64 ((j : Int) + 1)] rfl rfl (cell_newAt _ _ _ _ rfl) (one_cell rfl) (by unfold maxLen; omega) (by omega) (by simp; omega) ?_; intro v7 w7 hown7 hg7 near7; obtain ⟨va7, vc7, rfl⟩ := owned_len1 hown7; have u7 : Upd (fun i => (Value.slice va j vc).ownBlock = some i) wr w7 := ((Upd.refl _ _).alloc _).trans (Upd.grown hg7); have row7 := HPR.out.row.upd u7 (fun e => by have := (own_lt hown e).2; omega); have t7 := row7.cell (i := 3) rfl; have g7 := row7.frozen 3; clear hg7 near7)
        have P8 := HPR.out.upd (v' := .slice va7 (j + 1) vc7) u7 (fun b hb => by have := (own_lt hown hb).2; omega)
        have own8 := own_upd hown7 (Upd.one w7 X 3 (.slice va7 (j + 1) vc7)) (fun b hb e => by have := (own_lt hown7 hb).2; omega)
        go_round
        case rel => exact ⟨j + 1, by omega, by go_num, .slice va7 (j + 1) vc7, P8, by rw [nds_next]; simpa [ints] using own8⟩
        case measure => simp [intOf]; omega
      · obtain rfl : j = n := by omega
        obtain ⟨nb, cap, rfl, hnb, hrp⟩ := owned hown (by omega)
        clear P
        go_wp2_with fail
        go_ret
        have k := PR.lt
        have kg := PR.ge
        have k0 := PR.bel.size
        have ez : ints .i64 (List.replicate j 0) = List.replicate j (.int .i64 0) := by simp [ints]
        refine ⟨X, sx, sb, db, pc, nb, cap, ab, rfl, ⟨by simpa using PR.row, PR.seat, by rw [ez]; exact PR.prow, hrp, by rw [ez]; exact PR.arow, by simp, by simp [nds_len], by simp, ⟨by omega, by omega, by omega, by omega, by omega, by omega⟩, ⟨PR.e2.1, PR.e2.2.1, PR.e2.2.2.1, by omega, PR.e2.2.2.2⟩, ⟨by omega, by omega, by omega, by omega⟩, PR.e4, (fun t => by rw [List.getD, List.getElem?_replicate]; split <;> exact ⟨by decide, by decide⟩)⟩, ?_, PR.bel⟩
        intro i hi
        rcases hi with rfl | rfl | rfl | rfl | rfl | rfl | rfl
        all_goals omega
  · go_wp2_with fail
    have hz := hB.size
    have l1 := hra.st.lt
    have l2 := hra.dl.lt
    obtain ⟨cs, cd, ht⟩ := hra.top
    have l3 := ht.lt
    rw [z2] at hz k1 k2 k3
    have P := FIN.out w5 w5.heap.size sx sb db w.heap.size (w.heap.size + 1) (by simp) hra ((((Row.ofZeros (w := w) (T := 3) (n := n) (z := .int .i64 0) rfl).alloc _).drew).below hB (by rw [z2]; omega)) (((Row.ofZeros (w := w.alloc (.cells (zeros n (.int .i64 0)) 3)) (T := 3) (n := n) (z := .int .i64 0) (by simp)).drew).below hB (by rw [z2]; omega)) ((B2 _ _).trans (hB.mono (by rw [z2]; omega))) (by omega) (by omega) (by omega)
    revert P
    generalize w5.alloc (.cells #[.pointer (some ⟨sx, 0, none⟩), .int .i64 0, .slice (some ⟨w.heap.size, 0, none⟩) n n, .slice none 0 0, .slice (some ⟨(w.heap.size + 1), 0, none⟩) n n] 71) = W
    generalize w5.heap.size = X
    intro P
    replace P : ∃ pc ab, Pre X sx sb db pc ab n (.slice none 0 0) w W := ⟨_, _, P⟩
    obtain ⟨pc, ab, P⟩ := P
    clear FIN HN B0 B1 B2 z0 z1 z2 m1 k1 k2 k3 hB hra ht l1 l2 l3 hz
    go_loopw [6] (fun i wr => ∃ j : Nat, j ≤ n ∧ i = .int .i64 j ∧ ∃ v3, Pre X sx sb db pc ab n v3 w wr ∧ wr.ownsRow (X + 1) 3 1 v3 j (ints .i64 (nds j))) (fun i _ => n - (intOf i).toNat)
    case atStart => exact ⟨0, Nat.zero_le _, rfl, .slice none 0 0, P, World.ownsRow_nil _ _ _ _⟩
    case round =>
      obtain ⟨j, hj, rfl, v3, PR, hown⟩ := hrel
      by_cases hlt : j < n
      · obtain ⟨va, vc, rfl⟩ := owned_len1 hown
        have c3 := PR.row.cell (i := 3) rfl
        have hlt' : (j : Int) < (n : Int) := by omega
        have HPR := Lib.hid PR
        have hxw := PR.row.lt
        clear P PR
        go_wp2_with (at_builtin; refine wpList_append_near rfl (.tmp 25) (.tmp 28) 22 rfl (X + 1) 3 (.int .i64 0) 1 8 Try.underlying22 info_i rfl (by decide) (.slice va j vc) j (ints .i64 (nds j)) rfl (own_upd hown ((Upd.refl (fun _ => False) _).alloc _) (fun _ _ => id)) ⟨wr.heap.size, 0, none⟩ 1 1 [.int .i64 ((j : Int) + 1)] rfl rfl (cell_newAt _ _ _ _ rfl) (one_cell rfl) (by unfold maxLen; omega) (by omega) (by simp; omega) ?_; intro v7 w7 hown7 hg7 near7; obtain ⟨va7, vc7, rfl⟩ := owned_len1 hown7; have u7 : Upd (fun i => (Value.slice va j vc).ownBlock = some i) wr w7 := ((Upd.refl _ _).alloc _).trans (Upd.grown hg7); have row7 := HPR.out.row.upd u7 (fun e => by have := (own_lt hown e).2; omega); have t7 := row7.cell (i := 3) rfl; have g7 := row7.frozen 3; clear hg7 near7)
        have P8 := HPR.out.upd (v' := .slice va7 (j + 1) vc7) u7 (fun b hb => by have := (own_lt hown hb).2; omega)
        have own8 := own_upd hown7 (Upd.one w7 X 3 (.slice va7 (j + 1) vc7)) (fun b hb e => by have := (own_lt hown7 hb).2; omega)
        go_round
        case rel => exact ⟨j + 1, by omega, by go_num, .slice va7 (j + 1) vc7, P8, by rw [nds_next]; simpa [ints] using own8⟩
        case measure => simp [intOf]; omega
      · obtain rfl : j = n := by omega
        obtain ⟨nb, cap, rfl, hnb, hrp⟩ := owned hown (by omega)
        clear P
        go_wp2_with fail
        go_ret
        have k := PR.lt
        have kg := PR.ge
        have k0 := PR.bel.size
        have ez : ints .i64 (List.replicate j 0) = List.replicate j (.int .i64 0) := by simp [ints]
        refine ⟨X, sx, sb, db, pc, nb, cap, ab, rfl, ⟨by simpa using PR.row, PR.seat, by rw [ez]; exact PR.prow, hrp, by rw [ez]; exact PR.arow, by simp, by simp [nds_len], by simp, ⟨by omega, by omega, by omega, by omega, by omega, by omega⟩, ⟨PR.e2.1, PR.e2.2.1, PR.e2.2.2.1, by omega, PR.e2.2.2.2⟩, ⟨by omega, by omega, by omega, by omega⟩, PR.e4, (fun t => by rw [List.getD, List.getElem?_replicate]; split <;> exact ⟨by decide, by decide⟩)⟩, ?_, PR.bel⟩
        intro i hi
        rcases hi with rfl | rfl | rfl | rfl | rfl | rfl | rfl
        all_goals omega
  · go_wp2_with fail
    have hz := hB.size
    have l1 := hra.st.lt
    have l2 := hra.dl.lt
    obtain ⟨cs, cd, ht⟩ := hra.top
    have l3 := ht.lt
    rw [z1] at hz k1 k2 k3
    have P := FIN.out (w5.alloc (.cells (zeros n (.int .i64 0)) 3)) (w5.heap.size + 1) sx sb db w5.heap.size w.heap.size (by simp) (hra.alloc _) (Row.ofZeros rfl) ((((Row.ofZeros (w := w) (T := 3) (n := n) (z := .int .i64 0) rfl).drew).below hB (by rw [z1]; omega)).alloc _) (((B1 _).trans (hB.mono (by rw [z1]; omega))).alloc (by omega) _) (by omega) (by omega) (by omega)
    revert P
    generalize (w5.alloc (.cells (zeros n (.int .i64 0)) 3)).alloc (.cells #[.pointer (some ⟨sx, 0, none⟩), .int .i64 0, .slice (some ⟨w5.heap.size, 0, none⟩) n n, .slice none 0 0, .slice (some ⟨w.heap.size, 0, none⟩) n n] 71) = W
    generalize (w5.heap.size + 1) = X
    intro P
    replace P : ∃ pc ab, Pre X sx sb db pc ab n (.slice none 0 0) w W := ⟨_, _, P⟩
    obtain ⟨pc, ab, P⟩ := P
    clear FIN HN B0 B1 B2 z0 z1 z2 m1 k1 k2 k3 hB hra ht l1 l2 l3 hz
    go_loopw [6] (fun i wr => ∃ j : Nat, j ≤ n ∧ i = .int .i64 j ∧ ∃ v3, Pre X sx sb db pc ab n v3 w wr ∧ wr.ownsRow (X + 1) 3 1 v3 j (ints .i64 (nds j))) (fun i _ => n - (intOf i).toNat)
    case atStart => exact ⟨0, Nat.zero_le _, rfl, .slice none 0 0, P, World.ownsRow_nil _ _ _ _⟩
    case round =>
      obtain ⟨j, hj, rfl, v3, PR, hown⟩ := hrel
      by_cases hlt : j < n
      · obtain ⟨va, vc, rfl⟩ := owned_len1 hown
        have c3 := PR.row.cell (i := 3) rfl
        have hlt' : (j : Int) < (n : Int) := by omega
        have HPR := Lib.hid PR
        have hxw := PR.row.lt
        clear P PR
        go_wp2_with (at_builtin; refine wpList_append_near rfl (.tmp 25) (.tmp 28) 22 rfl (X + 1) 3 (.int .i64 0) 1 8 Try.underlying22 info_i rfl (by decide) (.slice va j vc) j (ints .i64 (nds j)) rfl (own_upd hown ((Upd.refl (fun _ => False) _).alloc _) (fun _ _ => id)) ⟨wr.heap.size, 0, none⟩ 1 1 [.int .i64 ((j : Int) + 1)] rfl rfl (cell_newAt _ _ _ _ rfl) (one_cell rfl) (by unfold maxLen; omega) (by omega) (by simp; omega) ?_; intro v7 w7 hown7 hg7 near7; obtain ⟨va7, vc7, rfl⟩ := owned_len1 hown7; have u7 : Upd (fun i => (Value.slice va j vc).ownBlock = some i) wr w7 := ((Upd.refl _ _).alloc _).trans (Upd.grown hg7); have row7 := HPR.out.row.upd u7 (fun e => by have := (own_lt hown e).2; omega); have t7 := row7.cell (i := 3) rfl; have g7 := row7.frozen 3; clear hg7 near7)
        have P8 := HPR.out.upd (v' := .slice va7 (j + 1) vc7) u7 (fun b hb => by have := (own_lt hown hb).2; omega)
        have own8 := own_upd hown7 (Upd.one w7 X 3 (.slice va7 (j + 1) vc7)) (fun b hb e => by have := (own_lt hown7 hb).2; omega)
        go_round
        case rel => exact ⟨j + 1, by omega, by go_num, .slice va7 (j + 1) vc7, P8, by rw [nds_next]; simpa [ints] using own8⟩
        case measure => simp [intOf]; omega
      · obtain rfl : j = n := by omega
        obtain ⟨nb, cap, rfl, hnb, hrp⟩ := owned hown (by omega)
        clear P
        go_wp2_with fail
        go_ret
        have k := PR.lt
        have kg := PR.ge
        have k0 := PR.bel.size
        have ez : ints .i64 (List.replicate j 0) = List.replicate j (.int .i64 0) := by simp [ints]
        refine ⟨X, sx, sb, db, pc, nb, cap, ab, rfl, ⟨by simpa using PR.row, PR.seat, by rw [ez]; exact PR.prow, hrp, by rw [ez]; exact PR.arow, by simp, by simp [nds_len], by simp, ⟨by omega, by omega, by omega, by omega, by omega, by omega⟩, ⟨PR.e2.1, PR.e2.2.1, PR.e2.2.2.1, by omega, PR.e2.2.2.2⟩, ⟨by omega, by omega, by omega, by omega⟩, PR.e4, (fun t => by rw [List.getD, List.getElem?_replicate]; split <;> exact ⟨by decide, by decide⟩)⟩, ?_, PR.bel⟩
        intro i hi
        rcases hi with rfl | rfl | rfl | rfl | rfl | rfl | rfl
        all_goals omega
  · go_wp2_with fail
    have hz := hB.size
    have l1 := hra.st.lt
    have l2 := hra.dl.lt
    obtain ⟨cs, cd, ht⟩ := hra.top
    have l3 := ht.lt
    rw [z2] at hz k1 k2 k3
    have P := FIN.out w5 w5.heap.size sx sb db (w.heap.size + 1) w.heap.size (by simp) hra (((Row.ofZeros (w := w.alloc (.cells (zeros n (.int .i64 0)) 3)) (T := 3) (n := n) (z := .int .i64 0) (by simp)).drew).below hB (by rw [z2]; omega)) ((((Row.ofZeros (w := w) (T := 3) (n := n) (z := .int .i64 0) rfl).alloc _).drew).below hB (by rw [z2]; omega)) ((B2 _ _).trans (hB.mono (by rw [z2]; omega))) (by omega) (by omega) (by omega)
    revert P
    generalize w5.alloc (.cells #[.pointer (some ⟨sx, 0, none⟩), .int .i64 0, .slice (some ⟨(w.heap.size + 1), 0, none⟩) n n, .slice none 0 0, .slice (some ⟨w.heap.size, 0, none⟩) n n] 71) = W
    generalize w5.heap.size = X
    intro P
    replace P : ∃ pc ab, Pre X sx sb db pc ab n (.slice none 0 0) w W := ⟨_, _, P⟩
    obtain ⟨pc, ab, P⟩ := P
    clear FIN HN B0 B1 B2 z0 z1 z2 m1 k1 k2 k3 hB hra ht l1 l2 l3 hz
    go_loopw [6] (fun i wr => ∃ j : Nat, j ≤ n ∧ i = .int .i64 j ∧ ∃ v3, Pre X sx sb db pc ab n v3 w wr ∧ wr.ownsRow (X + 1) 3 1 v3 j (ints .i64 (nds j))) (fun i _ => n - (intOf i).toNat)
    case atStart => exact ⟨0, Nat.zero_le _, rfl, .slice none 0 0, P, World.ownsRow_nil _ _ _ _⟩
    case round =>
      obtain ⟨j, hj, rfl, v3, PR, hown⟩ := hrel
      by_cases hlt : j < n
      · obtain ⟨va, vc, rfl⟩ := owned_len1 hown
        have c3 := PR.row.cell (i := 3) rfl
        have hlt' : (j : Int) < (n : Int) := by omega
        have HPR := Lib.hid PR
        have hxw := PR.row.lt
        clear P PR
        go_wp2_with (at_builtin; refine wpList_append_near rfl (.tmp 25) (.tmp 28) 22 rfl (X + 1) 3 (.int .i64 0) 1 8 Try.underlying22 info_i rfl (by decide) (.slice va j vc) j (ints .i64 (nds j)) rfl (own_upd hown ((Upd.refl (fun _ => False) _).alloc _) (fun _ _ => id)) ⟨wr.heap.size, 0, none⟩ 1 1 [.int .i64 ((j : Int) + 1)] rfl rfl (cell_newAt _ _ _ _ rfl) (one_cell rfl) (by unfold maxLen; omega) (by omega) (by simp; omega) ?_; intro v7 w7 hown7 hg7 near7; obtain ⟨va7, vc7, rfl⟩ := owned_len1 hown7; have u7 : Upd (fun i => (Value.slice va j vc).ownBlock = some i) wr w7 := ((Upd.refl _ _).alloc _).trans (Upd.grown hg7); have row7 := HPR.out.row.upd u7 (fun e => by have := (own_lt hown e).2; omega); have t7 := row7.cell (i := 3) rfl; have g7 := row7.frozen 3; clear hg7 near7)
        have P8 := HPR.out.upd (v' := .slice va7 (j + 1) vc7) u7 (fun b hb => by have := (own_lt hown hb).2; omega)
        have own8 := own_upd hown7 (Upd.one w7 X 3 (.slice va7 (j + 1) vc7)) (fun b hb e => by have := (own_lt hown7 hb).2; omega)
        go_round
        case rel => exact ⟨j + 1, by omega, by go_num, .slice va7 (j + 1) vc7, P8, by rw [nds_next]; simpa [ints] using own8⟩
        case measure => simp [intOf]; omega
      · obtain rfl : j = n := by omega
        obtain ⟨nb, cap, rfl, hnb, hrp⟩ := owned hown (by omega)
        clear P
        go_wp2_with fail
        go_ret
        have k := PR.lt
        have kg := PR.ge
        have k0 := PR.bel.size
        have ez : ints .i64 (List.replicate j 0) = List.replicate j (.int .i64 0) := by simp [ints]
        refine ⟨X, sx, sb, db, pc, nb, cap, ab, rfl, ⟨by simpa using PR.row, PR.seat, by rw [ez]; exact PR.prow, hrp, by rw [ez]; exact PR.arow, by simp, by simp [nds_len], by simp, ⟨by omega, by omega, by omega, by omega, by omega, by omega⟩, ⟨PR.e2.1, PR.e2.2.1, PR.e2.2.2.1, by omega, PR.e2.2.2.2⟩, ⟨by omega, by omega, by omega, by omega⟩, PR.e4, (fun t => by rw [List.getD, List.getElem?_replicate]; split <;> exact ⟨by decide, by decide⟩)⟩, ?_, PR.bel⟩
        intro i hi
        rcases hi with rfl | rfl | rfl | rfl | rfl | rfl | rfl
        all_goals omega
theorem wrt_wd {ws : List Int} (h : Mem.Wd ws) (k : Nat) (a x v : Int) (h0 : 0 ≤ v) (h1 : v < 4294967296) : Mem.Wd (wrt k ws a x v) := by
  unfold wrt; split
  · exact h.put _ h0 h1
  · exact h
theorem mid_wd {n : Nat} {st : St} {q : List Int} {hh : Option Nat} (hI : ClhP.I n st q hh) (h : Mem.Wd st.ws) (t a : Int) : Mem.Wd (midS n 0 st t a).2.ws := by
  by_cases hin : ∃ k : Nat, t = k ∧ k < st.seats.length
  · obtain ⟨k, rfl, hk⟩ := hin
    have hkn : k < n := by rw [← hI.sl]; exact hk
    obtain ⟨e, c⟩ := hI.ci
    have hnd := c.nd0 k hkn
    have n8 := c.n8
    unfold ClhP.nd at hnd
    have p0 := fun x => wrt_wd h n a x 0 (by decide) (by decide)
    have p1 := fun x => wrt_wd h n a x 1 (by decide) (by decide)
    have p2 := fun x => wrt_wd h n a x (st.pls.getD k (0, 0, 0)).1 (by omega) (by omega)
    unfold midS lockS
    rw [Int.toNat_natCast]
    dsimp only
    (repeat' split) <;> first | exact h | exact p0 _ | exact p1 _ | exact p2 _
  · have hz := SeatP.state_out st.seats t hin
    unfold midS
    rw [hz, if_neg (by decide), if_neg (by decide), if_neg (by decide)]
    exact h
theorem held_step {n : Nat} {st : St} {q : List Int} {hh : Option Nat} (hI : ClhP.I n st q hh) (hH : Held st) (t now : Int) : Held (Clh.step n 0 st t t now).2 := by
  by_cases hin : ∃ k : Nat, t = k ∧ k < st.seats.length
  · obtain ⟨k, rfl, hk⟩ := hin
    have hkn : k < n := by rw [← hI.sl]; exact hk
    have hkp : k < st.pls.length := by rw [hI.pl]; exact hkn
    obtain ⟨e, c⟩ := hI.ci
    have hrg := c.rg k hkn
    have hst := SeatP.state_nat st.seats k
    by_cases h1 : stt st.seats k = 1
    · rcases ClhP.lockStep hI k hkn h1 now with ⟨_, ts, e⟩ | ⟨_, ts, e⟩ | ⟨hp, _, ts, e⟩ | ⟨hp, _, ts, e⟩
      · rw [e]; intro u hu
        by_cases e : u = k
        · subst e; have hu : _ ∨ _ := hu; have h1' : stt (st.seats) u = 1 := h1
          replace hu : stt st.seats u = 2 ∨ stt st.seats u = 3 ∨ stt st.seats u = 4 := hu
          omega
        · have := hH u hu
          show ((st.pls.set k _).getD u (0, 0, 0)).2.2 = 2
          rw [ClhP.pset _ _ hkp, if_neg e]; exact this
      · rw [e]; intro u hu
        show ((st.pls.set k _).getD u (0, 0, 0)).2.2 = 2
        rw [ClhP.pset _ _ hkp]
        split
        · rfl
        · exact hH u hu
      · rw [e]; intro u hu
        by_cases e : u = k
        · subst e; exact hp
        · replace hu : stt (st.seats.set k (2, -1)) u = 2 ∨ stt (st.seats.set k (2, -1)) u = 3 ∨ stt (st.seats.set k (2, -1)) u = 4 := hu
          rw [stt_set _ _ _ hk, if_neg e] at hu
          exact hH u hu
      · rw [e]; exact hH
    · by_cases h3 : stt st.seats k = 3
      · have e1 : Clh.step n 0 st k k now = ((midS n 0 st k k).1, { (midS n 0 st k k).2 with seats := (Seat.fin (midS n 0 st k k).2.seats k (midS n 0 st k k).1.1).2 }) := rfl
        have e2 : midS n 0 st k k = ((3, false, false, false), { st with pls := st.pls.set k ((st.pls.getD k (0, 0, 0)).2.1, 0, 0), ws := wrt n st.ws k (0 + 1 + (st.pls.getD k (0, 0, 0)).1) 0, ts := Cache.after n st.ws.length st.ts k (0 + 1 + (st.pls.getD k (0, 0, 0)).1) true }) := by
          unfold midS; rw [hst, h3, if_neg (by decide), if_pos rfl, Int.toNat_natCast]
        rw [e1, e2]
        intro u hu
        replace hu : stt (Seat.fin st.seats k 3).2 u = 2 ∨ stt (Seat.fin st.seats k 3).2 u = 3 ∨ stt (Seat.fin st.seats k 3).2 u = 4 := hu
        rw [SeatP.fin_eq _ _ _ (by rw [h3]; decide), h3, stt_set _ _ _ hk] at hu
        show ((st.pls.set k _).getD u (0, 0, 0)).2.2 = 2
        rw [ClhP.pset _ _ hkp]
        by_cases e : u = k
        · rw [if_pos e] at hu; exact absurd hu (by decide)
        · rw [if_neg e] at hu ⊢; exact hH u hu
      · have hp : (midS n 0 st k k).2.pls = st.pls ∧ (midS n 0 st k k).2.seats = st.seats := by
          unfold midS; rw [hst, if_neg h1, if_neg h3]; split <;> exact ⟨rfl, rfl⟩
        have hev : stt st.seats k = 4 ∨ (midS n 0 st k k).1.1 = 0 := by
          by_cases h4 : stt st.seats k = 4
          · exact .inl h4
          · right; unfold midS; rw [hst, if_neg h1, if_neg h3, if_neg h4]
        intro u hu
        replace hu : stt (Seat.fin (midS n 0 st k k).2.seats k (midS n 0 st k k).1.1).2 u = 2 ∨ stt (Seat.fin (midS n 0 st k k).2.seats k (midS n 0 st k k).1.1).2 u = 3 ∨ stt (Seat.fin (midS n 0 st k k).2.seats k (midS n 0 st k k).1.1).2 u = 4 := hu
        show ((midS n 0 st k k).2.pls.getD u (0, 0, 0)).2.2 = 2
        rw [hp.1]
        rw [hp.2] at hu
        rcases hev with h4 | h0
        · by_cases e : u = k
          · subst e; exact hH u (.inr (.inr h4))
          · rcases SeatP.fin_cases st.seats k (midS n 0 st k k).1.1 with ⟨_, e9⟩ | ⟨k', hk', hk9, _, e9⟩
            · rw [e9] at hu; exact hH u hu
            · have : k' = k := by omega
              subst this
              rw [e9, stt_set _ _ _ hk9, if_neg e] at hu
              exact hH u hu
        · rw [h0, SeatP.fin_none] at hu; exact hH u hu
  · have idle : Clh.step n 0 st t t now = ((0, false, false, false), st) := (ClhP.ql n).idle st t now (.inl (SeatP.state_out st.seats t hin))
    rw [idle]; exact hH
/-- The document's lock as the laws take it. -/
theorem modl (n : Nat) : Modl x sx sb db false true (fm x sx sb db pc nb ab) n St.seats setS (fun st t a now => Clh.step n 0 st t a now) St.ws St.ts (fun w st => (∃ ol, MAt x sx sb db pc nb cn ab w st.seats (pcl st) (ndl st) ol ∧ Rel st ol) ∧ (∃ q h, ClhP.I n st q h) ∧ Mem.Wd st.ws ∧ Held st) where
  keep := fun h hu hd => by
    obtain ⟨⟨ol, h1, h2⟩, h3⟩ := h
    exact ⟨⟨ol, h1.keep hu hd, h2⟩, h3⟩
  lt := fun h => by
    obtain ⟨⟨ol, h1, h2⟩, h3⟩ := h
    exact h1.lt
  seat := fun h => by
    obtain ⟨⟨ol, h1, h2⟩, h3⟩ := h
    exact h1.seat
  fs := ⟨by simp [fm], by simp [fm], by simp [fm]⟩
  len := fun h => by
    obtain ⟨_, ⟨q, hh, hI⟩, _⟩ := h
    exact hI.sl
  turn := fun {w w' st l'} h hs ha hu => by
    obtain ⟨⟨ol, h1, h2⟩, ⟨q, hh, hI⟩, h4, h5⟩ := h
    have hl : l'.length = st.seats.length := by
      rcases hs with rfl | ⟨k, _, a, d, rfl, _⟩
      · rfl
      · simp
    refine ⟨⟨ol, h1.seats hl ha hu, h2⟩, ?_, h4, ?_⟩
    · rcases hs with rfl | ⟨k, hk, a, d, rfl, hc⟩
      · exact ⟨q, hh, hI⟩
      · exact ⟨q, hh, hI.seat k (by rw [← hI.sl]; exact hk) a d (by omega)⟩
    · rcases hs with rfl | ⟨k, hk, a, d, rfl, hc⟩
      · exact h5
      · intro u hu
        replace hu : stt (st.seats.set k (a, d)) u = 2 ∨ stt (st.seats.set k (a, d)) u = 3 ∨ stt (st.seats.set k (a, d)) u = 4 := hu
        rw [stt_set _ _ _ hk] at hu
        by_cases e : u = k
        · subst e
          rw [if_pos rfl] at hu
          replace hu : a = 2 ∨ a = 3 ∨ a = 4 := hu
          exact h5 u (by omega)
        · rw [if_neg e] at hu; exact h5 u hu
  seatsC := fun h => by
    obtain ⟨⟨ol, h1, h2⟩, h3⟩ := h
    exact seatsC h1
  wsS := fun _ _ => rfl
  tsS := fun _ _ => rfl
  stepC := fun {w st y R} h hR hd hf t now => by
    obtain ⟨⟨ol, h1, h2⟩, ⟨q, hh, hI⟩, h4, h5⟩ := h
    refine (stepR h1 h2 h5 hI hR hd hf h4 t now).mono fun e w' ⟨he, hm, hr⟩ => ⟨he, ⟨hm, ?_, mid_wd hI h4 t t, held_step hI h5 t now⟩, hr⟩
    obtain ⟨h', hI'⟩ := (((ClhP.ql n).keeps true).step st q t now ⟨hh, hI⟩).2
    exact ⟨_, h', hI'⟩
theorem ints_app (xs ys : List Int) : ints .i64 xs ++ ints .i64 ys = ints .i64 (xs ++ ys) := by simp [ints]
set_option maxHeartbeats 4000000 in
/-- The homes that the document has. -/
theorem homesR (w : World) (v : Value) (hs : List Int) (h : Src1 w v .i64 hs) (n1 : 1 ≤ hs.length) (n2 : hs.length ≤ 64) :
    Calls Try.prog 26 #[v] w fun e w' => ∃ v', e = .returned v' ∧ Src1 w' v' .i64 ([hs.getD 0 0, hs.getD 0 0] ++ hs) ∧ Below w.heap.size w w' := by
  obtain ⟨a, c, rfl, -, hcell⟩ := h
  obtain ⟨hb, off, rfl, hbw, hcell⟩ := hcell (by omega)
  have c0 : w.cell? ⟨hb, off, none⟩ = some (.int .i64 (hs.getD 0 0)) := hcell 0 (by omega)
  obtain ⟨y, hy⟩ : ∃ y, hs.getD 0 0 = y := ⟨_, rfl⟩
  rw [hy] at c0 ⊢
  have HC := Lib.hid hcell
  have n3 : (0 : Int) < hs.length := by omega
  have n4 : hs.length ≤ 64 := n2
  have HO : Hid (∀ wz : World, wz.heap = (w.alloc (.cells #[.int .i64 y, .int .i64 y] 3)).heap → wz.ownsRow w.heap.size 3 1 (.slice (some ⟨w.heap.size, 0, none⟩) 2 2) 2 (ints .i64 [y, y])) := Lib.hid fun wz hz =>
    ⟨by simp [ints], .inr ⟨w.heap.size, 2, #[.int .i64 y, .int .i64 y], rfl, Nat.le_refl _, by rw [hz]; exact heap_alloc_new w _, by simp, by unfold maxLen; omega, rfl, rfl⟩⟩
  have B1 : Below w.heap.size w (w.alloc (.cells #[.int .i64 y, .int .i64 y] 3)) := (Below.refl _ _).alloc (Nat.le_refl _) _
  have HN : Hid (∀ j u, (ints .i64 hs)[j]? = some u → w.cell? ((⟨hb, off, none⟩ : Addr).add j) = some u) := Lib.hid fun j u hj => by
    have hj' : j < hs.length := by
      rcases Nat.lt_or_ge j hs.length with h | h
      · exact h
      · rw [List.getElem?_eq_none (by simpa [ints] using h)] at hj; cases hj
    rw [ints_get hj'] at hj
    cases hj
    by_cases e : j = 0
    · subst e; simpa [Addr.add] using hcell 0 hj'
    · simpa [Addr.add, e] using hcell j hj'
  clear hcell hy
  go_enter Try.func26, Try.ntmps26
  go_wp2_with fail
  go_region_with (fail)
  all_goals
    go_wp2_with (at_builtin; go_loud (refine wpList_append_near rfl (.tmp 11) (.tmp 12) 22 rfl w.heap.size 3 (.int .i64 0) 1 8 Try.underlying22 info_i rfl (by decide) (.slice (some ⟨w.heap.size, 0, none⟩) 2 2) 2 (ints .i64 [y, y]) rfl (HO.out _ rfl) ⟨hb, off, none⟩ hs.length c (ints .i64 hs) rfl (by simp [ints]) (fun j u hj => ((below_drewN B1 1).cell (World.block_lt_of_cell? w _ (HN.out j u hj))).trans (HN.out j u hj)) (by intro u hu; simp [ints] at hu; obtain ⟨x, _, rfl⟩ := hu; rfl) (by unfold maxLen; omega) (by omega) (by simp [World.drew]) ?_); intro v7 w7 hown7 hg7 near7; obtain ⟨g, cap, rfl, hg, hr⟩ := owned hown7 (by omega); have B7 : Below w.heap.size w w7 := (below_drewN B1 1).grown hg7 (by simp) (fun b hb => by simp [Value.ownBlock] at hb; omega); clear hg7 near7)
    go_ret
    exact ⟨_, rfl, ⟨some ⟨g, 0, none⟩, cap, by rw [Nat.add_comm]; rfl, fun e => (by cases e), fun _ => ⟨g, 0, rfl, hr.lt, fun i hi => (by rw [Nat.zero_add]; exact hr.cell (by rw [ints_app]; exact ints_get hi))⟩⟩, B7⟩
end Go.Proofs.Ytgoaaijdlhhkkaa.Ref12
