/- The document's lock of whom time may run out: New. -/
import Derived.Test.YtlkpfdboagjaoaaRef14s
import Derived.Test.YtlkpfdboagjaoaaPar
namespace Go.Proofs.Ytlkpfdboagjaoaa.Ref14
open Go Go.RowKit Go.Proofs.Ytlkpfdboagjaoaa.Heap Go.Proofs.Ytlkpfdboagjaoaa.Open Go.Proofs.Ytlkpfdboagjaoaa.Seat Go.Proofs.Ytlkpfdboagjaoaa.Mach Go.Proofs.Ytlkpfdboagjaoaa.Has Go.Proofs.Ytlkpfdboagjaoaa.Ref09 Go.Proofs.Ytlkpfdboagjaoaa.Modl Go.Proofs.Ytlkpfdboagjaoaa.SeatP Go.Proofs.Ytlkpfdboagjaoaa.StepU Go.Proofs.Ytlkpfdboagjaoaa.Abort Go.Proofs.Ytlkpfdboagjaoaa.Par
theorem info_i : (Try.prog.info? 3).map (fun i => (i.zero, i.size, i.bytes)) = some (some (.int .i64 0), 1, 8) := by kernel_rfl
theorem cell_newAt (w : World) (v : Value) (T : TypeId) (b : Nat) (hb : b = w.heap.size) : ∀ j u, [v][j]? = some u → (w.alloc (.cells #[v] T)).cell? ((⟨b, 0, none⟩ : Addr).add j) = some u := by subst hb; exact cell_new1 w v T
theorem col_z (f : P → Int) (n : Nat) (z : Int) (hf : f p0 = z) : col f (List.replicate n p0) = List.replicate n (.int .i64 z) := by simp [col, hf]
def G14 (n : Nat) (i : Nat) (v : Value) (w : World) (F : Nat → Prop) : Prop :=
  match i with
  | 0 => ∃ sx sb db, v = .pointer (some ⟨sx, 0, none⟩) ∧ RAt w sx sb db (List.replicate n (0, -1)) true false ∧ F = fun b => b = sx ∨ b = sb ∨ b = db
  | _ => ∃ B, v = .slice (some ⟨B, 0, none⟩) n n ∧ Row w B (List.replicate n (.int .i64 0)) ∧ F = fun b => b = B
theorem G14.keep {n i : Nat} {v : Value} {w w' : World} {F : Nat → Prop} (h : G14 n i v w F) (hb : Below w.heap.size w w') : G14 n i v w' F := by
  have hu : Upd (fun _ => False) w w' := Upd.of_below hb
  unfold G14 at h ⊢
  split at h
  · obtain ⟨sx, sb, db, rfl, h, rfl⟩ := h; exact ⟨sx, sb, db, rfl, h.upd hu id id id, rfl⟩
  · obtain ⟨B, rfl, h, rfl⟩ := h; exact ⟨B, rfl, h.upd hu id, rfl⟩
/-- Ahead of the loop. -/
structure Pre (b : Bk) (n M c : Nat) (v3 : Value) (w0 w : World) : Prop where
  row : Row w b.x [.pointer (some ⟨b.sx, 0, none⟩), .int .i64 0, .int .i64 c, v3, .slice (some ⟨b.nb, 0, none⟩) n n, .slice (some ⟨b.ob, 0, none⟩) n n, .slice (some ⟨b.tb, 0, none⟩) n n]
  seat : RAt w b.sx b.sb b.db (List.replicate n (0, -1)) true false
  nrow : Row w b.nb (List.replicate n (.int .i64 0))
  orow : Row w b.ob (List.replicate n (.int .i64 0))
  trow : Row w b.tb (List.replicate n (.int .i64 0))
  bel : Below w0.heap.size w0 w
  nd : [b.x, b.sx, b.sb, b.db, b.nb, b.ob, b.tb].Nodup
  lt : ∀ i ∈ [b.x, b.sx, b.sb, b.db, b.nb, b.ob, b.tb], w0.heap.size ≤ i ∧ i < M
theorem Pre.upd {b : Bk} {n M c : Nat} {v3 v' : Value} {w0 w w7 : World} {B : Nat → Prop} (h : Pre b n M c v3 w0 w) (u : Upd B w w7) (hB : ∀ i, B i → M ≤ i) : Pre b n M c v' w0 (w7.setCell ⟨b.x, 3, none⟩ v') := by
  have U8 := Upd.one w7 b.x 3 v'
  have hz := h.bel.size
  have nb' : ∀ i ∈ [b.x, b.sx, b.sb, b.db, b.nb, b.ob, b.tb], ¬ B i := fun i hi e => by have := hB i e; have := (h.lt i hi).2; omega
  have nx : ∀ i ∈ [b.sx, b.sb, b.db, b.nb, b.ob, b.tb], ¬ i = b.x := fun i hi e => (List.nodup_cons.1 h.nd).1 (e ▸ hi)
  refine ⟨by simpa using (h.row.upd u (nb' _ (by simp))).set 3 v', (h.seat.upd u (nb' _ (by simp)) (nb' _ (by simp)) (nb' _ (by simp))).upd U8 (nx _ (by simp)) (nx _ (by simp)) (nx _ (by simp)), (h.nrow.upd u (nb' _ (by simp))).upd U8 (nx _ (by simp)), (h.orow.upd u (nb' _ (by simp))).upd U8 (nx _ (by simp)), (h.trow.upd u (nb' _ (by simp))).upd U8 (nx _ (by simp)), ?_, h.nd, h.lt⟩
  exact (((u.mono (S' := fun i => B i ∨ i = b.x) fun i _ h => Or.inl h).trans (U8.mono fun i _ h => Or.inr h)).below h.bel hz (fun i hi => by
    have := h.lt b.x (by simp)
    rcases hi with hi | hi
    · have := hB i hi; omega
    · omega))
set_option maxHeartbeats 4000000 in
theorem newR (w : World) (n c : Nat) (n1 : 1 ≤ n) (n64 : n ≤ 64) :
    Calls Try.prog 29 #[.int .i64 n, .int .i64 c, .int .i64 0] w fun e w' => ∃ b : Bk, e = .returned (.pointer (some ⟨b.x, 0, none⟩)) ∧ MAt b w' c (List.replicate n (0, -1)) (List.replicate n p0) (List.replicate n 0) ∧ (∀ i, fm b i → w.heap.size ≤ i) ∧ Below w.heap.size w w' := by
  have m1 := run_make_zeros (P := Try.prog) 22 3 (.int .i64 0) 8 Try.underlying22 info_i rfl n (by omega) (by omega)
  have HN := Lib.hid (fun w' : World => rnew w' n true false n1 n64)
  go_enter Try.func29, Try.ntmps29
  go_upto_region 1 with (fail)
  go_wp2_with fail
  refine wp_region_any (by kernel_rfl) ?_
  change wpAny _ _ _ _ _ _ _ w.drew
  refine wpAny_take (i := 0) (v := ?_) rfl (by kernel_rfl) (by kernel_rfl) (by kernel_rfl) (fun _ _ _ h => h) (Or.inl ⟨by rfl, ?_⟩) ?_
  rotate_left
  · (intro w'; go_simp) <;> with_reducible rfl
  refine wpAny_take (i := 2) (v := ?_) rfl (by kernel_rfl) (by kernel_rfl) (by kernel_rfl) (fun _ _ _ h => h) (Or.inl ⟨by rfl, ?_⟩) ?_
  rotate_left
  · (intro w'; go_simp) <;> with_reducible rfl
  refine wpAny_take (i := 3) (v := ?_) rfl (by kernel_rfl) (by kernel_rfl) (by kernel_rfl) (fun _ _ _ h => h) (Or.inl ⟨by rfl, ?_⟩) ?_
  rotate_left
  · (intro w'; go_simp) <;> with_reducible rfl
  refine wpAny_take (i := 4) (v := ?_) rfl (by kernel_rfl) (by kernel_rfl) (by kernel_rfl) (fun _ _ _ h => h) (Or.inl ⟨by rfl, ?_⟩) ?_
  rotate_left
  · (intro w'; go_simp) <;> with_reducible rfl
  refine wpAny_take (i := 6) (v := ?_) rfl (by kernel_rfl) (by kernel_rfl) (by kernel_rfl) (fun _ _ _ h => h) (Or.inl ⟨by rfl, ?_⟩) ?_
  rotate_left
  · (intro w'; go_simp) <;> with_reducible rfl
  refine wpAny_take (i := 8) (v := ?_) rfl (by kernel_rfl) (by kernel_rfl) (by kernel_rfl) (fun _ _ _ h => h) (Or.inl ⟨by rfl, ?_⟩) ?_
  rotate_left
  · (intro w'; go_simp) <;> with_reducible rfl
  refine wpAny_par 4 3 (fun i => [1, 5, 7, 9].getD i 0) (G14 n) (fun bs => #[true, bs 0, true, true, true, bs 1, true, bs 2, true, bs 3, false, false, false]) (fun vs => ⟨#[.int .i64 n, .int .i64 c, .int .i64 0, undef, undef, undef, .pointer none, undef, undef, .int .i64 n, vs 0, .int .i64 0, .int .i64 c, .int .i64 n, vs 1, .int .i64 n, vs 2, .int .i64 n, vs 3, undef, undef, undef, undef, undef, undef, undef, undef, undef, undef, undef, undef, undef, undef, undef, undef, undef], []⟩) w.drew (fun i v w w' F hG _ hB => hG.keep hB) ?_ ?_ ?_ ?_ ?_ (fun _ => undef)
  · intro bs i hi
    rcases (show i = 0 ∨ i = 1 ∨ i = 2 ∨ i = 3 by omega) with rfl | rfl | rfl | rfl <;> rfl
  · intro bs h
    dsimp only
    rw [h 0 (by decide), h 1 (by decide), h 2 (by decide), h 3 (by decide)]
  · refine ready4 1 5 7 9 _ (fun c0 c1 c2 c3 => #[true, c0, true, true, true, c1, true, c2, true, c3, false, false, false]) (fun _ => rfl) ?_
    intro c0 c1 c2 c3 h
    cases c0 <;> cases c1 <;> cases c2 <;> cases c3 <;> first | exact absurd h (by decide) | kernel_rfl
  · intro i hi vs w1 K hB hK
    rcases (show i = 0 ∨ i = 1 ∨ i = 2 ∨ i = 3 by omega) with rfl | rfl | rfl | rfl
    · refine wpOp_step rfl (fun K' hK' => ?_)
      go_simp
      refine (HN.out _).mono ?_
      rintro e w5 ⟨sx, sb, db, rfl, hra, k1, k2, k3, hB5⟩
      obtain ⟨cs, cd, ht⟩ := hra.top
      have l1 := ht.lt
      have l2 := hra.st.lt
      have l3 := hra.dl.lt
      exact hK' _ _ (hK _ w5 (fun b => b = sx ∨ b = sb ∨ b = db) hB5 ⟨sx, sb, db, rfl, hra, rfl⟩ (fun b e => by rcases e with rfl | rfl | rfl <;> constructor <;> omega))
    · refine wpOp_step rfl (fun K' hK' => ?_)
      go_simp
      exact hK' _ _ (hK _ _ (fun b => b = w1.heap.size) ((Below.refl _ _).alloc (Nat.le_refl _) _) ⟨_, rfl, Row.ofZeros rfl, rfl⟩ (fun b e => by subst e; simp))
    · refine wpOp_step rfl (fun K' hK' => ?_)
      go_simp
      exact hK' _ _ (hK _ _ (fun b => b = w1.heap.size) ((Below.refl _ _).alloc (Nat.le_refl _) _) ⟨_, rfl, Row.ofZeros rfl, rfl⟩ (fun b e => by subst e; simp))
    · refine wpOp_step rfl (fun K' hK' => ?_)
      go_simp
      exact hK' _ _ (hK _ _ (fun b => b = w1.heap.size) ((Below.refl _ _).alloc (Nat.le_refl _) _) ⟨_, rfl, Row.ofZeros rfl, rfl⟩ (fun b e => by subst e; simp))
  · intro vs w5 F hM
    obtain ⟨sx, sb, db, e0, hra, f0⟩ : ∃ sx sb db, vs 0 = .pointer (some ⟨sx, 0, none⟩) ∧ RAt w5 sx sb db (List.replicate n (0, -1)) true false ∧ F 0 = fun b => b = sx ∨ b = sb ∨ b = db := hM.good 0 (by decide) rfl
    obtain ⟨nb, e1, r1, f1⟩ : ∃ B, vs 1 = .slice (some ⟨B, 0, none⟩) n n ∧ Row w5 B (List.replicate n (.int .i64 0)) ∧ F 1 = fun b => b = B := hM.good 1 (by decide) rfl
    obtain ⟨ob, e2, r2, f2⟩ : ∃ B, vs 2 = .slice (some ⟨B, 0, none⟩) n n ∧ Row w5 B (List.replicate n (.int .i64 0)) ∧ F 2 = fun b => b = B := hM.good 2 (by decide) rfl
    obtain ⟨tb, e3, r3, f3⟩ : ∃ B, vs 3 = .slice (some ⟨B, 0, none⟩) n n ∧ Row w5 B (List.replicate n (.int .i64 0)) ∧ F 3 = fun b => b = B := hM.good 3 (by decide) rfl
    have hz : w.drew.heap.size = w.heap.size := rfl
    have q0 := fun b h => hM.rng 0 (by decide) rfl b (f0 ▸ h)
    have q1 := hM.rng 1 (by decide) rfl nb (by rw [f1])
    have q2 := hM.rng 2 (by decide) rfl ob (by rw [f2])
    have q3 := hM.rng 3 (by decide) rfl tb (by rw [f3])
    have q5 := q0 sx (.inl rfl)
    have q6 := q0 sb (.inr (.inl rfl))
    have q7 := q0 db (.inr (.inr rfl))
    rw [hz] at q1 q2 q3 q5 q6 q7
    have hlt8 : ∀ i ∈ [w5.heap.size, sx, sb, db, nb, ob, tb], w.heap.size ≤ i ∧ i < w5.heap.size + 1 := by
      have := hM.bel.size
      rw [hz] at this
      simp only [List.mem_cons, List.not_mem_nil, or_false]
      rintro i (rfl | rfl | rfl | rfl | rfl | rfl | rfl)
      · omega
      · exact ⟨q5.1, by omega⟩
      · exact ⟨q6.1, by omega⟩
      · exact ⟨q7.1, by omega⟩
      · exact ⟨q1.1, by omega⟩
      · exact ⟨q2.1, by omega⟩
      · exact ⟨q3.1, by omega⟩
    have d01 := hM.dis 1 0 (by decide) (by decide) rfl rfl (by decide) nb (by rw [f1])
    have d02 := hM.dis 2 0 (by decide) (by decide) rfl rfl (by decide) ob (by rw [f2])
    have d03 := hM.dis 3 0 (by decide) (by decide) rfl rfl (by decide) tb (by rw [f3])
    rw [f0] at d01 d02 d03
    have d12 := hM.dis 1 2 (by decide) (by decide) rfl rfl (by decide) nb (by rw [f1])
    have d13 := hM.dis 1 3 (by decide) (by decide) rfl rfl (by decide) nb (by rw [f1])
    have d23 := hM.dis 2 3 (by decide) (by decide) rfl rfl (by decide) ob (by rw [f2])
    rw [f2] at d12
    rw [f3] at d13 d23
    have hnd8 : [w5.heap.size, sx, sb, db, nb, ob, tb].Nodup := by
      simp only [List.nodup_cons, List.mem_cons, List.not_mem_nil, or_false, not_or, not_false_eq_true, List.nodup_nil, and_true]
      exact ⟨⟨Nat.ne_of_gt q5.2, Nat.ne_of_gt q6.2, Nat.ne_of_gt q7.2, Nat.ne_of_gt q1.2, Nat.ne_of_gt q2.2, Nat.ne_of_gt q3.2⟩, ⟨hra.ne1, hra.ne2, fun e => d01 (.inl e.symm), fun e => d02 (.inl e.symm), fun e => d03 (.inl e.symm)⟩, ⟨hra.ne3, fun e => d01 (.inr (.inl e.symm)), fun e => d02 (.inr (.inl e.symm)), fun e => d03 (.inr (.inl e.symm))⟩, ⟨fun e => d01 (.inr (.inr e.symm)), fun e => d02 (.inr (.inr e.symm)), fun e => d03 (.inr (.inr e.symm))⟩, ⟨d12, d13⟩, d23⟩
    clear d01 d02 d03 d12 d13 d23 q0 q1 q2 q3 q5 q6 q7
    dsimp only
    rw [e0, e1, e2, e3]
    refine wpAny_take (i := 10) (v := ?_) rfl (by kernel_rfl) (by kernel_rfl) (by kernel_rfl) (fun _ _ _ h => h) (Or.inl ⟨by rfl, ?_⟩) ?_
    rotate_left
    · (intro w'; go_simp) <;> with_reducible rfl
    refine wpAny_ready (rs := [11]) (by kernel_rfl) (by simp) ?_
    refine AllReady.cons rfl (fun K' hK' => ?_) AllReady.nil
    go_simp
    refine hK' _ _ ?_
    clear hK' K'
    refine wpAny_take (i := 12) (v := ?_) rfl (by kernel_rfl) (by kernel_rfl) (by kernel_rfl) (fun _ _ _ h => h) (Or.inl ⟨by rfl, ?_⟩) ?_
    rotate_left
    · (intro w'; go_simp) <;> with_reducible rfl
    refine wpAny_done (by kernel_rfl) ?_ _
    have hb0 : Below w.heap.size w (w5.alloc (.cells #[.pointer (some ⟨sx, 0, none⟩), .int .i64 0, .int .i64 c, .slice none 0 0, .slice (some ⟨nb, 0, none⟩) n n, .slice (some ⟨ob, 0, none⟩) n n, .slice (some ⟨tb, 0, none⟩) n n] 117)) := ((below_drewN (Below.refl _ w) 1).trans hM.bel).alloc (by have := hM.bel.size; rw [hz] at this; exact this) _
    have hPre : Pre ⟨w5.heap.size, sx, sb, db, 0, nb, ob, tb, 0⟩ n (w5.heap.size + 1) c (.slice none 0 0) w (w5.alloc (.cells #[.pointer (some ⟨sx, 0, none⟩), .int .i64 0, .int .i64 c, .slice none 0 0, .slice (some ⟨nb, 0, none⟩) n n, .slice (some ⟨ob, 0, none⟩) n n, .slice (some ⟨tb, 0, none⟩) n n] 117)) :=
      ⟨Row.new' rfl, hra.alloc _, r1.alloc _, r2.alloc _, r3.alloc _, hb0, hnd8, hlt8⟩
    revert hPre
    generalize w5.alloc (.cells #[.pointer (some ⟨sx, 0, none⟩), .int .i64 0, .int .i64 c, .slice none 0 0, .slice (some ⟨nb, 0, none⟩) n n, .slice (some ⟨ob, 0, none⟩) n n, .slice (some ⟨tb, 0, none⟩) n n] 117) = W
    generalize w5.heap.size = X
    intro P8
    clear hM hra r1 r2 r3 f0 f1 f2 f3 e0 e1 e2 e3 hnd8 hlt8 hb0 m1 HN F vs hz
    have hMw0 : X + 1 ≤ W.heap.size := P8.row.lt
    have own9 := World.ownsRow_nil W (X + 1) 3 1
    go_wp2_with fail
    go_loopw [8] (fun i wr => ∃ j : Nat, j ≤ n ∧ i = .int .i64 j ∧ ∃ v3, Pre ⟨X, sx, sb, db, 0, nb, ob, tb, 0⟩ n (X + 1) c v3 w wr ∧ wr.ownsRow (X + 1) 3 1 v3 j (ints .i64 (List.replicate j 1)) ∧ X + 1 ≤ wr.heap.size) (fun i _ => n - (intOf i).toNat)
    case atStart => exact ⟨0, Nat.zero_le _, rfl, .slice none 0 0, P8, own9, hMw0⟩
    case round =>
      obtain ⟨j, hj, rfl, v3, PR, hown, hMw⟩ := hrel
      clear P8 own9 hMw0
      by_cases hlt : j < n
      · obtain ⟨va, vc, rfl⟩ := owned_len1 hown
        have c3 := PR.row.cell (i := 3) rfl
        have hlt' : (j : Int) < (n : Int) := by omega
        have hrowX : Row wr X [.pointer (some ⟨sx, 0, none⟩), .int .i64 0, .int .i64 c, .slice va j vc, .slice (some ⟨nb, 0, none⟩) n n, .slice (some ⟨ob, 0, none⟩) n n, .slice (some ⟨tb, 0, none⟩) n n] := PR.row
        have HRX := Lib.hid hrowX
        have HPR := Lib.hid PR
        have hxw : X < wr.heap.size := hrowX.lt
        dsimp only at c3
        clear PR hrowX
        go_wp2_with (at_builtin; refine wpList_append_near rfl (.tmp 30) (.tmp 31) 22 rfl (X + 1) 3 (.int .i64 0) 1 8 Try.underlying22 info_i rfl (by decide) (.slice va j vc) j (ints .i64 (List.replicate j 1)) rfl (own_upd hown ((Upd.refl (fun _ => False) _).alloc _) (fun _ _ => id)) ⟨wr.heap.size, 0, none⟩ 1 1 [.int .i64 1] rfl rfl (cell_newAt _ _ _ _ rfl) (one_cell rfl) (by unfold maxLen; omega) (by omega) (by simp; omega) ?_; intro v7 w7 hown7 hg7 near7; obtain ⟨va7, vc7, rfl⟩ := owned_len1 hown7; have u7 : Upd (fun i => (Value.slice va j vc).ownBlock = some i) wr w7 := ((Upd.refl _ _).alloc _).trans (Upd.grown hg7); have row7 := HRX.out.upd u7 (fun e => by have := (own_lt hown e).2; omega); have t7 := row7.cell (i := 3) rfl; have g7 := row7.frozen 3; clear hg7 near7)
        have P8 := HPR.out.upd (v' := .slice va7 (j + 1) vc7) u7 (fun b hb => by have := (own_lt hown hb).2; omega)
        have own8 := own_upd hown7 (Upd.one w7 X 3 (.slice va7 (j + 1) vc7)) (fun b hb e => by have := (own_lt hown7 hb).2; omega)
        have hz8 : X + 1 ≤ (w7.setCell ⟨X, 3, none⟩ (.slice va7 (j + 1) vc7)).heap.size := by have := (Upd.one w7 X 3 (.slice va7 (j + 1) vc7)).size; have := u7.size; omega
        go_round
        case rel => exact ⟨j + 1, by omega, by go_num, .slice va7 (j + 1) vc7, P8, by rw [List.replicate_succ']; simpa [ints] using own8, hz8⟩
        case measure => simp [intOf]; omega
      · obtain rfl : j = n := by omega
        obtain ⟨pc, cp, rfl, hpc, hrp⟩ := owned hown (by omega)
        go_wp2_with fail
        go_ret
        have ln : ∀ i ∈ [X, sx, sb, db, nb, ob, tb], ¬ i = pc := fun i hi => Nat.ne_of_lt (Nat.lt_of_lt_of_le (PR.lt i hi).2 hpc)
        have hX0 : w.heap.size ≤ X := (PR.lt X (by simp)).1
        refine ⟨⟨X, sx, sb, db, pc, nb, ob, tb, cp⟩, rfl, ⟨by simpa using PR.row, PR.seat, ?_, ?_, ?_, ?_, by simp, by simp, ?_, ?_, ?_⟩, ?_, PR.bel⟩
        · rw [col_z _ _ 1 rfl]; simpa [ints] using hrp
        · rw [col_z _ _ 0 rfl]; exact PR.nrow
        · simpa [ints] using PR.orow
        · rw [col_z _ _ 0 rfl]; exact PR.trow
        · have knd := PR.nd
          simp only [List.nodup_cons, List.mem_cons, List.not_mem_nil, or_false, not_or, not_false_eq_true, List.nodup_nil, and_true] at knd
          obtain ⟨⟨x1, x2, x3, x4, x5, x6⟩, ⟨y1, y2, y3, y4, y5⟩, ⟨z1, z2, z3, z4⟩, ⟨u1, u2, u3⟩, ⟨v1, v2⟩, t1⟩ := knd
          simp only [Bk.all, List.nodup_cons, List.mem_cons, List.not_mem_nil, or_false, not_or, not_false_eq_true, List.nodup_nil, and_true]
          exact ⟨⟨x1, x2, x3, ln _ (by simp), x4, x5, x6⟩, ⟨y1, y2, ln _ (by simp), y3, y4, y5⟩, ⟨z1, ln _ (by simp), z2, z3, z4⟩, ⟨ln _ (by simp), u1, u2, u3⟩, ⟨fun e => ln nb (by simp) e.symm, fun e => ln ob (by simp) e.symm, fun e => ln tb (by simp) e.symm⟩, ⟨v1, v2⟩, t1⟩
        · intro t _
          rw [List.getD, List.getElem?_replicate]
          split <;> exact ⟨by decide, by decide, by decide⟩
        · intro t
          rw [List.getD, List.getElem?_replicate]
          split <;> exact ⟨by decide, by decide⟩
        · intro i hi
          have hx1 := hX0
          simp only [fm, Bk.all, List.mem_cons, List.not_mem_nil, or_false] at hi
          rcases hi with rfl | rfl | rfl | rfl | rfl | rfl | rfl | rfl
          · exact (PR.lt _ (by simp)).1
          · exact (PR.lt _ (by simp)).1
          · exact (PR.lt _ (by simp)).1
          · exact (PR.lt _ (by simp)).1
          · clear ln; omega
          · exact (PR.lt _ (by simp)).1
          · exact (PR.lt _ (by simp)).1
          · exact (PR.lt _ (by simp)).1
end Go.Proofs.Ytlkpfdboagjaoaa.Ref14
