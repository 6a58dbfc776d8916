/- The document's queue lock of queues: New. -/
import Derived.Test.YtmiidiijhhjabaaRef15s
import Derived.Test.YtmiidiijhhjabaaPar
namespace Go.Proofs.Ytmiidiijhhjabaa.Ref15
open Go Go.RowKit Go.Proofs.Ytmiidiijhhjabaa.Heap Go.Proofs.Ytmiidiijhhjabaa.Open Go.Proofs.Ytmiidiijhhjabaa.Seat Go.Proofs.Ytmiidiijhhjabaa.Mach Go.Proofs.Ytmiidiijhhjabaa.Has Go.Proofs.Ytmiidiijhhjabaa.Ref09 Go.Proofs.Ytmiidiijhhjabaa.Modl Go.Proofs.Ytmiidiijhhjabaa.SeatP Go.Proofs.Ytmiidiijhhjabaa.StepU Go.Proofs.Ytmiidiijhhjabaa.Hier Go.Proofs.Ytmiidiijhhjabaa.Par
theorem info_i : (Try.prog.info? 3).map (fun i => (i.zero, i.size, i.bytes)) = some (some (.int .i64 0), 1, 8) := by kernel_rfl
theorem info_u : (Try.prog.info? 27).map (fun i => (i.zero, i.size, i.bytes)) = some (some (.int .u32 0), 1, 4) := by kernel_rfl
theorem cell_newAt (w : World) (v : Value) (T : TypeId) (b : Nat) (hb : b = w.heap.size) : ∀ j u, [v][j]? = some u → (w.alloc (.cells #[v] T)).cell? ((⟨b, 0, none⟩ : Addr).add j) = some u := by subst hb; exact cell_new1 w v T
/-- The first nodes. -/
def nds (n : Nat) : List Int := (List.range n).map fun (t : Nat) => (t : Int) + 1
theorem nds_next (n : Nat) : nds (n + 1) = nds n ++ [(n : Int) + 1] := by simp [nds, List.range_succ]
theorem nds_len (n : Nat) : (nds n).length = n := by simp [nds]
theorem col_n (hs : List Int) (n : Nat) : col .i64 P.n (news hs n) = ints .i64 (nds n) := by simp [col, news, nds, ints]
theorem col_z (f : P → Int) (k : IntKind) (hs : List Int) (n : Nat) (hf : ∀ c t, f ⟨c, t, 0, 0, 0, 0⟩ = 0) : col k f (news hs n) = List.replicate n (.int k 0) := by
  simp only [col, news, List.map_map]
  rw [show ((fun y => Value.int k (f y)) ∘ fun t : Nat => (⟨hs.getD t 0, (t : Int) + 1, 0, 0, 0, 0⟩ : P)) = fun _ => Value.int k 0 from funext fun t => by simp [hf]]
  rw [List.map_const', List.length_range]
theorem col_c (hs : List Int) : col .i64 P.c (news hs hs.length) = ints .i64 hs := by
  simp only [col, news, ints, List.map_map]
  apply List.ext_getElem
  · simp
  · intro i h1 h2
    simp at h1
    simp [List.getD, h1]
/-- What the drawn region makes. -/
def G15 (n : Nat) (i : Nat) (v : Value) (w : World) (F : Nat → Prop) : Prop :=
  match i with
  | 0 => ∃ sx sb db, v = .pointer (some ⟨sx, 0, none⟩) ∧ RAt w sx sb db (List.replicate n (0, -1)) false false ∧ F = fun b => b = sx ∨ b = sb ∨ b = db
  | 4 => ∃ B, v = .slice (some ⟨B, 0, none⟩) n n ∧ Row w B (List.replicate n (.int .u32 0)) ∧ F = fun b => b = B
  | _ => ∃ B, v = .slice (some ⟨B, 0, none⟩) n n ∧ Row w B (List.replicate n (.int .i64 0)) ∧ F = fun b => b = B
theorem G15.keep {n i : Nat} {v : Value} {w w' : World} {F : Nat → Prop} (h : G15 n i v w F) (hb : Below w.heap.size w w') : G15 n i v w' F := by
  have hu : Upd (fun _ => False) w w' := Upd.of_below hb
  unfold G15 at h ⊢
  split at h
  · obtain ⟨sx, sb, db, rfl, h, rfl⟩ := h; exact ⟨sx, sb, db, rfl, h.upd hu id id id, rfl⟩
  · obtain ⟨B, rfl, h, rfl⟩ := h; exact ⟨B, rfl, h.upd hu id, rfl⟩
  · obtain ⟨B, rfl, h, rfl⟩ := h; exact ⟨B, rfl, h.upd hu id, rfl⟩
/-- Ahead of the loops. -/
structure Pre (b : Bk) (n M : Nat) (hs : List Int) (v2 v4 : Value) (w0 w : World) : Prop where
  row : Row w b.x [.pointer (some ⟨b.sx, 0, none⟩), .int .i64 0, v2, .slice (some ⟨b.pc, 0, none⟩) n n, v4, .slice (some ⟨b.ab, 0, none⟩) n n, .slice (some ⟨b.ob, 0, none⟩) n n, .slice (some ⟨b.wb, 0, none⟩) n n]
  seat : RAt w b.sx b.sb b.db (List.replicate n (0, -1)) false false
  prow : Row w b.pc (List.replicate n (.int .i64 0))
  arow : Row w b.ab (List.replicate n (.int .i64 0))
  orow : Row w b.ob (List.replicate n (.int .i64 0))
  wrow : Row w b.wb (List.replicate n (.int .u32 0))
  bel : Below w0.heap.size w0 w
  nd : [b.x, b.sx, b.sb, b.db, b.pc, b.ab, b.ob, b.wb].Nodup
  lt : ∀ i ∈ [b.x, b.sx, b.sb, b.db, b.pc, b.ab, b.ob, b.wb], w0.heap.size ≤ i ∧ i < M
theorem Pre.upd {b : Bk} {n M j : Nat} {hs : List Int} {v2 v4 v2' v4' v' : Value} {w0 w w7 : World} {B : Nat → Prop} (h : Pre b n M hs v2 v4 w0 w) (u : Upd B w w7) (hB : ∀ i, B i → M ≤ i) (hj : (j = 2 ∧ v2' = v' ∧ v4' = v4) ∨ (j = 4 ∧ v4' = v' ∧ v2' = v2)) : Pre b n M hs v2' v4' w0 (w7.setCell ⟨b.x, j, none⟩ v') := by
  have U8 := Upd.one w7 b.x j v'
  have hx := h.row.lt
  have hz := h.bel.size
  have nb' : ∀ i ∈ [b.x, b.sx, b.sb, b.db, b.pc, b.ab, b.ob, b.wb], ¬ B i := fun i hi e => by have := hB i e; have := (h.lt i hi).2; omega
  have nx : ∀ i ∈ [b.sx, b.sb, b.db, b.pc, b.ab, b.ob, b.wb], ¬ i = b.x := fun i hi e => (List.nodup_cons.1 h.nd).1 (e ▸ hi)
  refine ⟨?_, (h.seat.upd u (nb' _ (by simp)) (nb' _ (by simp)) (nb' _ (by simp))).upd U8 (nx _ (by simp)) (nx _ (by simp)) (nx _ (by simp)), (h.prow.upd u (nb' _ (by simp))).upd U8 (nx _ (by simp)), (h.arow.upd u (nb' _ (by simp))).upd U8 (nx _ (by simp)), (h.orow.upd u (nb' _ (by simp))).upd U8 (nx _ (by simp)), (h.wrow.upd u (nb' _ (by simp))).upd U8 (nx _ (by simp)), ?_, h.nd, h.lt⟩
  · rcases hj with ⟨rfl, rfl, rfl⟩ | ⟨rfl, rfl, rfl⟩
    · simpa using (h.row.upd u (nb' _ (by simp))).set 2 _
    · simpa using (h.row.upd u (nb' _ (by simp))).set 4 _
  · exact (((u.mono (S' := fun i => B i ∨ i = b.x) fun i _ h => Or.inl h).trans (U8.mono fun i _ h => Or.inr h)).below h.bel hz (fun i hi => by
      have := h.lt b.x (by simp)
      rcases hi with hi | hi
      · have := hB i hi; omega
      · omega))
theorem Pre.mono {b : Bk} {n M M' : Nat} {hs : List Int} {v2 v4 : Value} {w0 w : World} (h : Pre b n M hs v2 v4 w0 w) (hm : M ≤ M') : Pre b n M' hs v2 v4 w0 w :=
  ⟨h.row, h.seat, h.prow, h.arow, h.orow, h.wrow, h.bel, h.nd, fun i hi => ⟨(h.lt i hi).1, Nat.lt_of_lt_of_le (h.lt i hi).2 hm⟩⟩
set_option maxHeartbeats 4000000 in
theorem newR (w : World) (hs : List Int) (v : Value) (h : Src1 w v .i64 hs) (n1 : 1 ≤ hs.length) (n64 : hs.length ≤ 64) (hok : Mem.homesOk hs = true) :
    Calls Try.prog 25 #[v, .int .i64 0] w fun e w' => ∃ b : Bk, e = .returned (.pointer (some ⟨b.x, 0, none⟩)) ∧ MAt b w' (List.replicate hs.length (0, -1)) (news hs hs.length) ∧ (∀ i, fm b i → w.heap.size ≤ i) ∧ Below w.heap.size w w' := by
  have hsrc := h
  obtain ⟨a, c, rfl, -, -⟩ := h
  obtain ⟨n, hn⟩ : ∃ n, hs.length = n := ⟨_, rfl⟩
  have HNN := Lib.hid hn
  have HOK := Lib.hid hok
  have HSRC := Lib.hid hsrc
  rw [hn] at n1 n64 ⊢
  have m1 := run_make_zeros (P := Try.prog) 22 3 (.int .i64 0) 8 Try.underlying22 info_i rfl n (by omega) (by omega)
  have m2 := run_make_zeros (P := Try.prog) 66 27 (.int .u32 0) 4 Try.underlying66 info_u rfl n (by omega) (by omega)
  have HN := Lib.hid (fun w' : World => rnew w' n false false n1 n64)
  clear hok hsrc hn
  go_enter Try.func25, Try.ntmps25
  go_upto_region 2 with (fail)
  go_wp2_with fail
  refine wp_region_any (by kernel_rfl) ?_
  change wpAny _ _ _ _ _ _ _ w.drew
  refine wpAny_take (i := 0) (v := ?_) rfl (by kernel_rfl) (by kernel_rfl) (by kernel_rfl) (fun _ _ _ h => h) (Or.inl ⟨by rfl, ?_⟩) ?_
  rotate_left
  · (intro w'; go_simp) <;> with_reducible rfl
  refine wpAny_take (i := 2) (v := ?_) rfl (by kernel_rfl) (by kernel_rfl) (by kernel_rfl) (fun _ _ _ h => h) (Or.inl ⟨by rfl, ?_⟩) ?_
  rotate_left
  · (intro w'; go_simp) <;> with_reducible rfl
  refine wpAny_take (i := 3) (v := ?_) rfl (by kernel_rfl) (by kernel_rfl) (by kernel_rfl) (fun _ _ _ h => h) (Or.inl ⟨by rfl, ?_⟩) ?_
  rotate_left
  · (intro w'; go_simp) <;> with_reducible rfl
  refine wpAny_take (i := 5) (v := ?_) rfl (by kernel_rfl) (by kernel_rfl) (by kernel_rfl) (fun _ _ _ h => h) (Or.inl ⟨by rfl, ?_⟩) ?_
  rotate_left
  · (intro w'; go_simp) <;> with_reducible rfl
  refine wpAny_take (i := 7) (v := ?_) rfl (by kernel_rfl) (by kernel_rfl) (by kernel_rfl) (fun _ _ _ h => h) (Or.inl ⟨by rfl, ?_⟩) ?_
  rotate_left
  · (intro w'; go_simp) <;> with_reducible rfl
  refine wpAny_take (i := 9) (v := ?_) rfl (by kernel_rfl) (by kernel_rfl) (by kernel_rfl) (fun _ _ _ h => h) (Or.inl ⟨by rfl, ?_⟩) ?_
  rotate_left
  · (intro w'; go_simp) <;> with_reducible rfl
  refine wpAny_par 5 3 (fun i => [1, 4, 6, 8, 10].getD i 0) (G15 n) (fun bs => #[true, bs 0, true, true, bs 1, true, bs 2, true, bs 3, true, bs 4, false, false, false]) (fun vs => ⟨#[.slice a n c, .int .i64 0, undef, undef, .pointer none, .int .i64 n, undef, undef, .slice a n c, .int .i64 n, .int .i64 n, vs 0, .int .i64 0, .int .i64 n, vs 1, .int .i64 n, vs 2, .int .i64 n, vs 3, .int .i64 n, vs 4, undef, undef, undef, undef, undef, undef, undef, undef, undef, undef, undef, undef, undef, undef, undef, undef, undef, undef, undef, undef, undef, undef, undef, undef, undef, undef, undef, undef], []⟩) w.drew (fun i v w w' F hG _ hB => hG.keep hB) ?_ ?_ ?_ ?_ ?_ (fun _ => undef)
  · intro bs i hi
    rcases (show i = 0 ∨ i = 1 ∨ i = 2 ∨ i = 3 ∨ i = 4 by omega) with rfl | rfl | rfl | rfl | rfl <;> rfl
  · intro bs h
    dsimp only
    rw [h 0 (by decide), h 1 (by decide), h 2 (by decide), h 3 (by decide), h 4 (by decide)]
  · refine ready5 1 4 6 8 10 _ (fun c0 c1 c2 c3 c4 => #[true, c0, true, true, c1, true, c2, true, c3, true, c4, false, false, false]) (fun _ => rfl) ?_
    intro c0 c1 c2 c3 c4 h
    cases c0 <;> cases c1 <;> cases c2 <;> cases c3 <;> cases c4 <;> first | exact absurd h (by decide) | kernel_rfl
  · intro i hi vs w1 K hB hK
    rcases (show i = 0 ∨ i = 1 ∨ i = 2 ∨ i = 3 ∨ i = 4 by omega) with rfl | rfl | rfl | rfl | rfl
    · refine wpOp_step rfl (fun K' hK' => ?_)
      go_simp
      refine (HN.out _).mono ?_
      rintro e w5 ⟨sx, sb, db, rfl, hra, k1, k2, k3, hB5⟩
      obtain ⟨cs, cd, ht⟩ := hra.top
      have l1 := ht.lt
      have l2 := hra.st.lt
      have l3 := hra.dl.lt
      exact hK' _ _ (hK _ w5 (fun b => b = sx ∨ b = sb ∨ b = db) hB5 ⟨sx, sb, db, rfl, hra, rfl⟩ (fun b e => by rcases e with rfl | rfl | rfl <;> constructor <;> omega))
    · refine wpOp_step rfl (fun K' hK' => ?_)
      go_simp
      exact hK' _ _ (hK _ _ (fun b => b = w1.heap.size) ((Below.refl _ _).alloc (Nat.le_refl _) _) ⟨_, rfl, Row.ofZeros rfl, rfl⟩ (fun b e => by subst e; simp))
    · refine wpOp_step rfl (fun K' hK' => ?_)
      go_simp
      exact hK' _ _ (hK _ _ (fun b => b = w1.heap.size) ((Below.refl _ _).alloc (Nat.le_refl _) _) ⟨_, rfl, Row.ofZeros rfl, rfl⟩ (fun b e => by subst e; simp))
    · refine wpOp_step rfl (fun K' hK' => ?_)
      go_simp
      exact hK' _ _ (hK _ _ (fun b => b = w1.heap.size) ((Below.refl _ _).alloc (Nat.le_refl _) _) ⟨_, rfl, Row.ofZeros rfl, rfl⟩ (fun b e => by subst e; simp))
    · refine wpOp_step rfl (fun K' hK' => ?_)
      go_simp
      exact hK' _ _ (hK _ _ (fun b => b = w1.heap.size) ((Below.refl _ _).alloc (Nat.le_refl _) _) ⟨_, rfl, Row.ofZeros rfl, rfl⟩ (fun b e => by subst e; simp))
  · intro vs w5 F hM
    obtain ⟨sx, sb, db, e0, hra, f0⟩ : ∃ sx sb db, vs 0 = .pointer (some ⟨sx, 0, none⟩) ∧ RAt w5 sx sb db (List.replicate n (0, -1)) false false ∧ F 0 = fun b => b = sx ∨ b = sb ∨ b = db := hM.good 0 (by decide) rfl
    obtain ⟨pc, e1, r1, f1⟩ : ∃ B, vs 1 = .slice (some ⟨B, 0, none⟩) n n ∧ Row w5 B (List.replicate n (.int .i64 0)) ∧ F 1 = fun b => b = B := hM.good 1 (by decide) rfl
    obtain ⟨ab, e2, r2, f2⟩ : ∃ B, vs 2 = .slice (some ⟨B, 0, none⟩) n n ∧ Row w5 B (List.replicate n (.int .i64 0)) ∧ F 2 = fun b => b = B := hM.good 2 (by decide) rfl
    obtain ⟨ob, e3, r3, f3⟩ : ∃ B, vs 3 = .slice (some ⟨B, 0, none⟩) n n ∧ Row w5 B (List.replicate n (.int .i64 0)) ∧ F 3 = fun b => b = B := hM.good 3 (by decide) rfl
    obtain ⟨wb, e4, r4, f4⟩ : ∃ B, vs 4 = .slice (some ⟨B, 0, none⟩) n n ∧ Row w5 B (List.replicate n (.int .u32 0)) ∧ F 4 = fun b => b = B := hM.good 4 (by decide) rfl
    have hz : w.drew.heap.size = w.heap.size := rfl
    have q0 := fun b h => hM.rng 0 (by decide) rfl b (f0 ▸ h)
    have q1 := hM.rng 1 (by decide) rfl pc (by rw [f1])
    have q2 := hM.rng 2 (by decide) rfl ab (by rw [f2])
    have q3 := hM.rng 3 (by decide) rfl ob (by rw [f3])
    have q4 := hM.rng 4 (by decide) rfl wb (by rw [f4])
    have q5 := q0 sx (.inl rfl)
    have q6 := q0 sb (.inr (.inl rfl))
    have q7 := q0 db (.inr (.inr rfl))
    rw [hz] at q1 q2 q3 q4 q5 q6 q7
    have hlt8 : ∀ i ∈ [w5.heap.size, sx, sb, db, pc, ab, ob, wb], w.heap.size ≤ i ∧ i < w5.heap.size + 1 := by
      have := hM.bel.size
      rw [hz] at this
      simp only [List.mem_cons, List.not_mem_nil, or_false]
      rintro i (rfl | rfl | rfl | rfl | rfl | rfl | rfl | rfl)
      · omega
      · exact ⟨q5.1, by omega⟩
      · exact ⟨q6.1, by omega⟩
      · exact ⟨q7.1, by omega⟩
      · exact ⟨q1.1, by omega⟩
      · exact ⟨q2.1, by omega⟩
      · exact ⟨q3.1, by omega⟩
      · exact ⟨q4.1, by omega⟩
    have d01 := hM.dis 1 0 (by decide) (by decide) rfl rfl (by decide) pc (by rw [f1])
    have d02 := hM.dis 2 0 (by decide) (by decide) rfl rfl (by decide) ab (by rw [f2])
    have d03 := hM.dis 3 0 (by decide) (by decide) rfl rfl (by decide) ob (by rw [f3])
    have d04 := hM.dis 4 0 (by decide) (by decide) rfl rfl (by decide) wb (by rw [f4])
    rw [f0] at d01 d02 d03 d04
    have d12 := hM.dis 1 2 (by decide) (by decide) rfl rfl (by decide) pc (by rw [f1])
    have d13 := hM.dis 1 3 (by decide) (by decide) rfl rfl (by decide) pc (by rw [f1])
    have d14 := hM.dis 1 4 (by decide) (by decide) rfl rfl (by decide) pc (by rw [f1])
    have d23 := hM.dis 2 3 (by decide) (by decide) rfl rfl (by decide) ab (by rw [f2])
    have d24 := hM.dis 2 4 (by decide) (by decide) rfl rfl (by decide) ab (by rw [f2])
    have d34 := hM.dis 3 4 (by decide) (by decide) rfl rfl (by decide) ob (by rw [f3])
    rw [f2] at d12
    rw [f3] at d13 d23
    rw [f4] at d14 d24 d34
    have hnd8 : [w5.heap.size, sx, sb, db, pc, ab, ob, wb].Nodup := by
      simp only [List.nodup_cons, List.mem_cons, List.not_mem_nil, or_false, not_or, not_false_eq_true, List.nodup_nil, and_true]
      exact ⟨⟨Nat.ne_of_gt q5.2, Nat.ne_of_gt q6.2, Nat.ne_of_gt q7.2, Nat.ne_of_gt q1.2, Nat.ne_of_gt q2.2, Nat.ne_of_gt q3.2, Nat.ne_of_gt q4.2⟩, ⟨hra.ne1, hra.ne2, fun e => d01 (.inl e.symm), fun e => d02 (.inl e.symm), fun e => d03 (.inl e.symm), fun e => d04 (.inl e.symm)⟩, ⟨hra.ne3, fun e => d01 (.inr (.inl e.symm)), fun e => d02 (.inr (.inl e.symm)), fun e => d03 (.inr (.inl e.symm)), fun e => d04 (.inr (.inl e.symm))⟩, ⟨fun e => d01 (.inr (.inr e.symm)), fun e => d02 (.inr (.inr e.symm)), fun e => d03 (.inr (.inr e.symm)), fun e => d04 (.inr (.inr e.symm))⟩, ⟨d12, d13, d14⟩, ⟨d23, d24⟩, d34⟩
    clear d01 d02 d03 d04 d12 d13 d14 d23 d24 d34 q0 q1 q2 q3 q4 q5 q6 q7
    dsimp only
    rw [e0, e1, e2, e3, e4]
    refine wpAny_take (i := 11) (v := ?_) rfl (by kernel_rfl) (by kernel_rfl) (by kernel_rfl) (fun _ _ _ h => h) (Or.inl ⟨by rfl, ?_⟩) ?_
    rotate_left
    · (intro w'; go_simp) <;> with_reducible rfl
    refine wpAny_ready (rs := [12]) (by kernel_rfl) (by simp) ?_
    refine AllReady.cons rfl (fun K' hK' => ?_) AllReady.nil
    go_simp
    refine hK' _ _ ?_
    clear hK' K'
    refine wpAny_take (i := 13) (v := ?_) rfl (by kernel_rfl) (by kernel_rfl) (by kernel_rfl) (fun _ _ _ h => h) (Or.inl ⟨by rfl, ?_⟩) ?_
    rotate_left
    · (intro w'; go_simp) <;> with_reducible rfl
    refine wpAny_done (by kernel_rfl) ?_ _
    have hb0 : Below w.heap.size w (w5.alloc (.cells #[.pointer (some ⟨sx, 0, none⟩), .int .i64 0, .slice none 0 0, .slice (some ⟨pc, 0, none⟩) n n, .slice none 0 0, .slice (some ⟨ab, 0, none⟩) n n, .slice (some ⟨ob, 0, none⟩) n n, .slice (some ⟨wb, 0, none⟩) n n] 70)) := ((below_drewN (Below.refl _ w) 1).trans hM.bel).alloc (by have := hM.bel.size; rw [hz] at this; exact this) _
    have hPre : Pre ⟨w5.heap.size, sx, sb, db, 0, pc, 0, ab, ob, wb, 0, 0⟩ n (w5.heap.size + 1) hs (.slice none 0 0) (.slice none 0 0) w (w5.alloc (.cells #[.pointer (some ⟨sx, 0, none⟩), .int .i64 0, .slice none 0 0, .slice (some ⟨pc, 0, none⟩) n n, .slice none 0 0, .slice (some ⟨ab, 0, none⟩) n n, .slice (some ⟨ob, 0, none⟩) n n, .slice (some ⟨wb, 0, none⟩) n n] 70)) :=
      ⟨Row.new' rfl, hra.alloc _, r1.alloc _, r2.alloc _, r3.alloc _, r4.alloc _, hb0, hnd8, hlt8⟩
    have hrd := (HSRC.out.below hb0).readable
    rw [HNN.out] at hrd
    revert hPre hrd
    generalize w5.alloc (.cells #[.pointer (some ⟨sx, 0, none⟩), .int .i64 0, .slice none 0 0, .slice (some ⟨pc, 0, none⟩) n n, .slice none 0 0, .slice (some ⟨ab, 0, none⟩) n n, .slice (some ⟨ob, 0, none⟩) n n, .slice (some ⟨wb, 0, none⟩) n n] 70) = W
    generalize w5.heap.size = X
    intro hPre hrd
    clear hM hra r1 r2 r3 r4 f0 f1 f2 f3 f4 e0 e1 e2 e3 e4 hnd8 hlt8 hb0 m1 m2 HN HSRC F vs hz
    have c2 := hPre.row.cell (i := 2) rfl
    have hXW := hPre.row.lt
    dsimp only at c2 hXW
    have HP := Lib.hid hPre
    clear hPre
    go_upto_region 4 with (at_builtin; refine wpList_append_src rfl (.tmp 27) (.tmp 28) 22 rfl (X + 1) 3 (.int .i64 0) 1 8 Try.underlying22 info_i rfl (by decide) (.slice none 0 0) 0 [] rfl (World.ownsRow_nil _ _ _ _) (.slice a n c) n (ints .i64 hs) rfl hrd (by simp [ints, HNN.out]) (by intro u hu; simp [ints] at hu; obtain ⟨x, _, rfl⟩ := hu; rfl) (by unfold maxLen; omega) (by omega) (by omega) ?_; intro v7 w7 hown7 u7 near7; rw [Nat.zero_add, List.nil_append] at hown7; obtain ⟨g, cap, rfl, hgX, hrow⟩ := owned hown7 (by omega); have row7 := HP.out.row.upd u7 (fun e => by simp [Value.ownBlock] at e); have t7 := row7.cell (i := 2) rfl; have g7 := row7.frozen 2; dsimp only at t7 g7; clear near7 hown7)
    have P8 := HP.out.upd (j := 2) (v' := .slice (some ⟨g, 0, none⟩) n cap) u7 (fun i e => by simp [Value.ownBlock] at e) (.inl ⟨rfl, rfl, rfl⟩)
    have K8 := hrow.upd (Upd.one w7 X 2 (.slice (some ⟨g, 0, none⟩) n cap)) (show ¬ g = X by omega)
    have hu7 := u7.size
    dsimp only at P8
    obtain ⟨W8, hW8⟩ : ∃ W8, w7.setCell ⟨X, 2, none⟩ (.slice (some ⟨g, 0, none⟩) n cap) = W8 := ⟨_, rfl⟩
    rw [hW8] at P8 K8 ⊢
    clear t7 g7 row7 hrow c2 HP hrd u7 hW8
    obtain ⟨M, hM⟩ : ∃ M, W8.heap.size = M := ⟨_, rfl⟩
    have hMw0 : M ≤ W8.heap.size := by omega
    have hgM : g < M := by have := K8.lt; omega
    have hall := fun i hi => (P8.lt i hi).2
    have HALL := Lib.hid hall
    clear hall
    have P9 := P8.mono (M' := M) (by have := P8.row.lt; dsimp only at this; omega)
    clear P8
    have own9 := World.ownsRow_nil W8 M 3 1
    clear hM hu7
    go_wp2_with fail
    go_loopw [7] (fun i wr => ∃ j : Nat, j ≤ n ∧ i = .int .i64 j ∧ ∃ v4, Pre ⟨X, sx, sb, db, 0, pc, 0, ab, ob, wb, 0, 0⟩ n M hs (.slice (some ⟨g, 0, none⟩) n cap) v4 w wr ∧ RowP wr g (ints .i64 hs) ∧ wr.ownsRow M 3 1 v4 j (ints .i64 (nds j)) ∧ M ≤ wr.heap.size) (fun i _ => n - (intOf i).toNat)
    case atStart => exact ⟨0, Nat.zero_le _, rfl, .slice none 0 0, P9, K8, own9, hMw0⟩
    case round =>
      obtain ⟨j, hj, rfl, v4, PR, KR, hown, hMw⟩ := hrel
      clear P9 K8 own9
      by_cases hlt : j < n
      · obtain ⟨va, vc, rfl⟩ := owned_len1 hown
        have c4 := PR.row.cell (i := 4) rfl
        have hlt' : (j : Int) < (n : Int) := by omega
        have hrowX : Row wr X [.pointer (some ⟨sx, 0, none⟩), .int .i64 0, .slice (some ⟨g, 0, none⟩) n cap, .slice (some ⟨pc, 0, none⟩) n n, .slice va j vc, .slice (some ⟨ab, 0, none⟩) n n, .slice (some ⟨ob, 0, none⟩) n n, .slice (some ⟨wb, 0, none⟩) n n] := PR.row
        have HRX := Lib.hid hrowX
        have HPR := Lib.hid PR
        have HKR := Lib.hid KR
        have hxw : X < wr.heap.size := hrowX.lt
        have hxm : X < M := (PR.lt X (by simp)).2
        dsimp only at c4
        clear PR KR hrowX
        go_wp2_with (at_builtin; refine wpList_append_near rfl (.tmp 41) (.tmp 44) 22 rfl M 3 (.int .i64 0) 1 8 Try.underlying22 info_i rfl (by decide) (.slice va j vc) j (ints .i64 (nds j)) rfl (own_upd hown ((Upd.refl (fun _ => False) _).alloc _) (fun _ _ => id)) ⟨wr.heap.size, 0, none⟩ 1 1 [.int .i64 ((j : Int) + 1)] rfl rfl (cell_newAt _ _ _ _ rfl) (one_cell rfl) (by unfold maxLen; omega) (by omega) (by simp; omega) ?_; intro v7 w7 hown7 hg7 near7; obtain ⟨va7, vc7, rfl⟩ := owned_len1 hown7; have u7 : Upd (fun i => (Value.slice va j vc).ownBlock = some i) wr w7 := ((Upd.refl _ _).alloc _).trans (Upd.grown hg7); have row7 := HRX.out.upd u7 (fun e => by have := (own_lt hown e).2; omega); have t7 := row7.cell (i := 4) rfl; have g7 := row7.frozen 4; clear hg7 near7)
        have P8 := HPR.out.upd (j := 4) (v' := .slice va7 (j + 1) vc7) u7 (fun b hb => by have := (own_lt hown hb).2; omega) (.inr ⟨rfl, rfl, rfl⟩)
        have K8 := (HKR.out.upd u7 (fun e => by have := (own_lt hown e).2; omega)).upd (Upd.one w7 X 4 (.slice va7 (j + 1) vc7)) (show ¬ g = X by omega)
        have own8 := own_upd hown7 (Upd.one w7 X 4 (.slice va7 (j + 1) vc7)) (fun b hb e => by have := (own_lt hown7 hb).2; omega)
        have hz8 : M ≤ (w7.setCell ⟨X, 4, none⟩ (.slice va7 (j + 1) vc7)).heap.size := by have := (Upd.one w7 X 4 (.slice va7 (j + 1) vc7)).size; have := u7.size; omega
        go_round
        case rel => exact ⟨j + 1, by omega, by go_num, .slice va7 (j + 1) vc7, P8, K8, by rw [nds_next]; simpa [ints] using own8, hz8⟩
        case measure => simp [intOf]; omega
      · obtain rfl : j = n := by omega
        obtain ⟨nb, ncap, rfl, hnb, hrp⟩ := owned hown (by omega)
        go_wp2_with fail
        go_ret
        have lg : ∀ i ∈ [X, sx, sb, db, pc, ab, ob, wb], ¬ i = g := fun i hi => Nat.ne_of_lt (Nat.lt_of_lt_of_le (HALL.out i hi) hgX)
        have ln : ∀ i ∈ [X, sx, sb, db, pc, ab, ob, wb], ¬ i = nb := fun i hi => Nat.ne_of_lt (Nat.lt_of_lt_of_le (PR.lt i hi).2 hnb)
        have lgn : ¬ g = nb := Nat.ne_of_lt (Nat.lt_of_lt_of_le hgM hnb)
        have hX0 : w.heap.size ≤ X := (PR.lt X (by simp)).1
        have hXM : X < M := (PR.lt X (by simp)).2
        refine ⟨⟨X, sx, sb, db, g, pc, nb, ab, ob, wb, cap, ncap⟩, rfl, ⟨by simpa using PR.row, PR.seat, ?_, ?_, ?_, ?_, ?_, ?_, ?_, ?_, ?_⟩, ?_, PR.bel⟩
        · rw [← HNN.out, col_c]; exact KR
        · rw [col_z _ _ _ _ (fun _ _ => rfl)]; exact PR.prow
        · rw [col_n]; exact hrp
        · rw [col_z _ _ _ _ (fun _ _ => rfl)]; exact PR.arow
        · rw [col_z _ _ _ _ (fun _ _ => rfl)]; exact PR.orow
        · rw [col_z _ _ _ _ (fun _ _ => rfl)]; exact PR.wrow
        · simp [news_len]
        · have knd := PR.nd
          simp only [List.nodup_cons, List.mem_cons, List.not_mem_nil, or_false, not_or, not_false_eq_true, List.nodup_nil, and_true] at knd
          obtain ⟨⟨x1, x2, x3, x4, x5, x6, x7⟩, ⟨y1, y2, y3, y4, y5, y6⟩, ⟨z1, z2, z3, z4, z5⟩, ⟨u1, u2, u3, u4⟩, ⟨v1, v2, v3⟩, ⟨t1, t2⟩, s1⟩ := knd
          simp only [Bk.all, List.nodup_cons, List.mem_cons, List.not_mem_nil, or_false, not_or, not_false_eq_true, List.nodup_nil, and_true]
          exact ⟨⟨x1, x2, x3, lg _ (by simp), x4, ln _ (by simp), x5, x6, x7⟩, ⟨y1, y2, lg _ (by simp), y3, ln _ (by simp), y4, y5, y6⟩, ⟨z1, lg _ (by simp), z2, ln _ (by simp), z3, z4, z5⟩, ⟨lg _ (by simp), u1, ln _ (by simp), u2, u3, u4⟩, ⟨fun e => lg pc (by simp) e.symm, lgn, fun e => lg ab (by simp) e.symm, fun e => lg ob (by simp) e.symm, fun e => lg wb (by simp) e.symm⟩, ⟨ln _ (by simp), v1, v2, v3⟩, ⟨fun e => ln ab (by simp) e.symm, fun e => ln ob (by simp) e.symm, fun e => ln wb (by simp) e.symm⟩, ⟨t1, t2⟩, s1⟩
        · rw [← HNN.out]; exact news_ok hs _ (Nat.le_refl _) (by have := HNN.out; omega) HOK.out
        · intro i hi
          have hgx := hgX
          simp only [fm, Bk.all, List.mem_cons, List.not_mem_nil, or_false] at hi
          rcases hi with rfl | rfl | rfl | rfl | rfl | rfl | rfl | rfl | rfl | rfl
          · exact (PR.lt _ (by simp)).1
          · exact (PR.lt _ (by simp)).1
          · exact (PR.lt _ (by simp)).1
          · exact (PR.lt _ (by simp)).1
          · clear lg ln lgn; omega
          · exact (PR.lt _ (by simp)).1
          · clear lg ln lgn; omega
          · exact (PR.lt _ (by simp)).1
          · exact (PR.lt _ (by simp)).1
          · exact (PR.lt _ (by simp)).1
end Go.Proofs.Ytmiidiijhhjabaa.Ref15
