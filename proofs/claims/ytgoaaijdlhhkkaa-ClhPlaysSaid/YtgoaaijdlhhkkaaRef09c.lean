/- The document's seats (reference of layer 9): what New makes. -/
import Derived.Test.YtgoaaijdlhhkkaaRef09
namespace Go.Proofs.Ytgoaaijdlhhkkaa.Ref09
open Go Go.RowKit Go.Proofs.Ytgoaaijdlhhkkaa.Heap Go.Proofs.Ytgoaaijdlhhkkaa.Seat

theorem info_int9 : (Try.prog.info? 3).map (fun i => (i.zero, i.size, i.bytes)) = some (some (.int .i64 0), 1, 8) := by kernel_rfl
/-- Two slices that are made side by side. -/
structure Two (w : World) (B x : Nat) (k : Nat) (vs vd : Value) (td pd : Bool) : Prop where
  top : Row w x [vs, vd, .bool td, .bool pd]
  s : w.ownsRow B 3 1 vs k (List.replicate k (.int .i64 0))
  d : w.ownsRow B 3 1 vd k (List.replicate k (.int .i64 (-1)))
  xB : x < B
  ne : ∀ b, vs.ownBlock = some b → vd.ownBlock ≠ some b

theorem own_ne {w : World} {B x : Nat} {e : TypeId} {size : Nat} {v : Value} {n : Nat} {xs : List Value} (h : w.ownsRow B e size v n xs) (hx : x < B) : ∀ k, v.ownBlock = some k → ¬ k = x := by
  intro k hk e; have := (own_lt h hk).2; omega

/-- The first slice is appended to. -/
theorem Two.first {w w1 : World} {B x k : Nat} {vs vd v' : Value} {td pd : Bool} {o : Obj} (h : Two w B x k vs vd td pd) 
    (hg : (w.alloc o).grownBy w1 vs.ownBlock) (hn : v'.ownBlock = vs.ownBlock ∨ ∃ g, (w.alloc o).heap.size ≤ g ∧ v'.ownBlock = some g) :
    Row w1 x [vs, vd, .bool td, .bool pd] ∧ w1.ownsRow B 3 1 vd k (List.replicate k (.int .i64 (-1))) ∧ (∀ b, v'.ownBlock = some b → vd.ownBlock ≠ some b) := by
  have hu := Upd.grown hg
  refine ⟨(h.top.alloc o).upd hu (fun e => ?_), own_upd (h.d.alloc o) hu (fun b hb e => h.ne b e hb), fun b hb e => ?_⟩
  · exact own_ne h.s h.xB x e rfl
  · rcases hn with hn | ⟨g, hg1, hg2⟩
    · rw [hn] at hb; exact h.ne b hb e
    · rw [hg2] at hb; simp at hb; subst hb
      have := (own_lt (h.d.alloc o) e).1
      omega

theorem r2f (w : World) (x : Nat) (v : Value) (B : Nat) {e : TypeId} {vd : Value} {k : Nat} {l : List Value} (h : w.ownsRow B e 1 vd k l) (hx : x < B) (o : Obj) : ((w.setCell ⟨x, 0, none⟩ v).alloc o).ownsRow B e 1 vd k l :=
  (own_upd h (Upd.one w x 0 v) (fun b hb => own_ne h hx b hb)).alloc o

theorem cell_new1s (w : World) (x i : Nat) (v' v : Value) (T : TypeId) : ∀ j u, [v][j]? = some u → ((w.setCell ⟨x, i, none⟩ v').alloc (.cells #[v] T)).cell? ((⟨w.heap.size, 0, none⟩ : Addr).add j) = some u := by
  have := cell_new1 (w.setCell ⟨x, i, none⟩ v') v T
  simpa using this
/-- The second slice is appended to: the row in between, and both behind the last store. -/
theorem Two.second {w1 w2 : World} {B x k : Nat} {vs vd v' v2 : Value} {td pd : Bool} {o : Obj} (hx : x < B) (r1 : Row w1 x [vs, vd, .bool td, .bool pd]) (r2 : w1.ownsRow B 3 1 vd k (List.replicate k (.int .i64 (-1))))
    (r3 : ∀ b, v'.ownBlock = some b → vd.ownBlock ≠ some b) (hown : w1.ownsRow B 3 1 v' (k + 1) (List.replicate k (.int .i64 0) ++ [.int .i64 0]))
    (hown2 : w2.ownsRow B 3 1 v2 (k + 1) (List.replicate k (.int .i64 (-1)) ++ [.int .i64 (-1)])) (hg : ((w1.setCell ⟨x, 0, none⟩ v').alloc o).grownBy w2 vd.ownBlock)
    (hn : v2.ownBlock = vd.ownBlock ∨ ∃ g, ((w1.setCell ⟨x, 0, none⟩ v').alloc o).heap.size ≤ g ∧ v2.ownBlock = some g) :
    Row w2 x [v', vd, .bool td, .bool pd] ∧ Two (w2.setCell ⟨x, 1, none⟩ v2) B x (k + 1) v' v2 td pd := by
  have hu := Upd.grown hg
  have t0 : Row (w1.setCell ⟨x, 0, none⟩ v') x [v', vd, .bool td, .bool pd] := by simpa using r1.set 0 v'
  have t1 : Row w2 x [v', vd, .bool td, .bool pd] := (t0.alloc o).upd hu (fun e => own_ne r2 hx x e rfl)
  have o1 : ((w1.setCell ⟨x, 0, none⟩ v').alloc o).ownsRow B 3 1 v' (k + 1) (List.replicate k (.int .i64 0) ++ [.int .i64 0]) := (own_upd hown (Upd.one w1 x 0 v') (own_ne hown hx)).alloc o
  have o2 : w2.ownsRow B 3 1 v' (k + 1) (List.replicate k (.int .i64 0) ++ [.int .i64 0]) := own_upd o1 hu (fun b hb e => r3 b hb e)
  refine ⟨t1, by simpa using t1.set 1 v2, ?_, ?_, hx, fun b hb e => ?_⟩
  · rw [List.replicate_succ']; exact own_upd o2 (Upd.one w2 x 1 v2) (own_ne o2 hx)
  · rw [List.replicate_succ']; exact own_upd hown2 (Upd.one w2 x 1 v2) (own_ne hown2 hx)
  · rcases hn with hn | ⟨g, hg1, hg2⟩
    · rw [hn] at e; exact r3 b hb e
    · rw [hg2] at e; simp at e; subst e
      have := (own_lt o1 hb).1
      omega

set_option maxHeartbeats 2000000 in
theorem rnew (w : World) (n : Nat) (td pd : Bool) (h1 : 1 ≤ n) (h2 : n ≤ 64) :
    Calls Try.prog 45 #[.int .i64 n, .bool td, .bool pd] w fun e w' => ∃ x sb db, e = .returned (.pointer (some ⟨x, 0, none⟩)) ∧
      RAt w' x sb db (List.replicate n (0, -1)) td pd ∧ w.heap.size ≤ x ∧ w.heap.size ≤ sb ∧ w.heap.size ≤ db ∧ Below w.heap.size w w' := by
  go_enter Try.func45, Try.ntmps45
  go_wp2
  go_loopw [8] (fun i wr => ∃ k : Nat, k ≤ n ∧ i = .int .i64 k ∧ ∃ vs vd, Two wr (w.heap.size + 1) w.heap.size k vs vd td pd ∧ Below w.heap.size w wr ∧ w.heap.size + 1 ≤ wr.heap.size) (fun i _ => n - (intOf i).toNat)
  case atStart =>
    exact ⟨0, Nat.zero_le _, rfl, .slice none 0 0, .slice none 0 0, ⟨Row.new' rfl, World.ownsRow_nil _ _ _ _, World.ownsRow_nil _ _ _ _, by omega, fun b hb => by simp [Value.ownBlock] at hb⟩, (Below.refl _ _).alloc (Nat.le_refl _) _, by simp⟩
  case round =>
    obtain ⟨k, hk, rfl, vs, vd, two, hbel, hsz⟩ := hrel
    by_cases hlt : k < n
    · have h0 := two.top.cell (i := 0) rfl
      have hx := two.top.lt
      go_wp2_with (first
        | (at_builtin; refine wpList_append_near rfl (.tmp 22) (.tmp 23) 22 rfl (w.heap.size + 1) 3 (.int .i64 0) 1 8 Try.underlying22 info_int9 rfl (by decide) vs k (List.replicate k (.int .i64 0)) rfl (two.s.alloc _) ⟨wr.heap.size, 0, none⟩ 1 1 [.int .i64 0] rfl rfl (cell_new1 _ _ _) (one_cell rfl) (by unfold maxLen; omega) (by omega) (by simp; omega) ?_; intro v' w1 hown hgr hnear; obtain ⟨g, cap, rfl, hgB, hrow⟩ := owned hown (by omega); obtain ⟨r1, r2, r3⟩ := two.first hgr hnear; have c0 := r1.cell (i := 0) rfl; have c1 := r1.cell (i := 1) rfl; have z0 := r1.frozen 0; have z1 := r1.frozen 1; have s1 := hgr.size; clear hrow hnear)
        | (at_builtin; refine wpList_append_near rfl (.tmp 31) (.tmp 32) 22 rfl (w.heap.size + 1) 3 (.int .i64 0) 1 8 Try.underlying22 info_int9 rfl (by decide) vd k (List.replicate k (.int .i64 (-1))) rfl (r2f _ _ _ _ r2 (Nat.lt_succ_self _) _) ⟨w1.heap.size, 0, none⟩ 1 1 [.int .i64 (-1)] rfl rfl (cell_new1s _ _ _ _ _ _) (one_cell rfl) (by unfold maxLen; omega) (by omega) (by simp at s1 ⊢; omega) ?_; intro v2 w2 hown2 hgr2 hnear2; obtain ⟨g2, cap2, rfl, hgB2, hrow2⟩ := owned hown2 (by omega); obtain ⟨q1, q2⟩ := Two.second (Nat.lt_succ_self _) r1 r2 r3 hown hown2 hgr2 hnear2; have c2 := q1.cell (i := 1) rfl; have z2 := q1.frozen 1; have B1 : Below w.heap.size w w1 := (hbel.alloc (by omega) _).grown hgr (by simp; omega) (fun b hb => by have := (own_lt two.s hb).2; omega); have B2 : Below w.heap.size w w2 := ((B1.setCell (p := ⟨w.heap.size, 0, none⟩) (Nat.le_refl _) _).alloc (by simp at s1 ⊢; omega) _).grown hgr2 (by simp at s1 ⊢; omega) (fun b hb => by have := (own_lt r2 hb).2; omega); have s2 := hgr2.size; clear hrow2 hnear2))
      go_roundw
      case rel => exact ⟨k + 1, by omega, by go_num, _, _, q2, B2.setCell (Nat.le_refl _) _, by simp at s1 s2 ⊢; omega⟩
      case measure => simp [intOf]; omega
    · obtain rfl : k = n := by omega
      obtain ⟨sb, cs, hvs, hsB, hrs⟩ := owned two.s (by omega)
      obtain ⟨db, cd, hvd, hdB, hrd⟩ := owned two.d (by omega)
      have hne : sb ≠ db := by
        rintro rfl
        exact two.ne sb (by rw [hvs]; rfl) (by rw [hvd]; rfl)
      have ht := two.top
      rw [hvs, hvd] at ht
      clear two
      go_wp2
      go_ret
      exact ⟨_, sb, db, rfl, ⟨⟨cs, cd, by simpa using ht⟩, by simpa [sts] using hrs, by simpa [dls] using hrd, by omega, by omega, hne⟩, Nat.le_refl _, by omega, by omega, hbel⟩
end Go.Proofs.Ytgoaaijdlhhkkaa.Ref09
