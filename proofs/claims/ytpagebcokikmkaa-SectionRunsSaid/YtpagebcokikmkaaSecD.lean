/- Layer 22 (section): the runner, step by step. -/
import Derived.Test.YtpagebcokikmkaaSecC
namespace Go.Proofs.Ytpagebcokikmkaa.Sec
open Go Go.RowKit Go.Deep Go.Proofs.Ytpagebcokikmkaa.Heap Go.Proofs.Ytpagebcokikmkaa.Open

/-- A runner: its deeds (its own), how many it did, its number. -/
structure RunAt (w : World) (r : Nat) (v : Value) (xs : List D) (k : Nat) (n : Int) : Prop where
  top : Row w r [v, .int .i64 k, .int .u32 n]
  own : w.ownsRow 0 30 3 v xs.length (flat xs)
  ne : v.ownBlock ≠ some r

theorem own_base {w : World} {B B' : Nat} {e : TypeId} {size : Nat} {v : Value} {n : Nat} {l : List Value} (h : w.ownsRow B e size v n l) (hB : B' ≤ B) : w.ownsRow B' e size v n l := by
  obtain ⟨h1, h2⟩ := h
  refine ⟨h1, ?_⟩
  rcases h2 with h2 | ⟨g, cap, cur, hv, hb, hr⟩
  · exact .inl h2
  · exact .inr ⟨g, cap, cur, hv, by omega, hr⟩
theorem RunAt.upd {S : Nat → Prop} {w w' : World} {r : Nat} {v : Value} {xs : List D} {k : Nat} {n : Int} (h : RunAt w r v xs k n) (hu : Upd S w w') (h1 : ¬ S r) (h2 : ∀ b, v.ownBlock = some b → ¬ S b) : RunAt w' r v xs k n :=
  ⟨h.top.upd hu h1, own_upd h.own hu h2, h.ne⟩
theorem RunAt.alloc {w : World} {r : Nat} {v : Value} {xs : List D} {k : Nat} {n : Int} (h : RunAt w r v xs k n) (o : Obj) : RunAt (w.alloc o) r v xs k n := ⟨h.top.alloc o, h.own.alloc o, h.ne⟩
theorem RunAt.drewN {w : World} {r : Nat} {v : Value} {xs : List D} {k : Nat} {n : Int} (h : RunAt w r v xs k n) (m : Nat) : RunAt (w.drewN m) r v xs k n := ⟨h.top.drewN m, h.own, h.ne⟩

theorem begin_all (w : World) (v : Value) (xs : List D) (h : Src w v xs) (hfit : xs.length * 24 ≤ 140737488351232) : Calls Try.prog 12 #[v] w fun e w' =>
    ∃ r u, e = .returned (.pointer (some ⟨r, 0, none⟩)) ∧ RunAt w' r u xs 0 0 ∧ w.heap.size ≤ r ∧ (∀ b, u.ownBlock = some b → w.heap.size ≤ b) ∧ Upd (fun _ => False) w w' := by
  go_enter Try.func12, Try.ntmps12
  go_wp2_with fail
  refine (clone_all w v xs h hfit).mono ?_
  rintro e w1 ⟨u, rfl, hown, u1⟩
  have hs := u1.size
  have hb := fun b (hb : u.ownBlock = some b) => own_lt hown hb
  obtain ⟨a, cap, rfl⟩ := owned_len hown
  go_wp2
  go_ret
  exact ⟨_, _, rfl, ⟨Row.new' rfl, own_base (hown.alloc _) (Nat.zero_le _), fun e => by have := hb _ e; omega⟩, hs, fun b e => (hb b e).2, u1.alloc _⟩

/-- A deed, done. -/
def one (d : D) (s : List Int × Int) : List Int × Int :=
  if d.k = 1 then (s.1, s.1.getD d.c.toNat 0) else if d.k = 2 then (s.1, (s.2 + d.n) % 4294967296) else if d.k = 3 then (s.1, (s.2 * d.n) % 4294967296) else (s.1.set d.c.toNat s.2, s.2)
theorem one1 (c n : Int) (s : List Int × Int) : one ⟨1, c, n⟩ s = (s.1, s.1.getD c.toNat 0) := by simp [one]
theorem one2 (c n : Int) (s : List Int × Int) : one ⟨2, c, n⟩ s = (s.1, (s.2 + n) % 4294967296) := by simp [one]
theorem one3 (c n : Int) (s : List Int × Int) : one ⟨3, c, n⟩ s = (s.1, (s.2 * n) % 4294967296) := by simp [one]
theorem one4 (c n : Int) (s : List Int × Int) : one ⟨4, c, n⟩ s = (s.1.set c.toNat s.2, s.2) := by simp [one]
theorem and15 : ∀ m : Nat, m < 16 → bits .and .i64 (m : Int) 15 = m := by
  intro m hm
  have : ∀ m : Fin 16, bits .and .i64 ((m : Nat) : Int) 15 = ((m : Nat) : Int) := by decide +kernel
  exact this ⟨m, hm⟩
theorem RunAt.set {w : World} {r : Nat} {v : Value} {xs : List D} {k : Nat} {n : Int} (h : RunAt w r v xs k n) (k' : Nat) : RunAt (w.setCell ⟨r, 1, none⟩ (.int .i64 k')) r v xs k' n := by
  refine ⟨by simpa using h.top.set 1 (.int .i64 k'), own_upd h.own (Upd.one _ _ _ _) (fun b hb e => h.ne (by rw [hb, e])), h.ne⟩
theorem RunAt.setN {w : World} {r : Nat} {v : Value} {xs : List D} {k : Nat} {n : Int} (h : RunAt w r v xs k n) (n' : Int) : RunAt (w.setCell ⟨r, 2, none⟩ (.int .u32 n')) r v xs k n' := by
  refine ⟨by simpa using h.top.set 2 (.int .u32 n'), own_upd h.own (Upd.one _ _ _ _) (fun b hb e => h.ne (by rw [hb, e])), h.ne⟩

theorem may_cases {d : D} (h : d.may = true) : ((d.k = 2 ∨ d.k = 3) ∧ d.c = 0) ∨ ((d.k = 1 ∨ d.k = 4) ∧ ∃ m : Nat, d.c = m ∧ m < 16 ∧ d.n = 0) := by
  unfold D.may at h
  split at h
  · rename_i h1; simp at h; exact .inl ⟨h1, h⟩
  · simp at h; exact .inr ⟨by omega, d.c.toNat, by omega, by omega, by omega⟩

theorem step_end (w : World) (r cb : Nat) (v : Value) (xs : List D) (n : Int) (h : RunAt w r v xs xs.length n) : Calls Try.prog 15 #[.pointer (some ⟨r, 0, none⟩), .pointer (some ⟨cb, 0, none⟩)] w fun e w' => e = .returned (.bool false) ∧ Upd (fun _ => False) w w' := by
  obtain ⟨a, cap, rfl⟩ := owned_len h.own
  have c0 := h.top.cell (i := 0) rfl
  have c1 := h.top.cell (i := 1) rfl
  clear h
  go_enter Try.func15, Try.ntmps15
  go_wp2_with fail
  go_quiet (fail)
  go_wp2
  go_ret
  exact ⟨rfl, (Upd.refl _ _).drewN _⟩

theorem fresh3 (w : World) (m : Nat) (o : Obj) (a b c : Value) : Upd (fun _ => False) w (((((w.drewN m).alloc o).setCell ⟨w.heap.size, 0, none⟩ a).setCell ⟨w.heap.size, 1, none⟩ b).setCell ⟨w.heap.size, 2, none⟩ c) :=
  Upd.setCell (p := ⟨w.heap.size, 2, none⟩) (Upd.setCell (p := ⟨w.heap.size, 1, none⟩) (Upd.setCell (p := ⟨w.heap.size, 0, none⟩) (((Upd.refl (fun _ => False) w).drewN m).alloc o) (.inr (Nat.le_refl _)) a) (.inr (Nat.le_refl _)) b) (.inr (Nat.le_refl _)) c

theorem fin_num {w W : World} {r cb : Nat} {v : Value} {xs : List D} {k : Nat} {n : Int} {l : List Value} (h : RunAt w r v xs k n) (hC : Row w cb l) (hne : r ≠ cb) (u : Hid (Upd (fun _ => False) w W)) (n' : Int) :
    RunAt (((W.setCell ⟨r, 1, none⟩ (.int .i64 ((k : Int) + 1))).setCell ⟨r, 2, none⟩ (.int .u32 n')).drew) r v xs (k + 1) n' ∧ Row (((W.setCell ⟨r, 1, none⟩ (.int .i64 ((k : Int) + 1))).setCell ⟨r, 2, none⟩ (.int .u32 n')).drew) cb l ∧ Upd (fun i => i = r ∨ i = cb) w (((W.setCell ⟨r, 1, none⟩ (.int .i64 ((k : Int) + 1))).setCell ⟨r, 2, none⟩ (.int .u32 n')).drew) :=
  ⟨((((h.upd u.out id (fun _ _ => id)).set (k + 1)).setN n').drewN 1), (((hC.upd u.out id).set_ne hne.symm 1 _).set_ne hne.symm 2 _).drew,
    (Upd.setCell (p := ⟨r, 2, none⟩) (Upd.setCell (p := ⟨r, 1, none⟩) (u.out.mono (fun _ _ => False.elim)) (.inl (.inl rfl)) _) (.inl (.inl rfl)) _).drew⟩

theorem fin_num0 {w W : World} {r cb : Nat} {v : Value} {xs : List D} {k : Nat} {n : Int} {l : List Value} (h : RunAt w r v xs k n) (hC : Row w cb l) (hne : r ≠ cb) (u : Hid (Upd (fun _ => False) w W)) (n' : Int) :
    RunAt ((W.setCell ⟨r, 1, none⟩ (.int .i64 ((k : Int) + 1))).setCell ⟨r, 2, none⟩ (.int .u32 n')) r v xs (k + 1) n' ∧ Row ((W.setCell ⟨r, 1, none⟩ (.int .i64 ((k : Int) + 1))).setCell ⟨r, 2, none⟩ (.int .u32 n')) cb l ∧
      Upd (fun i => i = r ∨ i = cb) w ((W.setCell ⟨r, 1, none⟩ (.int .i64 ((k : Int) + 1))).setCell ⟨r, 2, none⟩ (.int .u32 n')) :=
  ⟨(((h.upd u.out id (fun _ _ => id)).set (k + 1)).setN n'), (((hC.upd u.out id).set_ne hne.symm 1 _).set_ne hne.symm 2 _),
    (Upd.setCell (p := ⟨r, 2, none⟩) (Upd.setCell (p := ⟨r, 1, none⟩) (u.out.mono (fun _ _ => False.elim)) (.inl (.inl rfl)) _) (.inl (.inl rfl)) _)⟩
theorem fin_cell {w W : World} {r cb : Nat} {v : Value} {xs : List D} {k : Nat} {n : Int} {cs : List Int} (h : RunAt w r v xs k n) (hC : Row w cb (ints .u32 cs)) (hne : r ≠ cb) (hb : ∀ b, v.ownBlock = some b → b ≠ r ∧ b ≠ cb) (u : Hid (Upd (fun _ => False) w W)) (m : Nat) (x : Int) :
    RunAt ((W.setCell ⟨r, 1, none⟩ (.int .i64 ((k : Int) + 1))).setCell ⟨cb, m, none⟩ (.int .u32 x)).drew r v xs (k + 1) n ∧ Row ((W.setCell ⟨r, 1, none⟩ (.int .i64 ((k : Int) + 1))).setCell ⟨cb, m, none⟩ (.int .u32 x)).drew cb (ints .u32 (cs.set m x)) ∧
      Upd (fun i => i = r ∨ i = cb) w ((W.setCell ⟨r, 1, none⟩ (.int .i64 ((k : Int) + 1))).setCell ⟨cb, m, none⟩ (.int .u32 x)).drew :=
  ⟨(((h.upd u.out id (fun _ _ => id)).set (k + 1)).upd (Upd.one _ cb m _) hne (fun b e => (hb b e).2)).drewN 1, by rw [ints_set]; exact (((hC.upd u.out id).set_ne hne.symm 1 _).set m _).drew,
    (Upd.setCell (p := ⟨cb, m, none⟩) (Upd.setCell (p := ⟨r, 1, none⟩) (u.out.mono (fun _ _ => False.elim)) (.inl (.inl rfl)) _) (.inl (.inr rfl)) _).drew⟩

set_option maxHeartbeats 1000000 in
theorem step_one (w : World) (r cb : Nat) (v : Value) (xs : List D) (k : Nat) (n : Int) (cs : List Int) (h : RunAt w r v xs k n) (hC : Row w cb (ints .u32 cs)) (h16 : cs.length = 16) (hne : r ≠ cb) (hnb : v.ownBlock ≠ some cb) (hk : k < xs.length)
    (hm : (xs.getD k default).may = true) : Calls Try.prog 15 #[.pointer (some ⟨r, 0, none⟩), .pointer (some ⟨cb, 0, none⟩)] w fun e w' =>
      e = .returned (.bool true) ∧ RunAt w' r v xs (k + 1) (one (xs.getD k default) (cs, n)).2 ∧ Row w' cb (ints .u32 (one (xs.getD k default) (cs, n)).1) ∧ Upd (fun i => i = r ∨ i = cb) w w' := by
  obtain ⟨g, cap, rfl, -, hg, hcell⟩ := owned_flat h.own (by omega)
  obtain ⟨c0, c1, c2⟩ := hcell k hk
  have z0 := h.top.cell (i := 0) rfl
  have z1 := h.top.cell (i := 1) rfl
  have hrl := h.top.lt
  have hcl := hC.lt
  obtain ⟨d, hd⟩ : ∃ d, xs.getD k default = d := ⟨_, rfl⟩
  rw [hd] at c0 c1 c2 hm ⊢
  obtain ⟨dk, dc, dn⟩ := d
  have hk' : (k : Int) < xs.length := by omega
  have hb63 : xs.length ≤ 9223372036854775807 := by
    rcases h.own.2 with ⟨e, _⟩ | ⟨_, _, _, e, _, _, h3, h4, _⟩
    · simp at e
    · unfold maxLen at h4; omega
  have q0 := fun n o => ((h.top.drewN n).alloc o).cell (i := 0) rfl
  have q1 := fun n o => ((h.top.drewN n).alloc o).cell (i := 1) rfl
  have q2 := fun n o => ((h.top.drewN n).alloc o).cell (i := 2) rfl
  have y1 := fun n o i => ((h.top.drewN n).alloc o).frozen i
  have y2 := fun n o i => ((hC.drewN n).alloc o).frozen i
  have s0 : ∀ n (a b c : Value) T, ((w.drewN n).alloc (.cells #[a, b, c] T)).cell? ⟨w.heap.size, 0, none⟩ = some a := fun n a b c T => (Row.new' (w := w.drewN n) rfl).cell (i := 0) rfl
  have s1 : ∀ n (a b c : Value) T, ((w.drewN n).alloc (.cells #[a, b, c] T)).cell? ⟨w.heap.size, 1, none⟩ = some b := fun n a b c T => (Row.new' (w := w.drewN n) rfl).cell (i := 1) rfl
  have s2 : ∀ n (a b c : Value) T, ((w.drewN n).alloc (.cells #[a, b, c] T)).cell? ⟨w.heap.size, 2, none⟩ = some c := fun n a b c T => (Row.new' (w := w.drewN n) rfl).cell (i := 2) rfl
  have t0 : ∀ n i (a b c : Value) T, ((w.drewN n).alloc (.cells #[a, b, c] T)).frozen? ⟨w.heap.size, i, none⟩ = false := fun n i a b c T => (Row.new' (w := w.drewN n) rfl).frozen i
  have hB : ∀ n o, Below w.heap.size w ((w.drewN n).alloc o) := fun n o => (below_drewN (Below.refl _ _) n).alloc (Nat.le_refl _) o
  have p0 := fun n o => ((hB n o).cell (p := ⟨g, k * 3, none⟩) hg).trans c0
  have p1 := fun n o => ((hB n o).cell (p := ⟨g, k * 3 + 1, none⟩) hg).trans c1
  have p2 := fun n o => ((hB n o).cell (p := ⟨g, k * 3 + 2, none⟩) hg).trans c2
  have hrw : r ≠ w.heap.size := by omega
  have hcw : cb ≠ w.heap.size := by omega
  have F3 := fun m o a b c => Lib.hid (fresh3 w m o a b c)
  have HG : ∀ b, (Value.slice (some ⟨g, 0, none⟩) xs.length cap).ownBlock = some b → b ≠ r ∧ b ≠ cb := fun b hb => ⟨fun e => h.ne (by rw [hb, e]), fun e => hnb (by rw [hb, e])⟩
  clear hcell hd hB hnb
  rcases may_cases hm with ⟨hkind, hc0⟩ | ⟨hkind, m, hc0, hm16, hn0⟩
  · simp only at hkind hc0
    subst hc0
    have a15 : bits .and .i64 0 15 = 0 := by decide +kernel
    rcases hkind with rfl | rfl
    · clear hm
      go_enter Try.func15, Try.ntmps15
      go_wp2_with fail
      go_quiet (fail)
      go_wp2_with fail
      go_region
      go_wp2_with fail
      go_region
      go_wp2
      go_ret
      refine ⟨rfl, ?_⟩
      rw [one2]
      exact fin_num h hC hne (F3 _ _ _ _ _) _
    · clear hm
      go_enter Try.func15, Try.ntmps15
      go_wp2_with fail
      go_quiet (fail)
      go_wp2_with fail
      go_region
      go_wp2_with fail
      go_region
      go_wp2
      go_ret
      refine ⟨rfl, ?_⟩
      rw [one3]
      exact fin_num h hC hne (F3 _ _ _ _ _) _
  · simp only at hkind hc0 hn0
    subst hc0 hn0
    have a15 := and15 m hm16
    have hm16' : (m : Int) < 16 := by omega
    obtain ⟨x, hx⟩ : ∃ x, cs.getD m 0 = x := ⟨_, rfl⟩
    have x0 := hC.cell (ints_get (k := .u32) (xs := cs) (i := m) (by omega))
    rw [hx] at x0
    have x1 := fun n o => ((hC.drewN n).alloc o).cell (ints_get (k := .u32) (xs := cs) (i := m) (by omega))
    rw [hx] at x1
    have HX := Lib.hid hx
    rcases hkind with rfl | rfl
    · clear hm hx
      go_enter Try.func15, Try.ntmps15
      go_wp2_with fail
      go_quiet (fail)
      go_wp2_with fail
      go_region
      go_wp2
      go_ret
      refine ⟨rfl, ?_⟩
      rw [one1, Int.toNat_natCast, HX.out]
      exact fin_num0 h hC hne (F3 _ _ _ _ _) _
    · clear hm hx
      go_enter Try.func15, Try.ntmps15
      go_wp2_with fail
      go_quiet (fail)
      go_wp2_with fail
      go_region
      go_wp2_with fail
      go_region
      go_wp2
      go_ret
      refine ⟨rfl, ?_⟩
      rw [one4, Int.toNat_natCast]
      exact fin_cell h hC hne HG (F3 _ _ _ _ _) m n
end Go.Proofs.Ytpagebcokikmkaa.Sec
