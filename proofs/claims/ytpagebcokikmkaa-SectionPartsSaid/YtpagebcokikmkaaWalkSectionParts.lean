/- The law SectionParts, walked: what a section does to cells that it doesn't Store into is nothing. -/
import Derived.Test.YtpagebcokikmkaaSecO
namespace Go.Proofs.Ytpagebcokikmkaa.WalkSectionParts
open Go Go.RowKit Go.Deep Go.Proofs.Ytpagebcokikmkaa.Heap Go.Proofs.Ytpagebcokikmkaa.Open Go.Proofs.Ytpagebcokikmkaa.Sec

def stores (xs : List D) (i : Nat) : Bool := xs.any fun x => x.k == 4 && x.c == (i : Int)
theorem may_kind {d : D} (h : d.may = true) : d.k = 1 ∨ d.k = 2 ∨ d.k = 3 ∨ (d.k = 4 ∧ 0 ≤ d.c) := by
  rcases may_cases h with ⟨h1 | h1, _⟩ | ⟨h1 | h1, m, h2, _⟩
  · exact .inr (.inl h1)
  · exact .inr (.inr (.inl h1))
  · exact .inl h1
  · exact .inr (.inr (.inr ⟨h1, by omega⟩))
theorem one_keeps (d : D) (s : List Int × Int) (i : Nat) (hm : d.may = true) (h : (d.k == 4 && d.c == (i : Int)) = false) : (one d s).1.getD i 0 = s.1.getD i 0 := by
  unfold one
  rcases may_kind hm with e | e | e | ⟨e, e0⟩
  · rw [if_pos e]
  · rw [if_neg (by omega), if_pos e]
  · rw [if_neg (by omega), if_neg (by omega), if_pos e]
  · rw [if_neg (by omega), if_neg (by omega), if_neg (by omega)]
    rw [e] at h
    have hne : d.c.toNat ≠ i := by simp at h; omega
    simp [List.getD, hne]
theorem runs_keeps (xs : List D) (s : List Int × Int) (i : Nat) (hm : ∀ x ∈ xs, x.may = true) (h : stores xs i = false) : (runs s xs).1.getD i 0 = s.1.getD i 0 := by
  induction xs generalizing s with
  | nil => rfl
  | cons x xs ih =>
    simp only [stores, List.any_cons, Bool.or_eq_false_iff] at h
    show (runs (one x s) xs).1.getD i 0 = _
    rw [ih (one x s) (fun y hy => hm y (List.mem_cons_of_mem _ hy)) h.2, one_keeps x s i (hm x List.mem_cons_self) h.1]
theorem fine_may {xs : List D} (h : fine xs = true) : (∀ x ∈ xs, x.may = true) ∧ xs.length ≤ 64 := by
  simp only [fine, Bool.and_eq_true, List.all_eq_true, decide_eq_true_eq] at h; exact h
theorem stores_snoc (xs : List D) (j i : Nat) (h : j < xs.length) : stores (xs.take (j + 1)) i = (stores (xs.take j) i || ((xs.getD j default).k == 4 && (xs.getD j default).c == (i : Int))) := by
  rw [take_snoc xs j h]; simp [stores]

set_option maxHeartbeats 1000000 in
theorem walk (vc : Value) (cs : List Int) (v : Value) (xs : List D) (w : World) (hc : CellsIn vc cs) (hx : DeedsIn w v xs) :
    Calls Try.prog 3 #[vc, v] w fun e w' => e = .returned (.bool true) ∧ Below w.heap.size w w' := by
  obtain ⟨rfl, h16⟩ := hc
  obtain ⟨a0, cap0, rfl⟩ := hx.src.len
  have hcl : (ints .u32 cs).length = 16 := by rw [ints_len]; exact h16
  have B0 : Below w.heap.size w (w.alloc (.cells (ints .u32 cs).toArray 24)) := (Below.refl _ _).alloc (Nat.le_refl _) _
  have D0 := hx.1.below B0
  go_enter Try.func3, Try.ntmps3
  go_wp2_with fail
  refine (fine_all _ _ xs D0).mono ?_
  rintro e w1 ⟨rfl, u1⟩
  have B1 : Below w.heap.size w w1 := B0.trans (u1.none.mono (by simp))
  cases hf : fine xs
  · clear hf D0 B0 hx
    go_wp2_with fail
    refine (awake _).mono ?_
    rintro e w4 ⟨rfl, u4⟩
    go_wp2
    go_ret
    exact ⟨rfl, B1.trans (u4.mono B1.size)⟩
  · obtain ⟨hmay, h64⟩ := fine_may hf
    have C1 : Row w1 w.heap.size (ints .u32 cs) := (Row.new' rfl).upd u1 id
    have S1 := hx.src.cellsIn B1
    have hfit := hx.1.fit
    clear hf D0 B0
    go_wp2_with (refine wpList_load_whole rfl 24 _ rfl w.heap.size rfl C1 _ Try.underlying24 rfl (by rw [hcl]; exact info24) ?_)
    refine (run_all _ _ xs cs S1 hfit h16 hmay).mono ?_
    rintro e w2 ⟨rfl, u2⟩
    have C2 := C1.upd u2 id
    have B2 : Below w.heap.size w w2 := B1.trans (u2.none.mono B1.size)
    obtain ⟨ds, hds⟩ : ∃ ds, (runs (cs, 0) xs).1 = ds := ⟨_, rfl⟩
    have hdl : (ints .u32 ds).length = 16 := by rw [ints_len, ← hds, runs_len]; exact h16
    have hd16 : ds.length = 16 := by rw [← ints_len (k := .u32)]; exact hdl
    have hkeep : ∀ i, stores xs i = false → ds.getD i 0 = cs.getD i 0 := fun i h => by rw [← hds]; exact runs_keeps xs _ i hmay h
    rw [hds]
    have hl2 := C2.lt
    have Z2 : Row (w2.alloc (.cells (List.replicate 16 (.int .u32 0)).toArray 24)) w2.heap.size (List.replicate 16 (.int .u32 0)) := Row.new' rfl
    clear hds u2 u1 S1
    go_wp2_with (refine wpList_store_whole rfl 24 _ _ rfl w2.heap.size (ints .u32 ds).toArray rfl rfl Z2 (by rw [List.size_toArray, hdl]; exact info24) (by simp [hdl]) (by simp [ints, Value.oneCell']) ?_; intro w3 R3 u3)
    have C3 : Row w3 w.heap.size (ints .u32 cs) := (C2.alloc _).upd u3 (by omega)
    have B3 : Below w.heap.size w w3 := u3.below (B2.alloc (by omega) _) (by simp; omega) (by omega)
    have hs3 := u3.size
    simp at hs3
    clear u3 Z2 C2
    go_loopw [17] (fun i wr => ∃ k : Nat, k ≤ 16 ∧ i = .int .i64 k ∧ Row wr w.heap.size (ints .u32 cs) ∧ Row wr w2.heap.size (ints .u32 ds) ∧ Below w.heap.size w wr ∧ w3.heap.size ≤ wr.heap.size) (fun i _ => 16 - (intOf i).toNat)
    case atStart => exact ⟨0, by decide, rfl, C3, R3, B3, Nat.le_refl _⟩
    case round =>
      obtain ⟨k, hk, rfl, C4, R4, B4, hs4⟩ := hrel
      by_cases hlt : k < 16
      · go_wp2_with fail
        go_loopw [22, 7] (fun j b wi => ∃ (m : Nat), m ≤ xs.length ∧ j = .int .i64 m ∧ b = .bool (stores (xs.take m) k) ∧ Row wi w.heap.size (ints .u32 cs) ∧ Row wi w2.heap.size (ints .u32 ds) ∧ Below w.heap.size w wi ∧ w3.heap.size ≤ wi.heap.size) (fun j _ _ => xs.length - (intOf j).toNat)
        case atStart => exact ⟨0, Nat.zero_le _, rfl, rfl, C4, R4, B4, hs4⟩
        case round =>
          obtain ⟨m, hm, rfl, rfl, C5, R5, B5, hs5⟩ := hrel
          by_cases hmt : m < xs.length
          · have hsn := stores_snoc xs m k hmt
            obtain ⟨bb, off, rfl, hbw, hcell⟩ := hx.1.row (by omega)
            obtain ⟨c0, c1, c2⟩ := hcell _ B5 m hmt
            obtain ⟨x, hxe⟩ : ∃ x, xs.getD m default = x := ⟨_, rfl⟩
            rw [hxe] at hsn c0 c1 c2
            obtain ⟨tb, htb⟩ : ∃ tb, stores (xs.take m) k = tb := ⟨_, rfl⟩
            obtain ⟨xk, xc, xn⟩ := x
            rw [htb] at hsn
            rw [htb]
            have HS := Lib.hid hsn
            have K5 := fun o => C5.alloc o
            have L5 := fun o => R5.alloc o
            have M5 := fun o => B5.alloc (o := o) (by have := B2.size; omega)
            clear hxe hcell hsn htb hkeep hmay hx
            by_cases e1 : xk = 4
            · subst e1
              by_cases e2 : xc = (k : Int)
              · subst e2
                cases tb
                all_goals
                  go_wp2_with fail
                  go_roundw
                  case rel => exact ⟨m + 1, by omega, by go_num, by rw [HS.out]; simp, K5 _, L5 _, M5 _, by simp; omega⟩
                  case measure => simp [intOf]; omega
              · have e3 : (xc == (k : Int)) = false := by simpa using e2
                cases tb
                all_goals
                  go_wp2_with fail
                  go_roundw
                  case rel => exact ⟨m + 1, by omega, by go_num, by rw [HS.out]; simp [e3], K5 _, L5 _, M5 _, by simp; omega⟩
                  case measure => simp [intOf]; omega
            · have e3 : (xk == 4) = false := by simpa using e1
              cases tb
              all_goals
                go_wp2_with fail
                go_roundw
                case rel => exact ⟨m + 1, by omega, by go_num, by rw [HS.out]; simp [e3], K5 _, L5 _, M5 _, by simp; omega⟩
                case measure => simp [intOf]; omega
          · obtain rfl : m = xs.length := by omega
            rw [List.take_length]
            have hkp := hkeep k
            obtain ⟨tb, htb⟩ : ∃ tb, stores xs k = tb := ⟨_, rfl⟩
            rw [htb] at hkp ⊢
            have g0 := C5.cell (ints_get (k := .u32) (xs := cs) (i := k) (by omega))
            have g1 := R5.cell (ints_get (k := .u32) (xs := ds) (i := k) (by omega))
            obtain ⟨y, hy⟩ : ∃ y, cs.getD k 0 = y := ⟨_, rfl⟩
            rw [hy] at g0 hkp
            have HK := Lib.hid hkp
            clear hkp hy htb hkeep hmay
            cases tb
            · rw [HK.out rfl] at g1
              have ey : (y != y) = false := by simp
              clear HK
              go_wp2_with fail
              go_quiet (fail)
              go_wp2_with fail
              go_roundw
              case rel => exact ⟨k + 1, by omega, by go_num, C5.drewN _, R5.drewN _, below_drewN B5 _, hs5⟩
              case measure => simp [intOf]; omega
            · clear HK g0 g1
              go_wp2_with fail
              go_quiet (fail)
              go_wp2_with fail
              go_roundw
              case rel => exact ⟨k + 1, by omega, by go_num, C5.drewN _, R5.drewN _, below_drewN B5 _, hs5⟩
              case measure => simp [intOf]; omega
      · have : k = 16 := by omega
        subst this
        clear hkeep hmay hx
        go_wp2_with fail
        refine (awake _).mono ?_
        rintro e w6 ⟨rfl, u6⟩
        go_wp2
        go_ret
        exact ⟨rfl, B4.trans (u6.mono B4.size)⟩
end Go.Proofs.Ytpagebcokikmkaa.WalkSectionParts
