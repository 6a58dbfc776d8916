/- Layer 22 (section): a section, run whole. -/
import Derived.Test.YtpagebcokikmkaaSecD
namespace Go.Proofs.Ytpagebcokikmkaa.Sec
open Go Go.RowKit Go.Deep Go.Proofs.Ytpagebcokikmkaa.Heap Go.Proofs.Ytpagebcokikmkaa.Open

def runs (s : List Int × Int) (xs : List D) : List Int × Int := xs.foldl (fun s d => one d s) s
theorem runs_snoc (s : List Int × Int) (xs : List D) (d : D) : runs s (xs ++ [d]) = one d (runs s xs) := by simp [runs]
theorem one_len (d : D) (s : List Int × Int) : (one d s).1.length = s.1.length := by unfold one; split; rfl; split; rfl; split; rfl; simp
theorem runs_len (s : List Int × Int) (xs : List D) : (runs s xs).1.length = s.1.length := by
  induction xs generalizing s with
  | nil => rfl
  | cons x xs ih => show (runs (one x s) xs).1.length = _; rw [ih, one_len]
/-- How many deeds a runner did, read off its block. -/
def doneOf (w : World) (r : Nat) : Nat := match w.cell? ⟨r, 1, none⟩ with | some (.int _ n) => n.toNat | _ => 0
theorem RunAt.done {w : World} {r : Nat} {v : Value} {xs : List D} {k : Nat} {n : Int} (h : RunAt w r v xs k n) : doneOf w r = k := by
  unfold doneOf; rw [h.top.cell (i := 1) rfl]; simp

theorem info24 : (Try.prog.info? 24).map (·.size) = some 16 := by kernel_rfl

set_option maxHeartbeats 1000000 in
theorem run_all (w : World) (v : Value) (xs : List D) (cs : List Int) (h : Src w v xs) (hfit : xs.length * 24 ≤ 140737488351232) (h16 : cs.length = 16) (hm : ∀ x ∈ xs, x.may = true) :
    Calls Try.prog 9 #[.agg (ints .u32 cs).toArray, v] w fun e w' => e = .returned (.agg (ints .u32 (runs (cs, 0) xs).1).toArray) ∧ Upd (fun _ => False) w w' := by
  obtain ⟨a0, cap0, rfl⟩ := h.len
  have S1 := fun o o' => h.cellsIn (((Below.refl w.heap.size w).alloc (Nat.le_refl _) o).alloc (by simp) o')
  have hcsl : (ints .u32 cs).length = 16 := by rw [ints_len]; exact h16
  go_enter Try.func9, Try.ntmps9
  go_wp2_with fail
  refine (begin_all _ _ xs (S1 _ _) hfit).mono ?_
  rintro e w1 ⟨r, u, rfl, hR, hr, hu, u1⟩
  have hC : Row w1 w.heap.size (ints .u32 cs) := ((Row.new' rfl).alloc _).upd u1 id
  have hZ : Row w1 (w.heap.size + 1) (List.replicate 16 (.int .u32 0)) := (Row.new' (by simp)).upd u1 id
  simp at hr hu
  have B1 : Below w.heap.size w w1 := (((Below.refl w.heap.size w).alloc (Nat.le_refl _) _).alloc (by simp) _).trans (u1.none.mono (by simp; omega))
  have hz1 := hZ.lt
  have hrl := hR.top.lt
  have hu' : ∀ b, u.ownBlock = some b → b < w1.heap.size := fun b hb => (own_lt hR.own hb).1
  have hne : r ≠ w.heap.size := by omega
  have hnb : u.ownBlock ≠ some w.heap.size := fun e => by have := hu _ e; omega
  clear S1 h u1
  go_wp2_with fail
  go_loopw [] (fun wr => ∃ k : Nat, k ≤ xs.length ∧ RunAt wr r u xs k (runs (cs, 0) (xs.take k)).2 ∧ Row wr w.heap.size (ints .u32 (runs (cs, 0) (xs.take k)).1) ∧ Row wr (w.heap.size + 1) (List.replicate 16 (.int .u32 0)) ∧ Below w.heap.size w wr ∧ w1.heap.size ≤ wr.heap.size)
    (fun wr => xs.length + 1 - doneOf wr r)
  case atStart => exact ⟨0, Nat.zero_le _, hR, hC, hZ, B1, Nat.le_refl _⟩
  case round =>
    obtain ⟨k, hk, R2, C2, Z2, B2, hs2⟩ := hrel
    have hd2 := R2.done
    by_cases hlt : k < xs.length
    · have hmk : (xs.getD k default).may = true := hm _ (by rw [getD_lt _ _ _ hlt]; exact List.getElem_mem hlt)
      have hsn : runs (cs, 0) (xs.take (k + 1)) = one (xs.getD k default) (runs (cs, 0) (xs.take k)) := by rw [take_snoc xs k hlt, runs_snoc]
      have h16' : (runs (cs, 0) (xs.take k)).1.length = 16 := by rw [runs_len]; exact h16
      have HS := Lib.hid hsn
      clear hsn
      go_wp2_with fail
      refine (step_one _ r w.heap.size u xs k _ _ R2 C2 h16' hne hnb hlt hmk).mono ?_
      rintro e w3 ⟨rfl, R3, C3, u3⟩
      have R3 : RunAt w3 r u xs (k + 1) (runs (cs, 0) (xs.take (k + 1))).2 := by rw [HS.out]; exact R3
      have C3 : Row w3 w.heap.size (ints .u32 (runs (cs, 0) (xs.take (k + 1))).1) := by rw [HS.out]; exact C3
      have hd3 := R3.done
      have Z3 := Z2.upd u3 (by omega)
      have B3 := u3.below B2 (by omega) (by omega)
      have hs3 := u3.size
      clear hmk hd2
      go_wp2
      go_roundw
      case rel => exact ⟨k + 1, by omega, R3, C3, Z3, B3, by omega⟩
      case measure => rw [hd3, R2.done]; omega
    · obtain rfl : k = xs.length := by omega
      rw [List.take_length] at R2 C2
      have hfl : (ints .u32 (runs (cs, 0) xs).1).length = 16 := by rw [ints_len, runs_len]; exact h16
      obtain ⟨X, hX⟩ : ∃ X, ints .u32 (runs (cs, 0) xs).1 = X := ⟨_, rfl⟩
      rw [hX] at C2 hfl
      have HX := Lib.hid hX
      clear hX hd2
      go_wp2_with fail
      refine (step_end _ r w.heap.size u xs _ R2).mono ?_
      rintro e w3 ⟨rfl, u3⟩
      have C3 := C2.upd u3 id
      have Z3 := Z2.upd u3 id
      have B3 := B2.trans (u3.none.mono (by omega))
      go_wp2_with (first
        | (refine wpList_load_whole rfl 24 _ rfl w.heap.size rfl C3 _ Try.underlying24 rfl (by rw [hfl]; exact info24) ?_)
        | (refine wpList_store_whole rfl 24 _ _ rfl (w.heap.size + 1) X.toArray rfl rfl Z3 (by rw [List.size_toArray, hfl]; exact info24) (by simp [hfl]) (by rw [← HX.out]; simp [ints, Value.oneCell']) ?_; intro w4 R4 u4))
      refine bodyPost_ret (results_cell_whole rfl _ _ (w.heap.size + 1) rfl R4 _ Try.underlying24 rfl (by rw [hfl]; exact info24)) rfl ?_
      exact ⟨by rw [HX.out], Upd.of_below (u4.below B3 (by have := u3.size; omega) (by omega))⟩
end Go.Proofs.Ytpagebcokikmkaa.Sec
