/- Layer 22 (section): the laws' helper 'awake'; two arrays of cells, compared. -/
import Derived.Test.YtpagebcokikmkaaSecE
namespace Go.Proofs.Ytpagebcokikmkaa.Sec
open Go Go.RowKit Go.Deep Go.Proofs.Ytpagebcokikmkaa.Heap Go.Proofs.Ytpagebcokikmkaa.Open

theorem cells_u32 : Try.prog.cellsOf 22 = 1 := by kernel_rfl
theorem eql_cells (w : World) (xs ys : List Int) (hx : xs.length = 16) (hy : ys.length = 16) : (binOp .eql 24 (.agg (ints .u32 xs).toArray) (.agg (ints .u32 ys).toArray)).run Try.prog w = .ok (.bool (xs == ys)) w := by
  obtain ⟨i, hi, _⟩ := info_parts (show (Try.prog.info? 22).map (fun i => (i.zero, i.size, i.bytes)) = some (some (.int .u32 0), 1, 4) by kernel_rfl)
  exact run_eql_ints w 24 22 16 .u32 Try.underlying24 Try.underlying22 hi cells_u32 xs ys hx hy
theorem neq_cells (w : World) (xs ys : List Int) (hx : xs.length = 16) (hy : ys.length = 16) : (binOp .neq 24 (.agg (ints .u32 xs).toArray) (.agg (ints .u32 ys).toArray)).run Try.prog w = .ok (.bool (!(xs == ys))) w := by
  obtain ⟨i, hi, _⟩ := info_parts (show (Try.prog.info? 22).map (fun i => (i.zero, i.size, i.bytes)) = some (some (.int .u32 0), 1, 4) by kernel_rfl)
  exact run_neq_ints w 24 22 16 .u32 Try.underlying24 Try.underlying22 hi cells_u32 xs ys hx hy

theorem add_zero_off (n j : Nat) : ((⟨n, 0, none⟩ : Addr).add j) = ⟨n, j, none⟩ := by
  unfold Addr.add
  split
  · rename_i h; subst h; rfl
  · simp

def c7 : List Int := [7, 0, 0, 0, 0, 0, 0, 0, 0, 0, 0, 0, 0, 0, 0, 0]
def c12 : List Int := [7, 12, 0, 0, 0, 0, 0, 0, 0, 0, 0, 0, 0, 0, 0, 0]
def aw : List D := [⟨1, 0, 0⟩, ⟨2, 0, 5⟩, ⟨4, 1, 0⟩]
theorem aw_runs : (runs (c7, 0) aw).1 = c12 := by decide +kernel

set_option maxHeartbeats 1000000 in
theorem awake (w : World) : Calls Try.prog 8 #[] w fun e w' => e = .returned (.bool true) ∧ Below w.heap.size w w' := by
  have E : ∀ w, (binOp .eql 24 (.agg (ints .u32 c12).toArray) (.agg (ints .u32 c12).toArray)).run Try.prog w = .ok (.bool true) w := fun w => eql_cells w c12 c12 rfl rfl
  have E1 : (ints .u32 c12).toArray = #[.int .u32 7, .int .u32 12, .int .u32 0, .int .u32 0, .int .u32 0, .int .u32 0, .int .u32 0, .int .u32 0, .int .u32 0, .int .u32 0, .int .u32 0, .int .u32 0, .int .u32 0, .int .u32 0, .int .u32 0, .int .u32 0] := rfl
  rw [E1] at E
  have A1 := Lib.hid aw_runs
  have E2 := Lib.hid E1
  clear E1
  go_enter Try.func8, Try.ntmps8
  go_wp2_with fail
  refine (run_all _ _ aw c7 (.inr ⟨⟨w.heap.size, 0, none⟩, 3, rfl, ?_⟩) (by decide) rfl (by decide)).mono ?_
  · intro j u hj
    have := (Row.new' (w := w) (T := 30) (n := w.heap.size) (a := (flat aw).toArray) rfl).cell (i := j) hj
    rw [add_zero_off]; exact this
  · rintro e w1 ⟨rfl, u1⟩
    have hb : Below w.heap.size w w1 := ((Below.refl w.heap.size w).alloc (Nat.le_refl _) _).trans (u1.none.mono (by simp))
    rw [A1.out, E2.out]
    go_wp2
    go_ret
    exact ⟨rfl, hb.alloc hb.size _⟩
end Go.Proofs.Ytpagebcokikmkaa.Sec
