/- Layer 2 (mem): the laws' own helpers, walked. -/
import Derived.Test.YtcndppkcaplcjaaMemNew
namespace Go.Proofs.Ytcndppkcaplcjaa.Law02
open Go Go.RowKit Go.Proofs.Ytcndppkcaplcjaa.Heap Go.Proofs.Ytcndppkcaplcjaa.Open Go.Proofs.Ytcndppkcaplcjaa.Mem

theorem src_one (w : World) (x : Int) (T : TypeId) : Src1 (w.alloc (.cells #[.int .i64 x] T)) (.slice (some ⟨w.heap.size, 0, none⟩) 1 1) .i64 [x] :=
  ⟨some ⟨w.heap.size, 0, none⟩, 1, rfl, fun e => by simp at e, fun _ => ⟨w.heap.size, 0, rfl, by simp, fun i hi => by
    obtain rfl : i = 0 := by simpa using hi
    exact (Row.new' rfl).cell (i := 0) rfl⟩⟩
theorem src_one2 (w : World) (x : Int) (T : TypeId) (b : Nat) (hb : b = w.heap.size) : Src1 (w.alloc (.cells #[.int .i64 x] T)) (.slice (some ⟨b, 0, none⟩) 1 1) .i64 [x] := by subst hb; exact src_one w x T
/-- One word: of whatever is done at address 0. -/
theorem add_0 (w : World) (m wb : Nat) (hv : Value) (y : Int) (hs : List Int) (h : Mem.At w m wb hv [y] hs) (d : Int) (h0 : 0 ≤ y) (h1 : y < 4294967296) :
    Calls Try.prog 10 #[.pointer (some ⟨m, 0, none⟩), .int .i64 0, .int .u32 d] w fun e w' => e = .returned (.int .u32 y) ∧ Mem.At w' m wb hv [(y + d) % 4294967296] hs ∧ Upd (fun k => k = wb) w w' := add_in w m wb hv [y] hs h 0 (by simp) d h0 h1
theorem cas_0 (w : World) (m wb : Nat) (hv : Value) (y : Int) (hs : List Int) (h : Mem.At w m wb hv [y] hs) (o x : Int) :
    Calls Try.prog 13 #[.pointer (some ⟨m, 0, none⟩), .int .i64 0, .int .u32 o, .int .u32 x] w fun e w' => e = .returned (.bool (y == o)) ∧ Mem.At w' m wb hv (if y = o then [x] else [y]) hs ∧ Upd (fun k => k = wb) w w' := cas_in w m wb hv [y] hs h 0 (by simp) o x
theorem swap_0 (w : World) (m wb : Nat) (hv : Value) (y : Int) (hs : List Int) (h : Mem.At w m wb hv [y] hs) (x : Int) :
    Calls Try.prog 21 #[.pointer (some ⟨m, 0, none⟩), .int .i64 0, .int .u32 x] w fun e w' => e = .returned (.int .u32 y) ∧ Mem.At w' m wb hv [x] hs ∧ Upd (fun k => k = wb) w w' := swap_in w m wb hv [y] hs h 0 (by simp) x
theorem load_0 (w : World) (m wb : Nat) (hv : Value) (y : Int) (hs : List Int) (h : Mem.At w m wb hv [y] hs) :
    Calls Try.prog 11 #[.pointer (some ⟨m, 0, none⟩), .int .i64 0] w fun e w' => e = .returned (.int .u32 y) ∧ w = w' := load_in w m wb hv [y] hs h 0 (by simp)
theorem store_0 (w : World) (m wb : Nat) (hv : Value) (y : Int) (hs : List Int) (h : Mem.At w m wb hv [y] hs) (x : Int) :
    Calls Try.prog 12 #[.pointer (some ⟨m, 0, none⟩), .int .i64 0, .int .u32 x] w fun e w' => e = .returned (.tuple #[]) ∧ Mem.At w' m wb hv [x] hs ∧ Upd (fun k => k = wb) w w' := store_in w m wb hv [y] hs h 0 (by simp) x
theorem new_one (w : World) (v : Value) (x : Int) (h : Src1 w v .i64 [x]) (hok : homesOk [x] = true) :
    Calls Try.prog 8 #[v] w fun e w' => ∃ m wb hv, e = .returned (.tuple #[.pointer (some ⟨m, 0, none⟩), .int .i64 0]) ∧ Mem.At w' m wb hv [0] [x] ∧
      w.heap.size ≤ m ∧ w.heap.size ≤ wb ∧ (∀ b, hv.ownBlock = some b → w.heap.size ≤ b) ∧ Upd (fun _ => False) w w' := new_yes w v [x] h (by simp) hok

set_option maxHeartbeats 1000000 in
theorem awake (w : World) : Calls Try.prog 9 #[] w fun e w' => e = .returned (.bool true) ∧ Below w.heap.size w w' := by
  go_enter Try.func9, Try.ntmps9
  go_wp2_with fail
  refine (new_one _ _ 0 (src_one w 0 _) (by decide)).mono ?_
  rintro e w1 ⟨m, wb, hv, rfl, h1, b1, b2, b3, u1⟩
  have B1 : Below w.heap.size w w1 := ((Below.refl _ _).alloc (Nat.le_refl _) _).trans (u1.none.mono (by simp))
  simp at b2
  go_wp2_with fail
  refine (add_0 _ _ _ _ _ _ h1 5 (by decide) (by decide)).mono ?_
  rintro e w2 ⟨rfl, h2, u2⟩
  have B2 := u2.below B1 B1.size (by omega)
  go_wp2_with fail
  refine (cas_0 _ _ _ _ _ _ h2 5 7).mono ?_
  rintro e w3 ⟨rfl, h3, u3⟩
  rw [if_pos (by decide)] at h3
  have B3 := u3.below B2 B2.size (by omega)
  go_wp2_with fail
  refine (swap_0 _ _ _ _ _ _ h3 1).mono ?_
  rintro e w4 ⟨rfl, h4, u4⟩
  have B4 := u4.below B3 B3.size (by omega)
  go_wp2
  go_ret
  exact ⟨rfl, B4⟩
end Go.Proofs.Ytcndppkcaplcjaa.Law02
