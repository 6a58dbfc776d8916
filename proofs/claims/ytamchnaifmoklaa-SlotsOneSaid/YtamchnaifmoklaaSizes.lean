/- pack.Sizes, and whether a number is among them. -/
import Derived.Test.YtamchnaifmoklaaSl
import Derived.Test.YtamchnaifmoklaaSlot
namespace Go.Proofs.Ytamchnaifmoklaa.Sizes
open Go Go.RowKit Go.Proofs.Ytamchnaifmoklaa.Heap Go.Proofs.Ytamchnaifmoklaa.Open Go.Proofs.Ytamchnaifmoklaa.Pack

def szs : List Int := [1, 2, 4, 8, 16, 32, 64]
theorem szs_has (n : Int) : szs.contains n = sizeB n := by
  rw [Bool.eq_iff_iff, sizeB_iff]; simp [szs, IsSize]
theorem info_i64 : (Try.prog.info? 3).map (fun i => (i.zero, i.size, i.bytes)) = some (some (.int .i64 0), 1, 8) := by kernel_rfl
theorem cell_newAt (w : World) (v : Value) (T : TypeId) (b : Nat) (hb : b = w.heap.size) : ∀ j u, [v][j]? = some u → (w.alloc (.cells #[v] T)).cell? ((⟨b, 0, none⟩ : Addr).add j) = some u := by subst hb; exact cell_new1 w v T
theorem ints_snoc {k : IntKind} (xs : List Int) (x : Int) : ints k xs ++ [.int k x] = ints k (xs ++ [x]) := by simp [ints]
set_option maxHeartbeats 4000000 in
theorem sizesC (w : World) : Calls Try.prog 36 #[] w fun e w' => ∃ v, e = .returned v ∧ Src1 w' v .i64 szs ∧ Below w.heap.size w w' := by
  go_enter Try.func36, Try.ntmps36
  go_wp2_with fail
  go_loopw [1, 2] (fun s1 s2 wr => ∃ j : Nat, j ≤ 7 ∧ s2 = .int .i64 ((2 ^ j : Nat) : Int) ∧ wr.ownsRow w.heap.size 3 1 s1 j (ints .i64 (szs.take j)) ∧ Below w.heap.size w wr) (fun _ i _ => 200 - (intOf i).toNat)
  case atStart => exact ⟨0, by omega, rfl, World.ownsRow_nil _ _ _ _, Below.refl _ _⟩
  case round =>
    obtain ⟨j, hj, rfl, hown, hB⟩ := hrel
    have hz := hB.size
    obtain ⟨va, vc, rfl⟩ := owned_len1 hown
    by_cases h7 : j = 7
    · subst h7
      rw [show ((2 ^ 7 : Nat) : Int) = 128 from rfl]
      go_wp2_with fail
      go_ret
      exact ⟨_, rfl, Src1.of_owned hown, hB⟩
    · obtain ⟨p, hp⟩ : ∃ p : Int, ((2 ^ j : Nat) : Int) = p := ⟨_, rfl⟩
      have hp2 : 1 ≤ p ∧ p ≤ 64 ∧ szs.take (j + 1) = szs.take j ++ [p] ∧ ((2 ^ (j + 1) : Nat) : Int) = p * 2 := by
        rcases (show j = 0 ∨ j = 1 ∨ j = 2 ∨ j = 3 ∨ j = 4 ∨ j = 5 ∨ j = 6 by omega) with rfl | rfl | rfl | rfl | rfl | rfl | rfl <;> subst hp <;> exact ⟨by decide, by decide, rfl, rfl⟩
      obtain ⟨p1, p2, p3, p4⟩ := hp2
      rw [hp]
      have P3 := Lib.hid p3
      have P4 := Lib.hid p4
      clear hp p3 p4
      go_wp2_with (at_builtin; refine wpList_append_near rfl (.tmp 7) (.tmp 9) 22 rfl w.heap.size 3 (.int .i64 0) 1 8 Try.underlying22 info_i64 rfl (by decide) (.slice va j vc) j (ints .i64 (szs.take j)) rfl (own_upd hown ((Upd.refl (fun _ => False) _).alloc _) (fun _ _ => id)) ⟨wr.heap.size, 0, none⟩ 1 1 [.int .i64 p] rfl rfl (cell_newAt _ _ _ _ rfl) (one_cell rfl) (by unfold maxLen; omega) (by omega) (by simp; omega) ?_; intro v7 w7 hown7 hg7 near7; rw [ints_snoc] at hown7; have u7 : Upd (fun i => (Value.slice va j vc).ownBlock = some i) wr w7 := ((Upd.refl _ _).alloc _).trans (Upd.grown hg7))
      have hB7 := u7.below hB hz (fun i e => (own_lt hown e).2)
      go_round
      case rel => exact ⟨j + 1, by omega, by rw [P4.out], by rw [P3.out]; exact hown7, hB7⟩
      case measure => simp [intOf]; omega
end Go.Proofs.Ytamchnaifmoklaa.Sizes
