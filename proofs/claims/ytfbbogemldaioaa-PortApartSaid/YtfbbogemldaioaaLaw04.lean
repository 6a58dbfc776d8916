/- Layer 4 (port): the laws' own helper 'awake', walked. -/
import Derived.Test.YtfbbogemldaioaaPortO
namespace Go.Proofs.Ytfbbogemldaioaa.Law04
open Go Go.RowKit Go.Proofs.Ytfbbogemldaioaa.Heap Go.Proofs.Ytfbbogemldaioaa.Open Go.Proofs.Ytfbbogemldaioaa.Port Go.Proofs.Ytfbbogemldaioaa.Has

set_option maxHeartbeats 1000000 in
theorem awake (w : World) : Calls Try.prog 8 #[] w fun e w' => e = .returned (.bool true) ∧ Below w.heap.size w w' := by
  go_enter Try.func8, Try.ntmps8
  go_wp2_with fail
  refine (newP _ 2 _ _ [0] [5] ((src_lit _ .i64 [0] _ _ _ _ _ rfl rfl rfl).below ((Below.refl _ _).alloc (Nat.le_refl _) _)) (src_lit _ .u32 [5] _ _ _ _ _ rfl (by simp) rfl) rfl (by decide) (by decide) (by intro x hx; simp at hx; omega) (by decide) (by decide)).mono ?_
  rintro e w1 ⟨p, rfl, h1, b1⟩
  have B1 : Below w.heap.size w w1 := (((Below.refl _ _).alloc (Nat.le_refl _) _).alloc (by simp) _).trans (b1.mono (by simp; omega))
  obtain ⟨S, hS, h1⟩ : ∃ S : Nat → Prop, (∀ b, S b → w.heap.size ≤ b) ∧ Port.O w1 p S 2 [5] [0] [] := ⟨_, fun b hb => Nat.le_trans (by simp; omega) hb.1, h1⟩
  have K := casP _ _ _ _ _ _ _ h1 (by decide) 1 0 4 6 (by decide) (by decide)
  rw [show (Mem.inB 1 2 && Mem.casB [5] 0 4) = false from by decide, if_neg (by decide), show Cache.after 2 [(5 : Int)].length [] 1 0 true = [⟨1, 0, true⟩] from rfl] at K
  have HK := Lib.hid K
  clear K
  go_wp2_with fail
  refine HK.out.mono ?_
  rintro e w2 ⟨rfl, h2, u2⟩
  have B2 := u2.below B1 B1.size hS
  have K := writesP _ _ _ _ _ _ _ h2 1
  rw [show (if Mem.inB 1 2 = true then ((wrs [⟨1, 0, true⟩] 1 : Nat) : Int) else 0) = 1 from by decide] at K
  have HK := Lib.hid K
  clear K
  go_wp2_with fail
  refine HK.out.mono ?_
  rintro e w3 ⟨rfl, rfl⟩
  have K := missesP _ _ _ _ _ _ _ h2 1
  rw [show (if Mem.inB 1 2 = true then ((misses 2 [⟨1, 0, true⟩] 1 : Nat) : Int) else 0) = 1 from by decide] at K
  have HK := Lib.hid K
  clear K
  go_wp2_with fail
  refine HK.out.mono ?_
  rintro e w3 ⟨rfl, rfl⟩
  have K := loadP _ _ _ _ _ _ _ h2 (by decide) 0 0
  rw [show (if Mem.inB 0 2 = true then Mem.get [5] 0 else 0) = 5 from by decide] at K
  have HK := Lib.hid K
  clear K
  go_wp2_with fail
  refine HK.out.mono ?_
  rintro e w3 ⟨rfl, h3, u3⟩
  have B3 := u3.below B2 B2.size hS
  go_wp2
  go_ret
  exact ⟨rfl, B3⟩
end Go.Proofs.Ytfbbogemldaioaa.Law04
