/- Layer 5 (plan): the laws' own helper 'awake', walked. -/
import Derived.Test.YtoddbjmkdhaklaaPlanO
namespace Go.Proofs.Ytoddbjmkdhaklaa.Law05
open Go Go.RowKit Go.Proofs.Ytoddbjmkdhaklaa.Heap Go.Proofs.Ytoddbjmkdhaklaa.Open Go.Proofs.Ytoddbjmkdhaklaa.Plan

set_option maxHeartbeats 1000000 in
theorem awake (w : World) : Calls Try.prog 11 #[] w fun e w' => e = .returned (.bool true) ∧ Below w.heap.size w w' := by
  go_enter Try.func11, Try.ntmps11
  go_wp2_with fail
  refine (newPl _ 1).mono ?_
  rintro e w1 ⟨p, rfl, h1, b1⟩
  obtain ⟨S1, hS1, h1⟩ : ∃ S : Nat → Prop, (∀ b, S b → w.heap.size ≤ b) ∧ Plan.O w1 p S 1 [] [] := ⟨_, fun b hb => hb.1, h1⟩
  have K := wordPl _ _ _ _ _ _ h1 (by decide) 0 1
  have HK := Lib.hid K
  clear K
  go_wp2_with fail
  refine HK.out.mono ?_
  rintro e w2 ⟨rfl, S2, h2, u2, hS2⟩
  have B2 := u2.below b1 b1.size hS1
  have hS2' : ∀ b, S2 b → w.heap.size ≤ b := fun b hb => by rcases hS2 b hb with e | e; exact hS1 b e; have := b1.size; omega
  have K := rowPl _ _ _ _ _ _ h2 (by decide) 3 0 2
  have HK := Lib.hid K
  clear K
  go_wp2_with fail
  refine HK.out.mono ?_
  rintro e w3 ⟨rfl, S3, h3, u3, hS3⟩
  have B3 := u3.below B2 B2.size hS2'
  have hS3' : ∀ b, S3 b → w.heap.size ≤ b := fun b hb => by rcases hS3 b hb with e | e; exact hS2' b e; have := B2.size; omega
  have K := wordPl _ _ _ _ _ _ h3 (by decide) 0 3
  have e4 : (((([] : List Int) ++ [1] ++ List.replicate (cnt 3) 2).length : Nat) : Int) = 4 := by decide
  rw [e4] at K
  have HK := Lib.hid K
  clear K
  go_wp2_with fail
  refine HK.out.mono ?_
  rintro e w4 ⟨rfl, S4, h4, u4, hS4⟩
  have B4 := u4.below B3 B3.size hS3'
  go_wp2
  go_ret
  exact ⟨rfl, B4⟩
end Go.Proofs.Ytoddbjmkdhaklaa.Law05
