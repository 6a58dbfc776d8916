/- The law PackTurns: freed or spliced twice a word is as once, in either order one word; for all inputs. -/
import Derived.Test.YtobodplkdojjdaaPackWord
import Derived.OpenShut
namespace Go.Proofs.Ytobodplkdojjdaa.WalkPackTurns
open Go Go.RowKit Go.Proofs.Ytobodplkdojjdaa.Bits Go.Proofs.Ytobodplkdojjdaa.Pack

set_option maxHeartbeats 2000000 in
theorem walk (x : Int) (w : World) (wf : (Lit.int .u32 x).wf = true) : Calls Try.prog 6 #[.int .u32 x] w fun e w' => e = .returned (.bool true) ∧ Below w.heap.size w w' := by
  obtain ⟨h0, h1⟩ := bounds_u32 wf
  obtain ⟨c, a, b, c0, c1, hx⟩ := parts4 x h0 (by omega)
  have ha := b2_b a
  have hb := b2_b b
  have hcl := clamp_in c c0 c1
  have l1 : x < 4294967296 := by omega
  have q1 : c = x / 4 := by omega
  have q2 : b2 a = x / 2 % 2 := by omega
  have q3 : b2 b = x % 2 := by omega
  obtain ⟨f, hf⟩ : ∃ f, f = c * 4 + b2 b := ⟨_, rfl⟩
  obtain ⟨s, hs⟩ : ∃ s, s = c * 4 + b2 a * 2 + 1 := ⟨_, rfl⟩
  obtain ⟨g, hg⟩ : ∃ g, g = c * 4 + 1 := ⟨_, rfl⟩
  have f1 : 0 ≤ f ∧ f < 4294967296 := by omega
  have s1 : 0 ≤ s ∧ s < 4294967296 := by omega
  have K : Hid (f = x - 2 * (x / 2 % 2) ∧ s = x + 1 - x % 2 ∧ f = f - 2 * (f / 2 % 2) ∧ s = s + 1 - s % 2 ∧ g = s - 2 * (s / 2 % 2) ∧ g = f + 1 - f % 2 ∧ b2 false = f / 2 % 2 ∧ b2 true = s % 2 ∧ c = f / 4 ∧ c = x / 4 ∧ c = s / 4) := by
    unfold Hid; refine ⟨?_, ?_, ?_, ?_, ?_, ?_, ?_, ?_, ?_, ?_, ?_⟩ <;> (first | omega | (simp only [b2, if_true, Bool.false_eq_true, if_false]; omega))
  clear q1 q2 q3 hx hcl hf hs hg wf
  obtain ⟨fl, fh⟩ := f1
  obtain ⟨sl, sh⟩ := s1
  go_enter Try.func6, Try.ntmps6
  go_wp2_with (first
    | (go_at_call 17; first | (refine (free_to x _ f h0 l1 K.out.1).mono ?_; rintro e w' ⟨rfl, rfl⟩) | (refine (free_to f _ f fl fh K.out.2.2.1).mono ?_; rintro e w' ⟨rfl, rfl⟩) | (refine (free_to s _ g sl sh K.out.2.2.2.2.1).mono ?_; rintro e w' ⟨rfl, rfl⟩))
    | (go_at_call 18; first | (refine (splice_to x _ s h0 l1 K.out.2.1).mono ?_; rintro e w' ⟨rfl, rfl⟩) | (refine (splice_to s _ s sl sh K.out.2.2.2.1).mono ?_; rintro e w' ⟨rfl, rfl⟩) | (refine (splice_to f _ g fl fh K.out.2.2.2.2.2.1).mono ?_; rintro e w' ⟨rfl, rfl⟩))
    | (go_at_call 14; refine (waits_to f _ false fl fh K.out.2.2.2.2.2.2.1).mono ?_; rintro e w' ⟨rfl, rfl⟩)
    | (go_at_call 15; refine (spliced_to s _ true sl sh K.out.2.2.2.2.2.2.2.1).mono ?_; rintro e w' ⟨rfl, rfl⟩)
    | (go_at_call 13; first | (refine (cluster_to f _ c fl fh K.out.2.2.2.2.2.2.2.2.1).mono ?_; rintro e w' ⟨rfl, rfl⟩) | (refine (cluster_to x _ c h0 l1 K.out.2.2.2.2.2.2.2.2.2.1).mono ?_; rintro e w' ⟨rfl, rfl⟩) | (refine (cluster_to s _ c sl sh K.out.2.2.2.2.2.2.2.2.2.2).mono ?_; rintro e w' ⟨rfl, rfl⟩))
    | (go_at_call 16; refine (awake _).mono ?_; rintro e w' ⟨rfl, rfl⟩))
  go_ret
  exact ⟨rfl, Below.refl _ _⟩

end Go.Proofs.Ytobodplkdojjdaa.WalkPackTurns
