/- The law PackParts: any word holds what the document says, freed and spliced too; for all inputs. -/
import Derived.Test.YtobodplkdojjdaaPackWord
import Derived.OpenShut
namespace Go.Proofs.Ytobodplkdojjdaa.WalkPackParts
open Go Go.RowKit Go.Proofs.Ytobodplkdojjdaa.Bits Go.Proofs.Ytobodplkdojjdaa.Pack

set_option maxHeartbeats 2000000 in
theorem walk (x : Int) (w : World) (wf : (Lit.int .u32 x).wf = true) : Calls Try.prog 5 #[.int .u32 x] w fun e w' => e = .returned (.bool true) ∧ Below w.heap.size w w' := by
  obtain ⟨h0, h1⟩ := bounds_u32 wf
  obtain ⟨c, a, b, c0, c1, hx⟩ := parts4 x h0 (by omega)
  have ha := b2_b a
  have hb := b2_b b
  have hcl := clamp_in c c0 c1
  have l1 : x < 4294967296 := by omega
  have q1 : c = x / 4 := by omega
  have q2 : b2 a = x / 2 % 2 := by omega
  have q3 : b2 b = x % 2 := by omega
  obtain ⟨f, hf⟩ : ∃ f, f = c * 4 + 0 * 2 + b2 b := ⟨_, rfl⟩
  obtain ⟨s, hs⟩ : ∃ s, s = c * 4 + b2 a * 2 + 1 := ⟨_, rfl⟩
  have ef : f = x - 2 * (x / 2 % 2) := by omega
  have es : s = x + 1 - x % 2 := by omega
  have HF := Lib.hid hf; have HS := Lib.hid hs; have EF := Lib.hid ef; have ES := Lib.hid es
  have Q1 := Lib.hid q1; have Q2 := Lib.hid q2; have Q3 := Lib.hid q3; have HC := Lib.hid hcl
  clear q1 q2 q3 hx hcl hf hs ef es wf
  go_enter Try.func5, Try.ntmps5
  go_wp2_with (first
    | (go_at_call 12; refine (parts_to _ _ h0 l1 c (b2 a) (b2 b) Q1.out Q2.out Q3.out).mono ?_; rintro e w' ⟨rfl, rfl⟩)
    | (go_at_call 13; refine (cluster_to _ _ c h0 l1 Q1.out).mono ?_; rintro e w' ⟨rfl, rfl⟩)
    | (go_at_call 14; refine (waits_to _ _ a h0 l1 Q2.out).mono ?_; rintro e w' ⟨rfl, rfl⟩)
    | (go_at_call 15; refine (spliced_to _ _ b h0 l1 Q3.out).mono ?_; rintro e w' ⟨rfl, rfl⟩)
    | (go_at_call 11; refine (one_to _ _).mono ?_; rintro e w' ⟨rfl, rfl⟩)
    | (go_at_call 17; refine (free_to _ _ f h0 l1 EF.out).mono ?_; rintro e w' ⟨rfl, rfl⟩)
    | (go_at_call 18; refine (splice_to _ _ s h0 l1 ES.out).mono ?_; rintro e w' ⟨rfl, rfl⟩)
    | (go_at_call 10; first | (with_reducible refine (word_to c 0 (b2 b) (.inl rfl) (b2_or _) _ f (by rw [HC.out]; exact HF.out)).mono ?_; rintro e w' ⟨rfl, rfl⟩) | (with_reducible refine (word_to c (b2 a) 1 (b2_or _) (.inr rfl) _ s (by rw [HC.out]; exact HS.out)).mono ?_; rintro e w' ⟨rfl, rfl⟩))
    | (go_at_call 16; refine (awake _).mono ?_; rintro e w' ⟨rfl, rfl⟩))
  go_ret
  exact ⟨rfl, Below.refl _ _⟩

end Go.Proofs.Ytobodplkdojjdaa.WalkPackParts
