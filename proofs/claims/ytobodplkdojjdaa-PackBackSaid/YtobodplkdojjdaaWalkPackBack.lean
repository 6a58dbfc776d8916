/- The law PackBack: any word is made again of what it holds; for all inputs. -/
import Derived.Test.YtobodplkdojjdaaPackWord
import Derived.OpenShut
namespace Go.Proofs.Ytobodplkdojjdaa.WalkPackBack
open Go Go.RowKit Go.Proofs.Ytobodplkdojjdaa.Bits Go.Proofs.Ytobodplkdojjdaa.Pack

set_option maxHeartbeats 2000000 in
theorem walk (x : Int) (w : World) (wf : (Lit.int .u32 x).wf = true) : Calls Try.prog 4 #[.int .u32 x] w fun e w' => e = .returned (.bool true) ∧ Below w.heap.size w w' := by
  obtain ⟨h0, h1⟩ := bounds_u32 wf
  obtain ⟨c, a, b, c0, c1, hx⟩ := parts4 x h0 (by omega)
  have ha := b2_b a
  have hb := b2_b b
  have hcl := clamp_in c c0 c1
  have l1 : x < 4294967296 := by omega
  have q1 : c = x / 4 := by omega
  have q2 : b2 a = x / 2 % 2 := by omega
  have q3 : b2 b = x % 2 := by omega
  have Q1 := Lib.hid q1; have Q2 := Lib.hid q2; have Q3 := Lib.hid q3; have HX := Lib.hid hx; have HC := Lib.hid hcl
  clear q1 q2 q3 hx hcl wf
  go_enter Try.func4, Try.ntmps4
  go_wp2_with (first
    | (go_at_call 13; refine (cluster_to _ _ c h0 l1 Q1.out).mono ?_; rintro e w' ⟨rfl, rfl⟩)
    | (go_at_call 14; refine (waits_to _ _ a h0 l1 Q2.out).mono ?_; rintro e w' ⟨rfl, rfl⟩)
    | (go_at_call 15; refine (spliced_to _ _ b h0 l1 Q3.out).mono ?_; rintro e w' ⟨rfl, rfl⟩)
    | (go_at_call 9; refine (pack_to _ _ _ _ x (by rw [HC.out]; exact HX.out)).mono ?_; rintro e w' ⟨rfl, rfl⟩)
    | (go_at_call 16; refine (awake _).mono ?_; rintro e w' ⟨rfl, rfl⟩))
  go_ret
  exact ⟨rfl, Below.refl _ _⟩

end Go.Proofs.Ytobodplkdojjdaa.WalkPackBack
