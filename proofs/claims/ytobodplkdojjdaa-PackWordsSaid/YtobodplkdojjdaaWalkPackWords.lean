/- The law PackWords: any cluster and truths make the document's word, and come out of it; for all inputs. -/
import Derived.Test.YtobodplkdojjdaaPackWord
import Derived.OpenShut
namespace Go.Proofs.Ytobodplkdojjdaa.WalkPackWords
open Go Go.RowKit Go.Proofs.Ytobodplkdojjdaa.Bits Go.Proofs.Ytobodplkdojjdaa.Pack

set_option maxHeartbeats 2000000 in
theorem walk (c : Int) (a b : Bool) (w : World) : Calls Try.prog 3 #[.int .i64 c, .bool a, .bool b] w fun e w' => e = .returned (.bool true) ∧ Below w.heap.size w w' := by
  have hm := clamp_b c
  obtain ⟨m, hm'⟩ : ∃ m, clamp c = m := ⟨_, rfl⟩
  rw [hm'] at hm
  have ha := b2_b a
  have hb := b2_b b
  obtain ⟨r, hr⟩ : ∃ r, r = m * 4 + b2 a * 2 + b2 b := ⟨_, rfl⟩
  have l0 : 0 ≤ r := by omega
  have l1 : r < 4294967296 := by omega
  have q1 : m = r / 4 := by omega
  have q2 : b2 a = r / 2 % 2 := by omega
  have q3 : b2 b = r % 2 := by omega
  have Q1 := Lib.hid q1; have Q2 := Lib.hid q2; have Q3 := Lib.hid q3; have HR := Lib.hid hr; have HM := Lib.hid hm'
  clear q1 q2 q3 hr hm'
  go_enter Try.func3, Try.ntmps3
  go_wp2_with (first
    | (go_at_call 9; refine (pack_to _ _ _ _ r (by rw [HM.out]; exact HR.out)).mono ?_; rintro e w' ⟨rfl, rfl⟩)
    | (go_at_call 11; refine (one_to _ _).mono ?_; rintro e w' ⟨rfl, rfl⟩)
    | (go_at_call 10; refine (word_to _ _ _ (b2_or _) (b2_or _) _ r (by rw [HM.out]; exact HR.out)).mono ?_; rintro e w' ⟨rfl, rfl⟩)
    | (go_at_call 12; refine (parts_to _ _ l0 l1 m (b2 a) (b2 b) Q1.out Q2.out Q3.out).mono ?_; rintro e w' ⟨rfl, rfl⟩)
    | (go_at_call 13; refine (cluster_to _ _ m l0 l1 Q1.out).mono ?_; rintro e w' ⟨rfl, rfl⟩)
    | (go_at_call 14; refine (waits_to _ _ a l0 l1 Q2.out).mono ?_; rintro e w' ⟨rfl, rfl⟩)
    | (go_at_call 15; refine (spliced_to _ _ b l0 l1 Q3.out).mono ?_; rintro e w' ⟨rfl, rfl⟩)
    | (go_at_call 16; refine (awake _).mono ?_; rintro e w' ⟨rfl, rfl⟩))
  go_ret
  exact ⟨rfl, Below.refl _ _⟩

end Go.Proofs.Ytobodplkdojjdaa.WalkPackWords
