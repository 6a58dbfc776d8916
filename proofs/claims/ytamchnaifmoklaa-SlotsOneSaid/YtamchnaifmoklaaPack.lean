/- Package pack, and the document's answer for it: what each function returns. -/
import Derived.Test.YtamchnaifmoklaaProg
import Derived.Test.YtamchnaifmoklaaBits
import Derived.WalkKit
import Derived.BigQuiet
import Derived.Lib.Hide
import Derived.Deep.QuietTactic
namespace Go.Proofs.Ytamchnaifmoklaa.Pack
open Go Go.RowKit Go.Proofs.Ytamchnaifmoklaa.Bits

theorem ret_bool {a b : Bool} (h : a = b) : Ending.returned (.bool a) = .returned (.bool b) := by rw [h]
theorem ret_int {k : IntKind} {a b : Int} (h : a = b) : Ending.returned (.int k a) = .returned (.int k b) := by rw [h]

def clamp (c : Int) : Int := if c < 0 then 0 else if 1073741823 < c then 1073741823 else c
theorem clamp_b (c : Int) : 0 ≤ clamp c ∧ clamp c ≤ 1073741823 := by unfold clamp; (repeat' split) <;> omega
def b2 (a : Bool) : Int := if a then 1 else 0



end Go.Proofs.Ytamchnaifmoklaa.Pack
