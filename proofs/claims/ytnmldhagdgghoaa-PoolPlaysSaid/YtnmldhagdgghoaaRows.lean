/-
  No cell of these rows narrows 'for every input' (looked for: loops, veiled, ifaces, maps, wideKeys, modest, calm, conditions, laid).
  DERIVED. THE GIVEN ROWS OF THIS SEAT. 3 by the template 'for every input the law returns true; each argument reads behind the call as it read before'; 0 by the template 'total and deterministic' (their statements: YtnmldhagdgghoaaTotals.lean).
  GIVEN WITH THE SEED: the statements are not yours to turn. If you find one false, say at which input.
  Laid BY PROGRAM, IN A SANDBOX (cutbox-rows.mjs): the forced cells as the released guide's own fill.sh prints them over the translation 04a447856ebb43e3… (all of the seat's roots in one cut). By AI agents, Wed Nov 11 2026. No macro, syntax, notation, axiom, sorry.
-/
import Derived.Test.YtnmldhagdgghoaaChecked
import GoSem.Claim
import GoSem.ClaimJoined
import GoSem.ClaimMapViews
import Derived.JoinedTies
import Derived.KernelRfl
namespace Go.Proofs.Ytnmldhagdgghoaa
/- THE CELL 'sum', in the pinned program and in every row, IS THE sha256 OF THE DUMP (.gsa) THAT YtnmldhagdgghoaaProg.lean LOADS. Nothing in Lean hashes anything: it is a label: what it is worth is what the hold of that sum in a sandbox is worth. -/
noncomputable def Try.pinned : Pinned := { name := "ytnmldhagdgghoaa", sum := "04a447856ebb43e3999cb0a3b68af1c19561deec72c1f1a75c4c6aec02dee59e", checked := Try.checked }
namespace Rows
def none {H : Type} : Left H := { results := [], args := [] }

/-- 'weighlocklaw06.PoolTurns': WHATEVER THE INPUT: true; the input reads as it did. -/
def poolTurnsSpec : ChangeSpec := { name := "poolTurns", fn := fun _ => fun
  | [d1, d2, d3] => { results := [.lit (.bool true)], args := [d1, d2, d3] }
  | _ => none }
def poolTurnsRow : OpenClaim := { program := "ytnmldhagdgghoaa", sum := "04a447856ebb43e3999cb0a3b68af1c19561deec72c1f1a75c4c6aec02dee59e", func := "weighlock/weighlocklaw06.PoolTurns", spec := "poolTurns", unfollowed := true, recurses := true, apart := false }
def PoolTurnsSaid : Prop := poolTurnsRow.holds Try.pinned (OpenSpec.ofChange poolTurnsSpec)

/-- ITS FALSE NEIGHBOUR: 'it returns false'. Refute it at one input. -/
def poolTurnsWrong : ChangeSpec := { name := "poolTurns", fn := fun _ => fun
  | [d1, d2, d3] => { results := [.lit (.bool false)], args := [d1, d2, d3] }
  | _ => none }
def PoolTurnsWrongFalsely : Prop := poolTurnsRow.holds Try.pinned (OpenSpec.ofChange poolTurnsWrong)

/-- 'weighlocklaw06.PoolWhole': WHATEVER THE INPUT: true; the input reads as it did. -/
def poolWholeSpec : ChangeSpec := { name := "poolWhole", fn := fun _ => fun
  | [d1, d2, d3] => { results := [.lit (.bool true)], args := [d1, d2, d3] }
  | _ => none }
def poolWholeRow : OpenClaim := { program := "ytnmldhagdgghoaa", sum := "04a447856ebb43e3999cb0a3b68af1c19561deec72c1f1a75c4c6aec02dee59e", func := "weighlock/weighlocklaw06.PoolWhole", spec := "poolWhole", unfollowed := true, recurses := true, apart := false }
def PoolWholeSaid : Prop := poolWholeRow.holds Try.pinned (OpenSpec.ofChange poolWholeSpec)

/-- ITS FALSE NEIGHBOUR: 'it returns false'. Refute it at one input. -/
def poolWholeWrong : ChangeSpec := { name := "poolWhole", fn := fun _ => fun
  | [d1, d2, d3] => { results := [.lit (.bool false)], args := [d1, d2, d3] }
  | _ => none }
def PoolWholeWrongFalsely : Prop := poolWholeRow.holds Try.pinned (OpenSpec.ofChange poolWholeWrong)

/-- 'weighlocklaw06.PoolPlays': WHATEVER THE INPUT: true; the input reads as it did. -/
def poolPlaysSpec : ChangeSpec := { name := "poolPlays", fn := fun _ => fun
  | [d1, d2, d3] => { results := [.lit (.bool true)], args := [d1, d2, d3] }
  | _ => none }
def poolPlaysRow : OpenClaim := { program := "ytnmldhagdgghoaa", sum := "04a447856ebb43e3999cb0a3b68af1c19561deec72c1f1a75c4c6aec02dee59e", func := "weighlock/weighlocklaw06.PoolPlays", spec := "poolPlays", unfollowed := true, recurses := true, apart := false }
def PoolPlaysSaid : Prop := poolPlaysRow.holds Try.pinned (OpenSpec.ofChange poolPlaysSpec)

/-- ITS FALSE NEIGHBOUR: 'it returns false'. Refute it at one input. -/
def poolPlaysWrong : ChangeSpec := { name := "poolPlays", fn := fun _ => fun
  | [d1, d2, d3] => { results := [.lit (.bool false)], args := [d1, d2, d3] }
  | _ => none }
def PoolPlaysWrongFalsely : Prop := poolPlaysRow.holds Try.pinned (OpenSpec.ofChange poolPlaysWrong)

/- THE SECOND FORM. 'bulk': how many values and letters a reading holds, each counted each time it is reached (what is shared counts as often as it is met; a slice's spare places count too). A statement '..UptoSaid' is the law's where the arguments, and the package variables that the reading takes, are together of bulk at most 1048576: NARROWER than '..Said'. Prove '..Said' where nothing that the law and all that it calls make is longer than what came in: it says more and counts as full. Else prove '..UptoSaid'. A law counts once. -/
mutual
def uptoBulk {H : Type} : DataW H → Nat
  | .lit (.string bytes) => bytes.length + 1
  | .lit _ => 1
  | .nil => 1
  | .ptr d => uptoBulk d + 1
  | .slice elems spare => uptoBulkAll elems + uptoBulkAll spare + 1
  | .agg parts => uptoBulkAll parts + 1
  | .iface _ d => uptoBulk d + 1
  | .map entries => uptoBulkEntries entries + 1
  | .held _ => 1
def uptoBulkAll {H : Type} : List (DataW H) → Nat
  | [] => 0
  | d :: r => uptoBulk d + uptoBulkAll r
def uptoBulkEntries {H : Type} : List (Lit × DataW H) → Nat
  | [] => 0
  | x :: r => uptoBulkEntry x + uptoBulkEntries r
def uptoBulkEntry {H : Type} : Lit × DataW H → Nat
  | (.string bytes, d) => bytes.length + uptoBulk d + 1
  | (_, d) => uptoBulk d + 1
 end
def uptoSmall : (H : Type) → List (DataW H) → Bool := fun _ ds => decide (uptoBulkAll ds ≤ 1048576)
def OpenSpec.upto (s : _root_.Go.ChangeSpec) : _root_.Go.OpenSpec := { _root_.Go.OpenSpec.ofChange s with cond := some uptoSmall }

/-- 'weighlocklaw06.PoolTurns', WHERE WHAT IT READS IS OF BULK AT MOST 1048576: true; the input reads as it did. -/
def poolTurnsUptoRow : OpenClaim := { program := "ytnmldhagdgghoaa", sum := "04a447856ebb43e3999cb0a3b68af1c19561deec72c1f1a75c4c6aec02dee59e", func := "weighlock/weighlocklaw06.PoolTurns", spec := "poolTurns", unfollowed := true, recurses := true, apart := false, narrowed := true }
def PoolTurnsUptoSaid : Prop := poolTurnsUptoRow.holds Try.pinned (OpenSpec.upto poolTurnsSpec)

/-- 'weighlocklaw06.PoolWhole', WHERE WHAT IT READS IS OF BULK AT MOST 1048576: true; the input reads as it did. -/
def poolWholeUptoRow : OpenClaim := { program := "ytnmldhagdgghoaa", sum := "04a447856ebb43e3999cb0a3b68af1c19561deec72c1f1a75c4c6aec02dee59e", func := "weighlock/weighlocklaw06.PoolWhole", spec := "poolWhole", unfollowed := true, recurses := true, apart := false, narrowed := true }
def PoolWholeUptoSaid : Prop := poolWholeUptoRow.holds Try.pinned (OpenSpec.upto poolWholeSpec)

/-- 'weighlocklaw06.PoolPlays', WHERE WHAT IT READS IS OF BULK AT MOST 1048576: true; the input reads as it did. -/
def poolPlaysUptoRow : OpenClaim := { program := "ytnmldhagdgghoaa", sum := "04a447856ebb43e3999cb0a3b68af1c19561deec72c1f1a75c4c6aec02dee59e", func := "weighlock/weighlocklaw06.PoolPlays", spec := "poolPlays", unfollowed := true, recurses := true, apart := false, narrowed := true }
def PoolPlaysUptoSaid : Prop := poolPlaysUptoRow.holds Try.pinned (OpenSpec.upto poolPlaysSpec)

end Rows
end Go.Proofs.Ytnmldhagdgghoaa
