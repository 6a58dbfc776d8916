/-
  No cell of these rows narrows 'for every input' (looked for: loops, veiled, ifaces, maps, wideKeys, modest, calm, conditions, laid).
  DERIVED. THE GIVEN ROWS OF THIS SEAT. 4 by the template 'for every input the law returns true; each argument reads behind the call as it read before'; 0 by the template 'total and deterministic' (their statements: YtpagebcokikmkaaTotals.lean).
  GIVEN WITH THE SEED: the statements are not yours to turn. If you find one false, say at which input.
  Laid BY PROGRAM, IN A SANDBOX (cutbox-rows.mjs): the forced cells as the released guide's own fill.sh prints them over the translation 03a735e27dd8a76a… (all of the seat's roots in one cut). By AI agents, Wed Nov 11 2026. No macro, syntax, notation, axiom, sorry.
-/
import Derived.Test.YtpagebcokikmkaaChecked
import GoSem.Claim
import GoSem.ClaimJoined
import GoSem.ClaimMapViews
import Derived.JoinedTies
import Derived.KernelRfl
namespace Go.Proofs.Ytpagebcokikmkaa
/- THE CELL 'sum', in the pinned program and in every row, IS THE sha256 OF THE DUMP (.gsa) THAT YtpagebcokikmkaaProg.lean LOADS. Nothing in Lean hashes anything: it is a label: what it is worth is what the hold of that sum in a sandbox is worth. -/
noncomputable def Try.pinned : Pinned := { name := "ytpagebcokikmkaa", sum := "03a735e27dd8a76a89d65844462c7861a8847fc786307bf82490014c8fb89cbb", checked := Try.checked }
namespace Rows
def none {H : Type} : Left H := { results := [], args := [] }

/-- 'weighlocklaw22.SectionParts': WHATEVER THE INPUT: true; the input reads as it did. -/
def sectionPartsSpec : ChangeSpec := { name := "sectionParts", fn := fun _ => fun
  | [d1, d2] => { results := [.lit (.bool true)], args := [d1, d2] }
  | _ => none }
def sectionPartsRow : OpenClaim := { program := "ytpagebcokikmkaa", sum := "03a735e27dd8a76a89d65844462c7861a8847fc786307bf82490014c8fb89cbb", func := "weighlock/weighlocklaw22.SectionParts", spec := "sectionParts", apart := false }
def SectionPartsSaid : Prop := sectionPartsRow.holds Try.pinned (OpenSpec.ofChange sectionPartsSpec)

/-- ITS FALSE NEIGHBOUR: 'it returns false'. Refute it at one input. -/
def sectionPartsWrong : ChangeSpec := { name := "sectionParts", fn := fun _ => fun
  | [d1, d2] => { results := [.lit (.bool false)], args := [d1, d2] }
  | _ => none }
def SectionPartsWrongFalsely : Prop := sectionPartsRow.holds Try.pinned (OpenSpec.ofChange sectionPartsWrong)

/-- 'weighlocklaw22.SectionJoins': WHATEVER THE INPUT: true; the input reads as it did. -/
def sectionJoinsSpec : ChangeSpec := { name := "sectionJoins", fn := fun _ => fun
  | [d1, d2, d3] => { results := [.lit (.bool true)], args := [d1, d2, d3] }
  | _ => none }
def sectionJoinsRow : OpenClaim := { program := "ytpagebcokikmkaa", sum := "03a735e27dd8a76a89d65844462c7861a8847fc786307bf82490014c8fb89cbb", func := "weighlock/weighlocklaw22.SectionJoins", spec := "sectionJoins", apart := false }
def SectionJoinsSaid : Prop := sectionJoinsRow.holds Try.pinned (OpenSpec.ofChange sectionJoinsSpec)

/-- ITS FALSE NEIGHBOUR: 'it returns false'. Refute it at one input. -/
def sectionJoinsWrong : ChangeSpec := { name := "sectionJoins", fn := fun _ => fun
  | [d1, d2, d3] => { results := [.lit (.bool false)], args := [d1, d2, d3] }
  | _ => none }
def SectionJoinsWrongFalsely : Prop := sectionJoinsRow.holds Try.pinned (OpenSpec.ofChange sectionJoinsWrong)

/-- 'weighlocklaw22.SectionRuns': WHATEVER THE INPUT: true; the input reads as it did. -/
def sectionRunsSpec : ChangeSpec := { name := "sectionRuns", fn := fun _ => fun
  | [d1, d2] => { results := [.lit (.bool true)], args := [d1, d2] }
  | _ => none }
def sectionRunsRow : OpenClaim := { program := "ytpagebcokikmkaa", sum := "03a735e27dd8a76a89d65844462c7861a8847fc786307bf82490014c8fb89cbb", func := "weighlock/weighlocklaw22.SectionRuns", spec := "sectionRuns", apart := false }
def SectionRunsSaid : Prop := sectionRunsRow.holds Try.pinned (OpenSpec.ofChange sectionRunsSpec)

/-- ITS FALSE NEIGHBOUR: 'it returns false'. Refute it at one input. -/
def sectionRunsWrong : ChangeSpec := { name := "sectionRuns", fn := fun _ => fun
  | [d1, d2] => { results := [.lit (.bool false)], args := [d1, d2] }
  | _ => none }
def SectionRunsWrongFalsely : Prop := sectionRunsRow.holds Try.pinned (OpenSpec.ofChange sectionRunsWrong)

/-- 'weighlocklaw22.SectionChecks': WHATEVER THE INPUT: true; the input reads as it did. -/
def sectionChecksSpec : ChangeSpec := { name := "sectionChecks", fn := fun _ => fun
  | [d] => { results := [.lit (.bool true)], args := [d] }
  | _ => none }
def sectionChecksRow : OpenClaim := { program := "ytpagebcokikmkaa", sum := "03a735e27dd8a76a89d65844462c7861a8847fc786307bf82490014c8fb89cbb", func := "weighlock/weighlocklaw22.SectionChecks", spec := "sectionChecks", apart := false }
def SectionChecksSaid : Prop := sectionChecksRow.holds Try.pinned (OpenSpec.ofChange sectionChecksSpec)

/-- ITS FALSE NEIGHBOUR: 'it returns false'. Refute it at one input. -/
def sectionChecksWrong : ChangeSpec := { name := "sectionChecks", fn := fun _ => fun
  | [d] => { results := [.lit (.bool false)], args := [d] }
  | _ => none }
def SectionChecksWrongFalsely : Prop := sectionChecksRow.holds Try.pinned (OpenSpec.ofChange sectionChecksWrong)

/- THE SECOND FORM. 'bulk': how many values and letters a reading holds, each counted each time it is reached (what is shared counts as often as it is met; a slice's spare places count too). A statement '..UptoSaid' is the law's where the arguments, and the package variables that the reading takes, are together of bulk at most 1048576: NARROWER than '..Said'. Prove '..Said' where nothing that the law and all that it calls make is longer than what came in: it says more and counts as full. Else prove '..UptoSaid'. A law counts once. -/
mutual
def uptoBulk {H : Type} : DataW H → Nat
  | .lit (.string bytes) => bytes.length + 1
  | .lit _ => 1
  | .nil => 1
  | .ptr d => uptoBulk d + 1
  | .slice elems spare => uptoBulkAll elems + uptoBulkAll spare + 1
  | .agg parts => uptoBulkAll parts + 1
  | .iface _ d => uptoBulk d + 1
  | .map entries => uptoBulkEntries entries + 1
  | .held _ => 1
def uptoBulkAll {H : Type} : List (DataW H) → Nat
  | [] => 0
  | d :: r => uptoBulk d + uptoBulkAll r
def uptoBulkEntries {H : Type} : List (Lit × DataW H) → Nat
  | [] => 0
  | x :: r => uptoBulkEntry x + uptoBulkEntries r
def uptoBulkEntry {H : Type} : Lit × DataW H → Nat
  | (.string bytes, d) => bytes.length + uptoBulk d + 1
  | (_, d) => uptoBulk d + 1
 end
def uptoSmall : (H : Type) → List (DataW H) → Bool := fun _ ds => decide (uptoBulkAll ds ≤ 1048576)
def OpenSpec.upto (s : _root_.Go.ChangeSpec) : _root_.Go.OpenSpec := { _root_.Go.OpenSpec.ofChange s with cond := some uptoSmall }

/-- 'weighlocklaw22.SectionParts', WHERE WHAT IT READS IS OF BULK AT MOST 1048576: true; the input reads as it did. -/
def sectionPartsUptoRow : OpenClaim := { program := "ytpagebcokikmkaa", sum := "03a735e27dd8a76a89d65844462c7861a8847fc786307bf82490014c8fb89cbb", func := "weighlock/weighlocklaw22.SectionParts", spec := "sectionParts", apart := false, narrowed := true }
def SectionPartsUptoSaid : Prop := sectionPartsUptoRow.holds Try.pinned (OpenSpec.upto sectionPartsSpec)

/-- 'weighlocklaw22.SectionJoins', WHERE WHAT IT READS IS OF BULK AT MOST 1048576: true; the input reads as it did. -/
def sectionJoinsUptoRow : OpenClaim := { program := "ytpagebcokikmkaa", sum := "03a735e27dd8a76a89d65844462c7861a8847fc786307bf82490014c8fb89cbb", func := "weighlock/weighlocklaw22.SectionJoins", spec := "sectionJoins", apart := false, narrowed := true }
def SectionJoinsUptoSaid : Prop := sectionJoinsUptoRow.holds Try.pinned (OpenSpec.upto sectionJoinsSpec)

/-- 'weighlocklaw22.SectionRuns', WHERE WHAT IT READS IS OF BULK AT MOST 1048576: true; the input reads as it did. -/
def sectionRunsUptoRow : OpenClaim := { program := "ytpagebcokikmkaa", sum := "03a735e27dd8a76a89d65844462c7861a8847fc786307bf82490014c8fb89cbb", func := "weighlock/weighlocklaw22.SectionRuns", spec := "sectionRuns", apart := false, narrowed := true }
def SectionRunsUptoSaid : Prop := sectionRunsUptoRow.holds Try.pinned (OpenSpec.upto sectionRunsSpec)

/-- 'weighlocklaw22.SectionChecks', WHERE WHAT IT READS IS OF BULK AT MOST 1048576: true; the input reads as it did. -/
def sectionChecksUptoRow : OpenClaim := { program := "ytpagebcokikmkaa", sum := "03a735e27dd8a76a89d65844462c7861a8847fc786307bf82490014c8fb89cbb", func := "weighlock/weighlocklaw22.SectionChecks", spec := "sectionChecks", apart := false, narrowed := true }
def SectionChecksUptoSaid : Prop := sectionChecksUptoRow.holds Try.pinned (OpenSpec.upto sectionChecksSpec)

end Rows
end Go.Proofs.Ytpagebcokikmkaa
