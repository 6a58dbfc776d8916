/-
  No cell of these rows narrows 'for every input' (looked for: loops, veiled, ifaces, maps, wideKeys, modest, calm, conditions, laid).
  DERIVED. THE GIVEN ROWS OF THIS SEAT. 6 by the template 'for every input the law returns true; each argument reads behind the call as it read before'; 0 by the template 'total and deterministic' (their statements: YtobodplkdojjdaaTotals.lean).
  GIVEN WITH THE SEED: the statements are not yours to turn. If you find one false, say at which input.
  Laid BY PROGRAM, IN A SANDBOX (cutbox-rows.mjs): the forced cells as the released guide's own fill.sh prints them over the translation a51d28c99e0ec98c… (all of the seat's roots in one cut). By AI agents, Wed Nov 11 2026. No macro, syntax, notation, axiom, sorry.
-/
import Derived.Test.YtobodplkdojjdaaChecked
import GoSem.Claim
import GoSem.ClaimJoined
import GoSem.ClaimMapViews
import Derived.JoinedTies
import Derived.KernelRfl
namespace Go.Proofs.Ytobodplkdojjdaa
/- THE CELL 'sum', in the pinned program and in every row, IS THE sha256 OF THE DUMP (.gsa) THAT YtobodplkdojjdaaProg.lean LOADS. Nothing in Lean hashes anything: it is a label: what it is worth is what the hold of that sum in a sandbox is worth. -/
noncomputable def Try.pinned : Pinned := { name := "ytobodplkdojjdaa", sum := "a51d28c99e0ec98c1a29a959593398e12689b768f43a9d39f9877f86c1779aad", checked := Try.checked }
namespace Rows
def none {H : Type} : Left H := { results := [], args := [] }

/-- 'weighlocklaw01.PackWords': WHATEVER THE INPUT: true; the input reads as it did. -/
def packWordsSpec : ChangeSpec := { name := "packWords", fn := fun _ => fun
  | [d1, d2, d3] => { results := [.lit (.bool true)], args := [d1, d2, d3] }
  | _ => none }
def packWordsRow : OpenClaim := { program := "ytobodplkdojjdaa", sum := "a51d28c99e0ec98c1a29a959593398e12689b768f43a9d39f9877f86c1779aad", func := "weighlock/weighlocklaw01.PackWords", spec := "packWords", apart := false }
def PackWordsSaid : Prop := packWordsRow.holds Try.pinned (OpenSpec.ofChange packWordsSpec)

/-- ITS FALSE NEIGHBOUR: 'it returns false'. Refute it at one input. -/
def packWordsWrong : ChangeSpec := { name := "packWords", fn := fun _ => fun
  | [d1, d2, d3] => { results := [.lit (.bool false)], args := [d1, d2, d3] }
  | _ => none }
def PackWordsWrongFalsely : Prop := packWordsRow.holds Try.pinned (OpenSpec.ofChange packWordsWrong)

/-- 'weighlocklaw01.PackBack': WHATEVER THE INPUT: true; the input reads as it did. -/
def packBackSpec : ChangeSpec := { name := "packBack", fn := fun _ => fun
  | [d] => { results := [.lit (.bool true)], args := [d] }
  | _ => none }
def packBackRow : OpenClaim := { program := "ytobodplkdojjdaa", sum := "a51d28c99e0ec98c1a29a959593398e12689b768f43a9d39f9877f86c1779aad", func := "weighlock/weighlocklaw01.PackBack", spec := "packBack", apart := false }
def PackBackSaid : Prop := packBackRow.holds Try.pinned (OpenSpec.ofChange packBackSpec)

/-- ITS FALSE NEIGHBOUR: 'it returns false'. Refute it at one input. -/
def packBackWrong : ChangeSpec := { name := "packBack", fn := fun _ => fun
  | [d] => { results := [.lit (.bool false)], args := [d] }
  | _ => none }
def PackBackWrongFalsely : Prop := packBackRow.holds Try.pinned (OpenSpec.ofChange packBackWrong)

/-- 'weighlocklaw01.PackParts': WHATEVER THE INPUT: true; the input reads as it did. -/
def packPartsSpec : ChangeSpec := { name := "packParts", fn := fun _ => fun
  | [d] => { results := [.lit (.bool true)], args := [d] }
  | _ => none }
def packPartsRow : OpenClaim := { program := "ytobodplkdojjdaa", sum := "a51d28c99e0ec98c1a29a959593398e12689b768f43a9d39f9877f86c1779aad", func := "weighlock/weighlocklaw01.PackParts", spec := "packParts", apart := false }
def PackPartsSaid : Prop := packPartsRow.holds Try.pinned (OpenSpec.ofChange packPartsSpec)

/-- ITS FALSE NEIGHBOUR: 'it returns false'. Refute it at one input. -/
def packPartsWrong : ChangeSpec := { name := "packParts", fn := fun _ => fun
  | [d] => { results := [.lit (.bool false)], args := [d] }
  | _ => none }
def PackPartsWrongFalsely : Prop := packPartsRow.holds Try.pinned (OpenSpec.ofChange packPartsWrong)

/-- 'weighlocklaw01.PackTurns': WHATEVER THE INPUT: true; the input reads as it did. -/
def packTurnsSpec : ChangeSpec := { name := "packTurns", fn := fun _ => fun
  | [d] => { results := [.lit (.bool true)], args := [d] }
  | _ => none }
def packTurnsRow : OpenClaim := { program := "ytobodplkdojjdaa", sum := "a51d28c99e0ec98c1a29a959593398e12689b768f43a9d39f9877f86c1779aad", func := "weighlock/weighlocklaw01.PackTurns", spec := "packTurns", apart := false }
def PackTurnsSaid : Prop := packTurnsRow.holds Try.pinned (OpenSpec.ofChange packTurnsSpec)

/-- ITS FALSE NEIGHBOUR: 'it returns false'. Refute it at one input. -/
def packTurnsWrong : ChangeSpec := { name := "packTurns", fn := fun _ => fun
  | [d] => { results := [.lit (.bool false)], args := [d] }
  | _ => none }
def PackTurnsWrongFalsely : Prop := packTurnsRow.holds Try.pinned (OpenSpec.ofChange packTurnsWrong)

/-- 'weighlocklaw01.PackSlots': WHATEVER THE INPUT: true; the input reads as it did. -/
def packSlotsSpec : ChangeSpec := { name := "packSlots", fn := fun _ => fun
  | [d1, d2] => { results := [.lit (.bool true)], args := [d1, d2] }
  | _ => none }
def packSlotsRow : OpenClaim := { program := "ytobodplkdojjdaa", sum := "a51d28c99e0ec98c1a29a959593398e12689b768f43a9d39f9877f86c1779aad", func := "weighlock/weighlocklaw01.PackSlots", spec := "packSlots", apart := false }
def PackSlotsSaid : Prop := packSlotsRow.holds Try.pinned (OpenSpec.ofChange packSlotsSpec)

/-- ITS FALSE NEIGHBOUR: 'it returns false'. Refute it at one input. -/
def packSlotsWrong : ChangeSpec := { name := "packSlots", fn := fun _ => fun
  | [d1, d2] => { results := [.lit (.bool false)], args := [d1, d2] }
  | _ => none }
def PackSlotsWrongFalsely : Prop := packSlotsRow.holds Try.pinned (OpenSpec.ofChange packSlotsWrong)

/-- 'weighlocklaw01.PackApart': WHATEVER THE INPUT: true; the input reads as it did. -/
def packApartSpec : ChangeSpec := { name := "packApart", fn := fun _ => fun
  | [d1, d2] => { results := [.lit (.bool true)], args := [d1, d2] }
  | _ => none }
def packApartRow : OpenClaim := { program := "ytobodplkdojjdaa", sum := "a51d28c99e0ec98c1a29a959593398e12689b768f43a9d39f9877f86c1779aad", func := "weighlock/weighlocklaw01.PackApart", spec := "packApart", apart := false }
def PackApartSaid : Prop := packApartRow.holds Try.pinned (OpenSpec.ofChange packApartSpec)

/-- ITS FALSE NEIGHBOUR: 'it returns false'. Refute it at one input. -/
def packApartWrong : ChangeSpec := { name := "packApart", fn := fun _ => fun
  | [d1, d2] => { results := [.lit (.bool false)], args := [d1, d2] }
  | _ => none }
def PackApartWrongFalsely : Prop := packApartRow.holds Try.pinned (OpenSpec.ofChange packApartWrong)

/- THE SECOND FORM. 'bulk': how many values and letters a reading holds, each counted each time it is reached (what is shared counts as often as it is met; a slice's spare places count too). A statement '..UptoSaid' is the law's where the arguments, and the package variables that the reading takes, are together of bulk at most 1048576: NARROWER than '..Said'. Prove '..Said' where nothing that the law and all that it calls make is longer than what came in: it says more and counts as full. Else prove '..UptoSaid'. A law counts once. -/
mutual
def uptoBulk {H : Type} : DataW H → Nat
  | .lit (.string bytes) => bytes.length + 1
  | .lit _ => 1
  | .nil => 1
  | .ptr d => uptoBulk d + 1
  | .slice elems spare => uptoBulkAll elems + uptoBulkAll spare + 1
  | .agg parts => uptoBulkAll parts + 1
  | .iface _ d => uptoBulk d + 1
  | .map entries => uptoBulkEntries entries + 1
  | .held _ => 1
def uptoBulkAll {H : Type} : List (DataW H) → Nat
  | [] => 0
  | d :: r => uptoBulk d + uptoBulkAll r
def uptoBulkEntries {H : Type} : List (Lit × DataW H) → Nat
  | [] => 0
  | x :: r => uptoBulkEntry x + uptoBulkEntries r
def uptoBulkEntry {H : Type} : Lit × DataW H → Nat
  | (.string bytes, d) => bytes.length + uptoBulk d + 1
  | (_, d) => uptoBulk d + 1
 end
def uptoSmall : (H : Type) → List (DataW H) → Bool := fun _ ds => decide (uptoBulkAll ds ≤ 1048576)
def OpenSpec.upto (s : _root_.Go.ChangeSpec) : _root_.Go.OpenSpec := { _root_.Go.OpenSpec.ofChange s with cond := some uptoSmall }

/-- 'weighlocklaw01.PackWords', WHERE WHAT IT READS IS OF BULK AT MOST 1048576: true; the input reads as it did. -/
def packWordsUptoRow : OpenClaim := { program := "ytobodplkdojjdaa", sum := "a51d28c99e0ec98c1a29a959593398e12689b768f43a9d39f9877f86c1779aad", func := "weighlock/weighlocklaw01.PackWords", spec := "packWords", apart := false, narrowed := true }
def PackWordsUptoSaid : Prop := packWordsUptoRow.holds Try.pinned (OpenSpec.upto packWordsSpec)

/-- 'weighlocklaw01.PackBack', WHERE WHAT IT READS IS OF BULK AT MOST 1048576: true; the input reads as it did. -/
def packBackUptoRow : OpenClaim := { program := "ytobodplkdojjdaa", sum := "a51d28c99e0ec98c1a29a959593398e12689b768f43a9d39f9877f86c1779aad", func := "weighlock/weighlocklaw01.PackBack", spec := "packBack", apart := false, narrowed := true }
def PackBackUptoSaid : Prop := packBackUptoRow.holds Try.pinned (OpenSpec.upto packBackSpec)

/-- 'weighlocklaw01.PackParts', WHERE WHAT IT READS IS OF BULK AT MOST 1048576: true; the input reads as it did. -/
def packPartsUptoRow : OpenClaim := { program := "ytobodplkdojjdaa", sum := "a51d28c99e0ec98c1a29a959593398e12689b768f43a9d39f9877f86c1779aad", func := "weighlock/weighlocklaw01.PackParts", spec := "packParts", apart := false, narrowed := true }
def PackPartsUptoSaid : Prop := packPartsUptoRow.holds Try.pinned (OpenSpec.upto packPartsSpec)

/-- 'weighlocklaw01.PackTurns', WHERE WHAT IT READS IS OF BULK AT MOST 1048576: true; the input reads as it did. -/
def packTurnsUptoRow : OpenClaim := { program := "ytobodplkdojjdaa", sum := "a51d28c99e0ec98c1a29a959593398e12689b768f43a9d39f9877f86c1779aad", func := "weighlock/weighlocklaw01.PackTurns", spec := "packTurns", apart := false, narrowed := true }
def PackTurnsUptoSaid : Prop := packTurnsUptoRow.holds Try.pinned (OpenSpec.upto packTurnsSpec)

/-- 'weighlocklaw01.PackSlots', WHERE WHAT IT READS IS OF BULK AT MOST 1048576: true; the input reads as it did. -/
def packSlotsUptoRow : OpenClaim := { program := "ytobodplkdojjdaa", sum := "a51d28c99e0ec98c1a29a959593398e12689b768f43a9d39f9877f86c1779aad", func := "weighlock/weighlocklaw01.PackSlots", spec := "packSlots", apart := false, narrowed := true }
def PackSlotsUptoSaid : Prop := packSlotsUptoRow.holds Try.pinned (OpenSpec.upto packSlotsSpec)

/-- 'weighlocklaw01.PackApart', WHERE WHAT IT READS IS OF BULK AT MOST 1048576: true; the input reads as it did. -/
def packApartUptoRow : OpenClaim := { program := "ytobodplkdojjdaa", sum := "a51d28c99e0ec98c1a29a959593398e12689b768f43a9d39f9877f86c1779aad", func := "weighlock/weighlocklaw01.PackApart", spec := "packApart", apart := false, narrowed := true }
def PackApartUptoSaid : Prop := packApartUptoRow.holds Try.pinned (OpenSpec.upto packApartSpec)

end Rows
end Go.Proofs.Ytobodplkdojjdaa
