/-
  No cell of these rows narrows 'for every input' (looked for: loops, veiled, ifaces, maps, wideKeys, modest, calm, conditions, laid).
  DERIVED. THE GIVEN ROWS OF THIS SEAT. 3 by the template 'for every input the law returns true; each argument reads behind the call as it read before'; 0 by the template 'total and deterministic' (their statements: YtoohkcpkodpnmaaTotals.lean).
  GIVEN WITH THE SEED: the statements are not yours to turn. If you find one false, say at which input.
  Laid BY PROGRAM, IN A SANDBOX (cutbox-rows.mjs): the forced cells as the released guide's own fill.sh prints them over the translation 72ee3daca85a32ab… (all of the seat's roots in one cut). By AI agents, Wed Nov 11 2026. No macro, syntax, notation, axiom, sorry.
-/
import Derived.Test.YtoohkcpkodpnmaaChecked
import GoSem.Claim
import GoSem.ClaimJoined
import GoSem.ClaimMapViews
import Derived.JoinedTies
import Derived.KernelRfl
namespace Go.Proofs.Ytoohkcpkodpnmaa
/- THE CELL 'sum', in the pinned program and in every row, IS THE sha256 OF THE DUMP (.gsa) THAT YtoohkcpkodpnmaaProg.lean LOADS. Nothing in Lean hashes anything: it is a label: what it is worth is what the hold of that sum in a sandbox is worth. -/
noncomputable def Try.pinned : Pinned := { name := "ytoohkcpkodpnmaa", sum := "72ee3daca85a32ab724762a2e15c5f1ba10834013cf2779b2acc5dde515ea9a6", checked := Try.checked }
namespace Rows
def none {H : Type} : Left H := { results := [], args := [] }

/-- 'weighlocklaw10.FlatTurns': WHATEVER THE INPUT: true; the input reads as it did. -/
def flatTurnsSpec : ChangeSpec := { name := "flatTurns", fn := fun _ => fun
  | [d1, d2, d3] => { results := [.lit (.bool true)], args := [d1, d2, d3] }
  | _ => none }
def flatTurnsRow : OpenClaim := { program := "ytoohkcpkodpnmaa", sum := "72ee3daca85a32ab724762a2e15c5f1ba10834013cf2779b2acc5dde515ea9a6", func := "weighlock/weighlocklaw10.FlatTurns", spec := "flatTurns", inPlace := ["sync/atomic.StoreUint32", "sync/atomic.AddUint32", "sync/atomic.LoadUint32"], unfollowed := true, recurses := true, apart := false }
def FlatTurnsSaid : Prop := flatTurnsRow.holds Try.pinned (OpenSpec.ofChange flatTurnsSpec)

/-- ITS FALSE NEIGHBOUR: 'it returns false'. Refute it at one input. -/
def flatTurnsWrong : ChangeSpec := { name := "flatTurns", fn := fun _ => fun
  | [d1, d2, d3] => { results := [.lit (.bool false)], args := [d1, d2, d3] }
  | _ => none }
def FlatTurnsWrongFalsely : Prop := flatTurnsRow.holds Try.pinned (OpenSpec.ofChange flatTurnsWrong)

/-- 'weighlocklaw10.FlatOrder': WHATEVER THE INPUT: true; the input reads as it did. -/
def flatOrderSpec : ChangeSpec := { name := "flatOrder", fn := fun _ => fun
  | [d1, d2, d3] => { results := [.lit (.bool true)], args := [d1, d2, d3] }
  | _ => none }
def flatOrderRow : OpenClaim := { program := "ytoohkcpkodpnmaa", sum := "72ee3daca85a32ab724762a2e15c5f1ba10834013cf2779b2acc5dde515ea9a6", func := "weighlock/weighlocklaw10.FlatOrder", spec := "flatOrder", inPlace := ["sync/atomic.StoreUint32", "sync/atomic.AddUint32", "sync/atomic.LoadUint32"], unfollowed := true, recurses := true, apart := false }
def FlatOrderSaid : Prop := flatOrderRow.holds Try.pinned (OpenSpec.ofChange flatOrderSpec)

/-- ITS FALSE NEIGHBOUR: 'it returns false'. Refute it at one input. -/
def flatOrderWrong : ChangeSpec := { name := "flatOrder", fn := fun _ => fun
  | [d1, d2, d3] => { results := [.lit (.bool false)], args := [d1, d2, d3] }
  | _ => none }
def FlatOrderWrongFalsely : Prop := flatOrderRow.holds Try.pinned (OpenSpec.ofChange flatOrderWrong)

/-- 'weighlocklaw10.FlatPlays': WHATEVER THE INPUT: true; the input reads as it did. -/
def flatPlaysSpec : ChangeSpec := { name := "flatPlays", fn := fun _ => fun
  | [d1, d2, d3] => { results := [.lit (.bool true)], args := [d1, d2, d3] }
  | _ => none }
def flatPlaysRow : OpenClaim := { program := "ytoohkcpkodpnmaa", sum := "72ee3daca85a32ab724762a2e15c5f1ba10834013cf2779b2acc5dde515ea9a6", func := "weighlock/weighlocklaw10.FlatPlays", spec := "flatPlays", inPlace := ["sync/atomic.StoreUint32", "sync/atomic.AddUint32", "sync/atomic.LoadUint32"], unfollowed := true, recurses := true, apart := false }
def FlatPlaysSaid : Prop := flatPlaysRow.holds Try.pinned (OpenSpec.ofChange flatPlaysSpec)

/-- ITS FALSE NEIGHBOUR: 'it returns false'. Refute it at one input. -/
def flatPlaysWrong : ChangeSpec := { name := "flatPlays", fn := fun _ => fun
  | [d1, d2, d3] => { results := [.lit (.bool false)], args := [d1, d2, d3] }
  | _ => none }
def FlatPlaysWrongFalsely : Prop := flatPlaysRow.holds Try.pinned (OpenSpec.ofChange flatPlaysWrong)

/- THE SECOND FORM. 'bulk': how many values and letters a reading holds, each counted each time it is reached (what is shared counts as often as it is met; a slice's spare places count too). A statement '..UptoSaid' is the law's where the arguments, and the package variables that the reading takes, are together of bulk at most 1048576: NARROWER than '..Said'. Prove '..Said' where nothing that the law and all that it calls make is longer than what came in: it says more and counts as full. Else prove '..UptoSaid'. A law counts once. -/
mutual
def uptoBulk {H : Type} : DataW H → Nat
  | .lit (.string bytes) => bytes.length + 1
  | .lit _ => 1
  | .nil => 1
  | .ptr d => uptoBulk d + 1
  | .slice elems spare => uptoBulkAll elems + uptoBulkAll spare + 1
  | .agg parts => uptoBulkAll parts + 1
  | .iface _ d => uptoBulk d + 1
  | .map entries => uptoBulkEntries entries + 1
  | .held _ => 1
def uptoBulkAll {H : Type} : List (DataW H) → Nat
  | [] => 0
  | d :: r => uptoBulk d + uptoBulkAll r
def uptoBulkEntries {H : Type} : List (Lit × DataW H) → Nat
  | [] => 0
  | x :: r => uptoBulkEntry x + uptoBulkEntries r
def uptoBulkEntry {H : Type} : Lit × DataW H → Nat
  | (.string bytes, d) => bytes.length + uptoBulk d + 1
  | (_, d) => uptoBulk d + 1
 end
def uptoSmall : (H : Type) → List (DataW H) → Bool := fun _ ds => decide (uptoBulkAll ds ≤ 1048576)
def OpenSpec.upto (s : _root_.Go.ChangeSpec) : _root_.Go.OpenSpec := { _root_.Go.OpenSpec.ofChange s with cond := some uptoSmall }

/-- 'weighlocklaw10.FlatTurns', WHERE WHAT IT READS IS OF BULK AT MOST 1048576: true; the input reads as it did. -/
def flatTurnsUptoRow : OpenClaim := { program := "ytoohkcpkodpnmaa", sum := "72ee3daca85a32ab724762a2e15c5f1ba10834013cf2779b2acc5dde515ea9a6", func := "weighlock/weighlocklaw10.FlatTurns", spec := "flatTurns", inPlace := ["sync/atomic.StoreUint32", "sync/atomic.AddUint32", "sync/atomic.LoadUint32"], unfollowed := true, recurses := true, apart := false, narrowed := true }
def FlatTurnsUptoSaid : Prop := flatTurnsUptoRow.holds Try.pinned (OpenSpec.upto flatTurnsSpec)

/-- 'weighlocklaw10.FlatOrder', WHERE WHAT IT READS IS OF BULK AT MOST 1048576: true; the input reads as it did. -/
def flatOrderUptoRow : OpenClaim := { program := "ytoohkcpkodpnmaa", sum := "72ee3daca85a32ab724762a2e15c5f1ba10834013cf2779b2acc5dde515ea9a6", func := "weighlock/weighlocklaw10.FlatOrder", spec := "flatOrder", inPlace := ["sync/atomic.StoreUint32", "sync/atomic.AddUint32", "sync/atomic.LoadUint32"], unfollowed := true, recurses := true, apart := false, narrowed := true }
def FlatOrderUptoSaid : Prop := flatOrderUptoRow.holds Try.pinned (OpenSpec.upto flatOrderSpec)

/-- 'weighlocklaw10.FlatPlays', WHERE WHAT IT READS IS OF BULK AT MOST 1048576: true; the input reads as it did. -/
def flatPlaysUptoRow : OpenClaim := { program := "ytoohkcpkodpnmaa", sum := "72ee3daca85a32ab724762a2e15c5f1ba10834013cf2779b2acc5dde515ea9a6", func := "weighlock/weighlocklaw10.FlatPlays", spec := "flatPlays", inPlace := ["sync/atomic.StoreUint32", "sync/atomic.AddUint32", "sync/atomic.LoadUint32"], unfollowed := true, recurses := true, apart := false, narrowed := true }
def FlatPlaysUptoSaid : Prop := flatPlaysUptoRow.holds Try.pinned (OpenSpec.upto flatPlaysSpec)

end Rows
end Go.Proofs.Ytoohkcpkodpnmaa
