/-
  No cell of these rows narrows 'for every input' (looked for: loops, veiled, ifaces, maps, wideKeys, modest, calm, conditions, laid).
  DERIVED. THE GIVEN ROWS OF THIS SEAT. 5 by the template 'for every input the law returns true; each argument reads behind the call as it read before'; 0 by the template 'total and deterministic' (their statements: YtgoaaijdlhhkkaaTotals.lean).
  GIVEN WITH THE SEED: the statements are not yours to turn. If you find one false, say at which input.
  Laid BY PROGRAM, IN A SANDBOX (cutbox-rows.mjs): the forced cells as the released guide's own fill.sh prints them over the translation cb8e4427032c7a65… (all of the seat's roots in one cut). By AI agents, Wed Nov 11 2026. No macro, syntax, notation, axiom, sorry.
-/
import Derived.Test.YtgoaaijdlhhkkaaChecked
import GoSem.Claim
import GoSem.ClaimJoined
import GoSem.ClaimMapViews
import Derived.JoinedTies
import Derived.KernelRfl
namespace Go.Proofs.Ytgoaaijdlhhkkaa
/- THE CELL 'sum', in the pinned program and in every row, IS THE sha256 OF THE DUMP (.gsa) THAT YtgoaaijdlhhkkaaProg.lean LOADS. Nothing in Lean hashes anything: it is a label: what it is worth is what the hold of that sum in a sandbox is worth. -/
noncomputable def Try.pinned : Pinned := { name := "ytgoaaijdlhhkkaa", sum := "cb8e4427032c7a655d6c583c9bd0764fdff308bcba4a8c412b81cd7a99d41d06", checked := Try.checked }
namespace Rows
def none {H : Type} : Left H := { results := [], args := [] }

/-- 'weighlocklaw12.ClhNews': WHATEVER THE INPUT: true; the input reads as it did. -/
def clhNewsSpec : ChangeSpec := { name := "clhNews", fn := fun _ => fun
  | [d1, d2] => { results := [.lit (.bool true)], args := [d1, d2] }
  | _ => none }
def clhNewsRow : OpenClaim := { program := "ytgoaaijdlhhkkaa", sum := "cb8e4427032c7a655d6c583c9bd0764fdff308bcba4a8c412b81cd7a99d41d06", func := "weighlock/weighlocklaw12.ClhNews", spec := "clhNews", inPlace := ["sync/atomic.StoreUint32", "sync/atomic.SwapUint32", "sync/atomic.LoadUint32"], unfollowed := true, recurses := true, apart := false }
def ClhNewsSaid : Prop := clhNewsRow.holds Try.pinned (OpenSpec.ofChange clhNewsSpec)

/-- ITS FALSE NEIGHBOUR: 'it returns false'. Refute it at one input. -/
def clhNewsWrong : ChangeSpec := { name := "clhNews", fn := fun _ => fun
  | [d1, d2] => { results := [.lit (.bool false)], args := [d1, d2] }
  | _ => none }
def ClhNewsWrongFalsely : Prop := clhNewsRow.holds Try.pinned (OpenSpec.ofChange clhNewsWrong)

/-- 'weighlocklaw12.ClhNodes': WHATEVER THE INPUT: true; the input reads as it did. -/
def clhNodesSpec : ChangeSpec := { name := "clhNodes", fn := fun _ => fun
  | [d1, d2] => { results := [.lit (.bool true)], args := [d1, d2] }
  | _ => none }
def clhNodesRow : OpenClaim := { program := "ytgoaaijdlhhkkaa", sum := "cb8e4427032c7a655d6c583c9bd0764fdff308bcba4a8c412b81cd7a99d41d06", func := "weighlock/weighlocklaw12.ClhNodes", spec := "clhNodes", inPlace := ["sync/atomic.StoreUint32", "sync/atomic.SwapUint32", "sync/atomic.LoadUint32"], unfollowed := true, recurses := true, apart := false }
def ClhNodesSaid : Prop := clhNodesRow.holds Try.pinned (OpenSpec.ofChange clhNodesSpec)

/-- ITS FALSE NEIGHBOUR: 'it returns false'. Refute it at one input. -/
def clhNodesWrong : ChangeSpec := { name := "clhNodes", fn := fun _ => fun
  | [d1, d2] => { results := [.lit (.bool false)], args := [d1, d2] }
  | _ => none }
def ClhNodesWrongFalsely : Prop := clhNodesRow.holds Try.pinned (OpenSpec.ofChange clhNodesWrong)

/-- 'weighlocklaw12.ClhTurns': WHATEVER THE INPUT: true; the input reads as it did. -/
def clhTurnsSpec : ChangeSpec := { name := "clhTurns", fn := fun _ => fun
  | [d1, d2] => { results := [.lit (.bool true)], args := [d1, d2] }
  | _ => none }
def clhTurnsRow : OpenClaim := { program := "ytgoaaijdlhhkkaa", sum := "cb8e4427032c7a655d6c583c9bd0764fdff308bcba4a8c412b81cd7a99d41d06", func := "weighlock/weighlocklaw12.ClhTurns", spec := "clhTurns", inPlace := ["sync/atomic.StoreUint32", "sync/atomic.SwapUint32", "sync/atomic.LoadUint32"], unfollowed := true, recurses := true, apart := false }
def ClhTurnsSaid : Prop := clhTurnsRow.holds Try.pinned (OpenSpec.ofChange clhTurnsSpec)

/-- ITS FALSE NEIGHBOUR: 'it returns false'. Refute it at one input. -/
def clhTurnsWrong : ChangeSpec := { name := "clhTurns", fn := fun _ => fun
  | [d1, d2] => { results := [.lit (.bool false)], args := [d1, d2] }
  | _ => none }
def ClhTurnsWrongFalsely : Prop := clhTurnsRow.holds Try.pinned (OpenSpec.ofChange clhTurnsWrong)

/-- 'weighlocklaw12.ClhOrder': WHATEVER THE INPUT: true; the input reads as it did. -/
def clhOrderSpec : ChangeSpec := { name := "clhOrder", fn := fun _ => fun
  | [d1, d2] => { results := [.lit (.bool true)], args := [d1, d2] }
  | _ => none }
def clhOrderRow : OpenClaim := { program := "ytgoaaijdlhhkkaa", sum := "cb8e4427032c7a655d6c583c9bd0764fdff308bcba4a8c412b81cd7a99d41d06", func := "weighlock/weighlocklaw12.ClhOrder", spec := "clhOrder", inPlace := ["sync/atomic.StoreUint32", "sync/atomic.SwapUint32", "sync/atomic.LoadUint32"], unfollowed := true, recurses := true, apart := false }
def ClhOrderSaid : Prop := clhOrderRow.holds Try.pinned (OpenSpec.ofChange clhOrderSpec)

/-- ITS FALSE NEIGHBOUR: 'it returns false'. Refute it at one input. -/
def clhOrderWrong : ChangeSpec := { name := "clhOrder", fn := fun _ => fun
  | [d1, d2] => { results := [.lit (.bool false)], args := [d1, d2] }
  | _ => none }
def ClhOrderWrongFalsely : Prop := clhOrderRow.holds Try.pinned (OpenSpec.ofChange clhOrderWrong)

/-- 'weighlocklaw12.ClhPlays': WHATEVER THE INPUT: true; the input reads as it did. -/
def clhPlaysSpec : ChangeSpec := { name := "clhPlays", fn := fun _ => fun
  | [d1, d2] => { results := [.lit (.bool true)], args := [d1, d2] }
  | _ => none }
def clhPlaysRow : OpenClaim := { program := "ytgoaaijdlhhkkaa", sum := "cb8e4427032c7a655d6c583c9bd0764fdff308bcba4a8c412b81cd7a99d41d06", func := "weighlock/weighlocklaw12.ClhPlays", spec := "clhPlays", inPlace := ["sync/atomic.StoreUint32", "sync/atomic.SwapUint32", "sync/atomic.LoadUint32"], unfollowed := true, recurses := true, apart := false }
def ClhPlaysSaid : Prop := clhPlaysRow.holds Try.pinned (OpenSpec.ofChange clhPlaysSpec)

/-- ITS FALSE NEIGHBOUR: 'it returns false'. Refute it at one input. -/
def clhPlaysWrong : ChangeSpec := { name := "clhPlays", fn := fun _ => fun
  | [d1, d2] => { results := [.lit (.bool false)], args := [d1, d2] }
  | _ => none }
def ClhPlaysWrongFalsely : Prop := clhPlaysRow.holds Try.pinned (OpenSpec.ofChange clhPlaysWrong)

/- THE SECOND FORM. 'bulk': how many values and letters a reading holds, each counted each time it is reached (what is shared counts as often as it is met; a slice's spare places count too). A statement '..UptoSaid' is the law's where the arguments, and the package variables that the reading takes, are together of bulk at most 1048576: NARROWER than '..Said'. Prove '..Said' where nothing that the law and all that it calls make is longer than what came in: it says more and counts as full. Else prove '..UptoSaid'. A law counts once. -/
mutual
def uptoBulk {H : Type} : DataW H → Nat
  | .lit (.string bytes) => bytes.length + 1
  | .lit _ => 1
  | .nil => 1
  | .ptr d => uptoBulk d + 1
  | .slice elems spare => uptoBulkAll elems + uptoBulkAll spare + 1
  | .agg parts => uptoBulkAll parts + 1
  | .iface _ d => uptoBulk d + 1
  | .map entries => uptoBulkEntries entries + 1
  | .held _ => 1
def uptoBulkAll {H : Type} : List (DataW H) → Nat
  | [] => 0
  | d :: r => uptoBulk d + uptoBulkAll r
def uptoBulkEntries {H : Type} : List (Lit × DataW H) → Nat
  | [] => 0
  | x :: r => uptoBulkEntry x + uptoBulkEntries r
def uptoBulkEntry {H : Type} : Lit × DataW H → Nat
  | (.string bytes, d) => bytes.length + uptoBulk d + 1
  | (_, d) => uptoBulk d + 1
 end
def uptoSmall : (H : Type) → List (DataW H) → Bool := fun _ ds => decide (uptoBulkAll ds ≤ 1048576)
def OpenSpec.upto (s : _root_.Go.ChangeSpec) : _root_.Go.OpenSpec := { _root_.Go.OpenSpec.ofChange s with cond := some uptoSmall }

/-- 'weighlocklaw12.ClhNews', WHERE WHAT IT READS IS OF BULK AT MOST 1048576: true; the input reads as it did. -/
def clhNewsUptoRow : OpenClaim := { program := "ytgoaaijdlhhkkaa", sum := "cb8e4427032c7a655d6c583c9bd0764fdff308bcba4a8c412b81cd7a99d41d06", func := "weighlock/weighlocklaw12.ClhNews", spec := "clhNews", inPlace := ["sync/atomic.StoreUint32", "sync/atomic.SwapUint32", "sync/atomic.LoadUint32"], unfollowed := true, recurses := true, apart := false, narrowed := true }
def ClhNewsUptoSaid : Prop := clhNewsUptoRow.holds Try.pinned (OpenSpec.upto clhNewsSpec)

/-- 'weighlocklaw12.ClhNodes', WHERE WHAT IT READS IS OF BULK AT MOST 1048576: true; the input reads as it did. -/
def clhNodesUptoRow : OpenClaim := { program := "ytgoaaijdlhhkkaa", sum := "cb8e4427032c7a655d6c583c9bd0764fdff308bcba4a8c412b81cd7a99d41d06", func := "weighlock/weighlocklaw12.ClhNodes", spec := "clhNodes", inPlace := ["sync/atomic.StoreUint32", "sync/atomic.SwapUint32", "sync/atomic.LoadUint32"], unfollowed := true, recurses := true, apart := false, narrowed := true }
def ClhNodesUptoSaid : Prop := clhNodesUptoRow.holds Try.pinned (OpenSpec.upto clhNodesSpec)

/-- 'weighlocklaw12.ClhTurns', WHERE WHAT IT READS IS OF BULK AT MOST 1048576: true; the input reads as it did. -/
def clhTurnsUptoRow : OpenClaim := { program := "ytgoaaijdlhhkkaa", sum := "cb8e4427032c7a655d6c583c9bd0764fdff308bcba4a8c412b81cd7a99d41d06", func := "weighlock/weighlocklaw12.ClhTurns", spec := "clhTurns", inPlace := ["sync/atomic.StoreUint32", "sync/atomic.SwapUint32", "sync/atomic.LoadUint32"], unfollowed := true, recurses := true, apart := false, narrowed := true }
def ClhTurnsUptoSaid : Prop := clhTurnsUptoRow.holds Try.pinned (OpenSpec.upto clhTurnsSpec)

/-- 'weighlocklaw12.ClhOrder', WHERE WHAT IT READS IS OF BULK AT MOST 1048576: true; the input reads as it did. -/
def clhOrderUptoRow : OpenClaim := { program := "ytgoaaijdlhhkkaa", sum := "cb8e4427032c7a655d6c583c9bd0764fdff308bcba4a8c412b81cd7a99d41d06", func := "weighlock/weighlocklaw12.ClhOrder", spec := "clhOrder", inPlace := ["sync/atomic.StoreUint32", "sync/atomic.SwapUint32", "sync/atomic.LoadUint32"], unfollowed := true, recurses := true, apart := false, narrowed := true }
def ClhOrderUptoSaid : Prop := clhOrderUptoRow.holds Try.pinned (OpenSpec.upto clhOrderSpec)

/-- 'weighlocklaw12.ClhPlays', WHERE WHAT IT READS IS OF BULK AT MOST 1048576: true; the input reads as it did. -/
def clhPlaysUptoRow : OpenClaim := { program := "ytgoaaijdlhhkkaa", sum := "cb8e4427032c7a655d6c583c9bd0764fdff308bcba4a8c412b81cd7a99d41d06", func := "weighlock/weighlocklaw12.ClhPlays", spec := "clhPlays", inPlace := ["sync/atomic.StoreUint32", "sync/atomic.SwapUint32", "sync/atomic.LoadUint32"], unfollowed := true, recurses := true, apart := false, narrowed := true }
def ClhPlaysUptoSaid : Prop := clhPlaysUptoRow.holds Try.pinned (OpenSpec.upto clhPlaysSpec)

end Rows
end Go.Proofs.Ytgoaaijdlhhkkaa
