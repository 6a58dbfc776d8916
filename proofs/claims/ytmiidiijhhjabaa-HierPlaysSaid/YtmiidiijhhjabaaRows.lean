/-
  No cell of these rows narrows 'for every input' (looked for: loops, veiled, ifaces, maps, wideKeys, modest, calm, conditions, laid).
  DERIVED. THE GIVEN ROWS OF THIS SEAT. 5 by the template 'for every input the law returns true; each argument reads behind the call as it read before'; 0 by the template 'total and deterministic' (their statements: YtmiidiijhhjabaaTotals.lean).
  GIVEN WITH THE SEED: the statements are not yours to turn. If you find one false, say at which input.
  Laid BY PROGRAM, IN A SANDBOX (cutbox-rows.mjs): the forced cells as the released guide's own fill.sh prints them over the translation 8d0bf79da77e5b04… (all of the seat's roots in one cut). By AI agents, Wed Nov 11 2026. No macro, syntax, notation, axiom, sorry.
-/
import Derived.Test.YtmiidiijhhjabaaChecked
import GoSem.Claim
import GoSem.ClaimJoined
import GoSem.ClaimMapViews
import Derived.JoinedTies
import Derived.KernelRfl
namespace Go.Proofs.Ytmiidiijhhjabaa
/- THE CELL 'sum', in the pinned program and in every row, IS THE sha256 OF THE DUMP (.gsa) THAT YtmiidiijhhjabaaProg.lean LOADS. Nothing in Lean hashes anything: it is a label: what it is worth is what the hold of that sum in a sandbox is worth. -/
noncomputable def Try.pinned : Pinned := { name := "ytmiidiijhhjabaa", sum := "8d0bf79da77e5b0461828f99cca551e631f7376c99a2aa364e77b179e64ebe9b", checked := Try.checked }
namespace Rows
def none {H : Type} : Left H := { results := [], args := [] }

/-- 'weighlocklaw15.HierNews': WHATEVER THE INPUT: true; the input reads as it did. -/
def hierNewsSpec : ChangeSpec := { name := "hierNews", fn := fun _ => fun
  | [d1, d2] => { results := [.lit (.bool true)], args := [d1, d2] }
  | _ => none }
def hierNewsRow : OpenClaim := { program := "ytmiidiijhhjabaa", sum := "8d0bf79da77e5b0461828f99cca551e631f7376c99a2aa364e77b179e64ebe9b", func := "weighlock/weighlocklaw15.HierNews", spec := "hierNews", inPlace := ["sync/atomic.StoreUint32", "sync/atomic.SwapUint32", "sync/atomic.LoadUint32", "sync/atomic.CompareAndSwapUint32"], unfollowed := true, recurses := true, apart := false }
def HierNewsSaid : Prop := hierNewsRow.holds Try.pinned (OpenSpec.ofChange hierNewsSpec)

/-- ITS FALSE NEIGHBOUR: 'it returns false'. Refute it at one input. -/
def hierNewsWrong : ChangeSpec := { name := "hierNews", fn := fun _ => fun
  | [d1, d2] => { results := [.lit (.bool false)], args := [d1, d2] }
  | _ => none }
def HierNewsWrongFalsely : Prop := hierNewsRow.holds Try.pinned (OpenSpec.ofChange hierNewsWrong)

/-- 'weighlocklaw15.HierLeads': WHATEVER THE INPUT: true; the input reads as it did. -/
def hierLeadsSpec : ChangeSpec := { name := "hierLeads", fn := fun _ => fun
  | [d1, d2] => { results := [.lit (.bool true)], args := [d1, d2] }
  | _ => none }
def hierLeadsRow : OpenClaim := { program := "ytmiidiijhhjabaa", sum := "8d0bf79da77e5b0461828f99cca551e631f7376c99a2aa364e77b179e64ebe9b", func := "weighlock/weighlocklaw15.HierLeads", spec := "hierLeads", inPlace := ["sync/atomic.StoreUint32", "sync/atomic.SwapUint32", "sync/atomic.LoadUint32", "sync/atomic.CompareAndSwapUint32"], unfollowed := true, recurses := true, apart := false }
def HierLeadsSaid : Prop := hierLeadsRow.holds Try.pinned (OpenSpec.ofChange hierLeadsSpec)

/-- ITS FALSE NEIGHBOUR: 'it returns false'. Refute it at one input. -/
def hierLeadsWrong : ChangeSpec := { name := "hierLeads", fn := fun _ => fun
  | [d1, d2] => { results := [.lit (.bool false)], args := [d1, d2] }
  | _ => none }
def HierLeadsWrongFalsely : Prop := hierLeadsRow.holds Try.pinned (OpenSpec.ofChange hierLeadsWrong)

/-- 'weighlocklaw15.HierOrder': WHATEVER THE INPUT: true; the input reads as it did. -/
def hierOrderSpec : ChangeSpec := { name := "hierOrder", fn := fun _ => fun
  | [d1, d2] => { results := [.lit (.bool true)], args := [d1, d2] }
  | _ => none }
def hierOrderRow : OpenClaim := { program := "ytmiidiijhhjabaa", sum := "8d0bf79da77e5b0461828f99cca551e631f7376c99a2aa364e77b179e64ebe9b", func := "weighlock/weighlocklaw15.HierOrder", spec := "hierOrder", inPlace := ["sync/atomic.StoreUint32", "sync/atomic.SwapUint32", "sync/atomic.LoadUint32", "sync/atomic.CompareAndSwapUint32"], unfollowed := true, recurses := true, apart := false }
def HierOrderSaid : Prop := hierOrderRow.holds Try.pinned (OpenSpec.ofChange hierOrderSpec)

/-- ITS FALSE NEIGHBOUR: 'it returns false'. Refute it at one input. -/
def hierOrderWrong : ChangeSpec := { name := "hierOrder", fn := fun _ => fun
  | [d1, d2] => { results := [.lit (.bool false)], args := [d1, d2] }
  | _ => none }
def HierOrderWrongFalsely : Prop := hierOrderRow.holds Try.pinned (OpenSpec.ofChange hierOrderWrong)

/-- 'weighlocklaw15.HierTurns': WHATEVER THE INPUT: true; the input reads as it did. -/
def hierTurnsSpec : ChangeSpec := { name := "hierTurns", fn := fun _ => fun
  | [d1, d2] => { results := [.lit (.bool true)], args := [d1, d2] }
  | _ => none }
def hierTurnsRow : OpenClaim := { program := "ytmiidiijhhjabaa", sum := "8d0bf79da77e5b0461828f99cca551e631f7376c99a2aa364e77b179e64ebe9b", func := "weighlock/weighlocklaw15.HierTurns", spec := "hierTurns", inPlace := ["sync/atomic.StoreUint32", "sync/atomic.SwapUint32", "sync/atomic.LoadUint32", "sync/atomic.CompareAndSwapUint32"], unfollowed := true, recurses := true, apart := false }
def HierTurnsSaid : Prop := hierTurnsRow.holds Try.pinned (OpenSpec.ofChange hierTurnsSpec)

/-- ITS FALSE NEIGHBOUR: 'it returns false'. Refute it at one input. -/
def hierTurnsWrong : ChangeSpec := { name := "hierTurns", fn := fun _ => fun
  | [d1, d2] => { results := [.lit (.bool false)], args := [d1, d2] }
  | _ => none }
def HierTurnsWrongFalsely : Prop := hierTurnsRow.holds Try.pinned (OpenSpec.ofChange hierTurnsWrong)

/-- 'weighlocklaw15.HierPlays': WHATEVER THE INPUT: true; the input reads as it did. -/
def hierPlaysSpec : ChangeSpec := { name := "hierPlays", fn := fun _ => fun
  | [d1, d2] => { results := [.lit (.bool true)], args := [d1, d2] }
  | _ => none }
def hierPlaysRow : OpenClaim := { program := "ytmiidiijhhjabaa", sum := "8d0bf79da77e5b0461828f99cca551e631f7376c99a2aa364e77b179e64ebe9b", func := "weighlock/weighlocklaw15.HierPlays", spec := "hierPlays", inPlace := ["sync/atomic.StoreUint32", "sync/atomic.SwapUint32", "sync/atomic.LoadUint32", "sync/atomic.CompareAndSwapUint32"], unfollowed := true, recurses := true, apart := false }
def HierPlaysSaid : Prop := hierPlaysRow.holds Try.pinned (OpenSpec.ofChange hierPlaysSpec)

/-- ITS FALSE NEIGHBOUR: 'it returns false'. Refute it at one input. -/
def hierPlaysWrong : ChangeSpec := { name := "hierPlays", fn := fun _ => fun
  | [d1, d2] => { results := [.lit (.bool false)], args := [d1, d2] }
  | _ => none }
def HierPlaysWrongFalsely : Prop := hierPlaysRow.holds Try.pinned (OpenSpec.ofChange hierPlaysWrong)

/- THE SECOND FORM. 'bulk': how many values and letters a reading holds, each counted each time it is reached (what is shared counts as often as it is met; a slice's spare places count too). A statement '..UptoSaid' is the law's where the arguments, and the package variables that the reading takes, are together of bulk at most 1048576: NARROWER than '..Said'. Prove '..Said' where nothing that the law and all that it calls make is longer than what came in: it says more and counts as full. Else prove '..UptoSaid'. A law counts once. -/
mutual
def uptoBulk {H : Type} : DataW H → Nat
  | .lit (.string bytes) => bytes.length + 1
  | .lit _ => 1
  | .nil => 1
  | .ptr d => uptoBulk d + 1
  | .slice elems spare => uptoBulkAll elems + uptoBulkAll spare + 1
  | .agg parts => uptoBulkAll parts + 1
  | .iface _ d => uptoBulk d + 1
  | .map entries => uptoBulkEntries entries + 1
  | .held _ => 1
def uptoBulkAll {H : Type} : List (DataW H) → Nat
  | [] => 0
  | d :: r => uptoBulk d + uptoBulkAll r
def uptoBulkEntries {H : Type} : List (Lit × DataW H) → Nat
  | [] => 0
  | x :: r => uptoBulkEntry x + uptoBulkEntries r
def uptoBulkEntry {H : Type} : Lit × DataW H → Nat
  | (.string bytes, d) => bytes.length + uptoBulk d + 1
  | (_, d) => uptoBulk d + 1
 end
def uptoSmall : (H : Type) → List (DataW H) → Bool := fun _ ds => decide (uptoBulkAll ds ≤ 1048576)
def OpenSpec.upto (s : _root_.Go.ChangeSpec) : _root_.Go.OpenSpec := { _root_.Go.OpenSpec.ofChange s with cond := some uptoSmall }

/-- 'weighlocklaw15.HierNews', WHERE WHAT IT READS IS OF BULK AT MOST 1048576: true; the input reads as it did. -/
def hierNewsUptoRow : OpenClaim := { program := "ytmiidiijhhjabaa", sum := "8d0bf79da77e5b0461828f99cca551e631f7376c99a2aa364e77b179e64ebe9b", func := "weighlock/weighlocklaw15.HierNews", spec := "hierNews", inPlace := ["sync/atomic.StoreUint32", "sync/atomic.SwapUint32", "sync/atomic.LoadUint32", "sync/atomic.CompareAndSwapUint32"], unfollowed := true, recurses := true, apart := false, narrowed := true }
def HierNewsUptoSaid : Prop := hierNewsUptoRow.holds Try.pinned (OpenSpec.upto hierNewsSpec)

/-- 'weighlocklaw15.HierLeads', WHERE WHAT IT READS IS OF BULK AT MOST 1048576: true; the input reads as it did. -/
def hierLeadsUptoRow : OpenClaim := { program := "ytmiidiijhhjabaa", sum := "8d0bf79da77e5b0461828f99cca551e631f7376c99a2aa364e77b179e64ebe9b", func := "weighlock/weighlocklaw15.HierLeads", spec := "hierLeads", inPlace := ["sync/atomic.StoreUint32", "sync/atomic.SwapUint32", "sync/atomic.LoadUint32", "sync/atomic.CompareAndSwapUint32"], unfollowed := true, recurses := true, apart := false, narrowed := true }
def HierLeadsUptoSaid : Prop := hierLeadsUptoRow.holds Try.pinned (OpenSpec.upto hierLeadsSpec)

/-- 'weighlocklaw15.HierOrder', WHERE WHAT IT READS IS OF BULK AT MOST 1048576: true; the input reads as it did. -/
def hierOrderUptoRow : OpenClaim := { program := "ytmiidiijhhjabaa", sum := "8d0bf79da77e5b0461828f99cca551e631f7376c99a2aa364e77b179e64ebe9b", func := "weighlock/weighlocklaw15.HierOrder", spec := "hierOrder", inPlace := ["sync/atomic.StoreUint32", "sync/atomic.SwapUint32", "sync/atomic.LoadUint32", "sync/atomic.CompareAndSwapUint32"], unfollowed := true, recurses := true, apart := false, narrowed := true }
def HierOrderUptoSaid : Prop := hierOrderUptoRow.holds Try.pinned (OpenSpec.upto hierOrderSpec)

/-- 'weighlocklaw15.HierTurns', WHERE WHAT IT READS IS OF BULK AT MOST 1048576: true; the input reads as it did. -/
def hierTurnsUptoRow : OpenClaim := { program := "ytmiidiijhhjabaa", sum := "8d0bf79da77e5b0461828f99cca551e631f7376c99a2aa364e77b179e64ebe9b", func := "weighlock/weighlocklaw15.HierTurns", spec := "hierTurns", inPlace := ["sync/atomic.StoreUint32", "sync/atomic.SwapUint32", "sync/atomic.LoadUint32", "sync/atomic.CompareAndSwapUint32"], unfollowed := true, recurses := true, apart := false, narrowed := true }
def HierTurnsUptoSaid : Prop := hierTurnsUptoRow.holds Try.pinned (OpenSpec.upto hierTurnsSpec)

/-- 'weighlocklaw15.HierPlays', WHERE WHAT IT READS IS OF BULK AT MOST 1048576: true; the input reads as it did. -/
def hierPlaysUptoRow : OpenClaim := { program := "ytmiidiijhhjabaa", sum := "8d0bf79da77e5b0461828f99cca551e631f7376c99a2aa364e77b179e64ebe9b", func := "weighlock/weighlocklaw15.HierPlays", spec := "hierPlays", inPlace := ["sync/atomic.StoreUint32", "sync/atomic.SwapUint32", "sync/atomic.LoadUint32", "sync/atomic.CompareAndSwapUint32"], unfollowed := true, recurses := true, apart := false, narrowed := true }
def HierPlaysUptoSaid : Prop := hierPlaysUptoRow.holds Try.pinned (OpenSpec.upto hierPlaysSpec)

end Rows
end Go.Proofs.Ytmiidiijhhjabaa
