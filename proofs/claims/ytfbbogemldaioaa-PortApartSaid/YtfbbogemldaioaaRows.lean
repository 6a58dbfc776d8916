/-
  No cell of these rows narrows 'for every input' (looked for: loops, veiled, ifaces, maps, wideKeys, modest, calm, conditions, laid).
  DERIVED. THE GIVEN ROWS OF THIS SEAT. 4 by the template 'for every input the law returns true; each argument reads behind the call as it read before'; 0 by the template 'total and deterministic' (their statements: YtfbbogemldaioaaTotals.lean).
  GIVEN WITH THE SEED: the statements are not yours to turn. If you find one false, say at which input.
  Laid BY PROGRAM, IN A SANDBOX (cutbox-rows.mjs): the forced cells as the released guide's own fill.sh prints them over the translation 50acfff759286e4d… (all of the seat's roots in one cut). By AI agents, Wed Nov 11 2026. No macro, syntax, notation, axiom, sorry.
-/
import Derived.Test.YtfbbogemldaioaaChecked
import GoSem.Claim
import GoSem.ClaimJoined
import GoSem.ClaimMapViews
import Derived.JoinedTies
import Derived.KernelRfl
namespace Go.Proofs.Ytfbbogemldaioaa
/- THE CELL 'sum', in the pinned program and in every row, IS THE sha256 OF THE DUMP (.gsa) THAT YtfbbogemldaioaaProg.lean LOADS. Nothing in Lean hashes anything: it is a label: what it is worth is what the hold of that sum in a sandbox is worth. -/
noncomputable def Try.pinned : Pinned := { name := "ytfbbogemldaioaa", sum := "50acfff759286e4dbd619360507c698390fbafe06b5f897b0a0118ed3015a7c1", checked := Try.checked }
namespace Rows
def none {H : Type} : Left H := { results := [], args := [] }

/-- 'weighlocklaw04.PortSums': WHATEVER THE INPUT: true; the input reads as it did. -/
def portSumsSpec : ChangeSpec := { name := "portSums", fn := fun _ => fun
  | [d1, d2] => { results := [.lit (.bool true)], args := [d1, d2] }
  | _ => none }
def portSumsRow : OpenClaim := { program := "ytfbbogemldaioaa", sum := "50acfff759286e4dbd619360507c698390fbafe06b5f897b0a0118ed3015a7c1", func := "weighlock/weighlocklaw04.PortSums", spec := "portSums", inPlace := ["sync/atomic.StoreUint32", "sync/atomic.CompareAndSwapUint32", "sync/atomic.LoadUint32", "sync/atomic.AddUint32"], apart := false }
def PortSumsSaid : Prop := portSumsRow.holds Try.pinned (OpenSpec.ofChange portSumsSpec)

/-- ITS FALSE NEIGHBOUR: 'it returns false'. Refute it at one input. -/
def portSumsWrong : ChangeSpec := { name := "portSums", fn := fun _ => fun
  | [d1, d2] => { results := [.lit (.bool false)], args := [d1, d2] }
  | _ => none }
def PortSumsWrongFalsely : Prop := portSumsRow.holds Try.pinned (OpenSpec.ofChange portSumsWrong)

/-- 'weighlocklaw04.PortApart': WHATEVER THE INPUT: true; the input reads as it did. -/
def portApartSpec : ChangeSpec := { name := "portApart", fn := fun _ => fun
  | [d] => { results := [.lit (.bool true)], args := [d] }
  | _ => none }
def portApartRow : OpenClaim := { program := "ytfbbogemldaioaa", sum := "50acfff759286e4dbd619360507c698390fbafe06b5f897b0a0118ed3015a7c1", func := "weighlock/weighlocklaw04.PortApart", spec := "portApart", inPlace := ["sync/atomic.StoreUint32", "sync/atomic.CompareAndSwapUint32", "sync/atomic.LoadUint32", "sync/atomic.SwapUint32"], apart := false }
def PortApartSaid : Prop := portApartRow.holds Try.pinned (OpenSpec.ofChange portApartSpec)

/-- ITS FALSE NEIGHBOUR: 'it returns false'. Refute it at one input. -/
def portApartWrong : ChangeSpec := { name := "portApart", fn := fun _ => fun
  | [d] => { results := [.lit (.bool false)], args := [d] }
  | _ => none }
def PortApartWrongFalsely : Prop := portApartRow.holds Try.pinned (OpenSpec.ofChange portApartWrong)

/-- 'weighlocklaw04.PortNews': WHATEVER THE INPUT: true; the input reads as it did. -/
def portNewsSpec : ChangeSpec := { name := "portNews", fn := fun _ => fun
  | [d1, d2, d3] => { results := [.lit (.bool true)], args := [d1, d2, d3] }
  | _ => none }
def portNewsRow : OpenClaim := { program := "ytfbbogemldaioaa", sum := "50acfff759286e4dbd619360507c698390fbafe06b5f897b0a0118ed3015a7c1", func := "weighlock/weighlocklaw04.PortNews", spec := "portNews", inPlace := ["sync/atomic.StoreUint32", "sync/atomic.CompareAndSwapUint32", "sync/atomic.LoadUint32"], apart := false }
def PortNewsSaid : Prop := portNewsRow.holds Try.pinned (OpenSpec.ofChange portNewsSpec)

/-- ITS FALSE NEIGHBOUR: 'it returns false'. Refute it at one input. -/
def portNewsWrong : ChangeSpec := { name := "portNews", fn := fun _ => fun
  | [d1, d2, d3] => { results := [.lit (.bool false)], args := [d1, d2, d3] }
  | _ => none }
def PortNewsWrongFalsely : Prop := portNewsRow.holds Try.pinned (OpenSpec.ofChange portNewsWrong)

/-- 'weighlocklaw04.PortPlays': WHATEVER THE INPUT: true; the input reads as it did. -/
def portPlaysSpec : ChangeSpec := { name := "portPlays", fn := fun _ => fun
  | [d1, d2, d3] => { results := [.lit (.bool true)], args := [d1, d2, d3] }
  | _ => none }
def portPlaysRow : OpenClaim := { program := "ytfbbogemldaioaa", sum := "50acfff759286e4dbd619360507c698390fbafe06b5f897b0a0118ed3015a7c1", func := "weighlock/weighlocklaw04.PortPlays", spec := "portPlays", inPlace := ["sync/atomic.StoreUint32", "sync/atomic.CompareAndSwapUint32", "sync/atomic.LoadUint32", "sync/atomic.SwapUint32", "sync/atomic.AddUint32"], apart := false }
def PortPlaysSaid : Prop := portPlaysRow.holds Try.pinned (OpenSpec.ofChange portPlaysSpec)

/-- ITS FALSE NEIGHBOUR: 'it returns false'. Refute it at one input. -/
def portPlaysWrong : ChangeSpec := { name := "portPlays", fn := fun _ => fun
  | [d1, d2, d3] => { results := [.lit (.bool false)], args := [d1, d2, d3] }
  | _ => none }
def PortPlaysWrongFalsely : Prop := portPlaysRow.holds Try.pinned (OpenSpec.ofChange portPlaysWrong)

/- THE SECOND FORM. 'bulk': how many values and letters a reading holds, each counted each time it is reached (what is shared counts as often as it is met; a slice's spare places count too). A statement '..UptoSaid' is the law's where the arguments, and the package variables that the reading takes, are together of bulk at most 1048576: NARROWER than '..Said'. Prove '..Said' where nothing that the law and all that it calls make is longer than what came in: it says more and counts as full. Else prove '..UptoSaid'. A law counts once. -/
mutual
def uptoBulk {H : Type} : DataW H → Nat
  | .lit (.string bytes) => bytes.length + 1
  | .lit _ => 1
  | .nil => 1
  | .ptr d => uptoBulk d + 1
  | .slice elems spare => uptoBulkAll elems + uptoBulkAll spare + 1
  | .agg parts => uptoBulkAll parts + 1
  | .iface _ d => uptoBulk d + 1
  | .map entries => uptoBulkEntries entries + 1
  | .held _ => 1
def uptoBulkAll {H : Type} : List (DataW H) → Nat
  | [] => 0
  | d :: r => uptoBulk d + uptoBulkAll r
def uptoBulkEntries {H : Type} : List (Lit × DataW H) → Nat
  | [] => 0
  | x :: r => uptoBulkEntry x + uptoBulkEntries r
def uptoBulkEntry {H : Type} : Lit × DataW H → Nat
  | (.string bytes, d) => bytes.length + uptoBulk d + 1
  | (_, d) => uptoBulk d + 1
 end
def uptoSmall : (H : Type) → List (DataW H) → Bool := fun _ ds => decide (uptoBulkAll ds ≤ 1048576)
def OpenSpec.upto (s : _root_.Go.ChangeSpec) : _root_.Go.OpenSpec := { _root_.Go.OpenSpec.ofChange s with cond := some uptoSmall }

/-- 'weighlocklaw04.PortSums', WHERE WHAT IT READS IS OF BULK AT MOST 1048576: true; the input reads as it did. -/
def portSumsUptoRow : OpenClaim := { program := "ytfbbogemldaioaa", sum := "50acfff759286e4dbd619360507c698390fbafe06b5f897b0a0118ed3015a7c1", func := "weighlock/weighlocklaw04.PortSums", spec := "portSums", inPlace := ["sync/atomic.StoreUint32", "sync/atomic.CompareAndSwapUint32", "sync/atomic.LoadUint32", "sync/atomic.AddUint32"], apart := false, narrowed := true }
def PortSumsUptoSaid : Prop := portSumsUptoRow.holds Try.pinned (OpenSpec.upto portSumsSpec)

/-- 'weighlocklaw04.PortApart', WHERE WHAT IT READS IS OF BULK AT MOST 1048576: true; the input reads as it did. -/
def portApartUptoRow : OpenClaim := { program := "ytfbbogemldaioaa", sum := "50acfff759286e4dbd619360507c698390fbafe06b5f897b0a0118ed3015a7c1", func := "weighlock/weighlocklaw04.PortApart", spec := "portApart", inPlace := ["sync/atomic.StoreUint32", "sync/atomic.CompareAndSwapUint32", "sync/atomic.LoadUint32", "sync/atomic.SwapUint32"], apart := false, narrowed := true }
def PortApartUptoSaid : Prop := portApartUptoRow.holds Try.pinned (OpenSpec.upto portApartSpec)

/-- 'weighlocklaw04.PortNews', WHERE WHAT IT READS IS OF BULK AT MOST 1048576: true; the input reads as it did. -/
def portNewsUptoRow : OpenClaim := { program := "ytfbbogemldaioaa", sum := "50acfff759286e4dbd619360507c698390fbafe06b5f897b0a0118ed3015a7c1", func := "weighlock/weighlocklaw04.PortNews", spec := "portNews", inPlace := ["sync/atomic.StoreUint32", "sync/atomic.CompareAndSwapUint32", "sync/atomic.LoadUint32"], apart := false, narrowed := true }
def PortNewsUptoSaid : Prop := portNewsUptoRow.holds Try.pinned (OpenSpec.upto portNewsSpec)

/-- 'weighlocklaw04.PortPlays', WHERE WHAT IT READS IS OF BULK AT MOST 1048576: true; the input reads as it did. -/
def portPlaysUptoRow : OpenClaim := { program := "ytfbbogemldaioaa", sum := "50acfff759286e4dbd619360507c698390fbafe06b5f897b0a0118ed3015a7c1", func := "weighlock/weighlocklaw04.PortPlays", spec := "portPlays", inPlace := ["sync/atomic.StoreUint32", "sync/atomic.CompareAndSwapUint32", "sync/atomic.LoadUint32", "sync/atomic.SwapUint32", "sync/atomic.AddUint32"], apart := false, narrowed := true }
def PortPlaysUptoSaid : Prop := portPlaysUptoRow.holds Try.pinned (OpenSpec.upto portPlaysSpec)

end Rows
end Go.Proofs.Ytfbbogemldaioaa
