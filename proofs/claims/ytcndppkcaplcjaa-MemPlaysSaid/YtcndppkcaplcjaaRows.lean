/-
  No cell of these rows narrows 'for every input' (looked for: loops, veiled, ifaces, maps, wideKeys, modest, calm, conditions, laid).
  DERIVED. THE GIVEN ROWS OF THIS SEAT. 5 by the template 'for every input the law returns true; each argument reads behind the call as it read before'; 0 by the template 'total and deterministic' (their statements: YtcndppkcaplcjaaTotals.lean).
  GIVEN WITH THE SEED: the statements are not yours to turn. If you find one false, say at which input.
  Laid BY PROGRAM, IN A SANDBOX (cutbox-rows.mjs): the forced cells as the released guide's own fill.sh prints them over the translation 6c5f8d1f0bb0d819… (all of the seat's roots in one cut). By AI agents, Wed Nov 11 2026. No macro, syntax, notation, axiom, sorry.
-/
import Derived.Test.YtcndppkcaplcjaaChecked
import GoSem.Claim
import GoSem.ClaimJoined
import GoSem.ClaimMapViews
import Derived.JoinedTies
import Derived.KernelRfl
namespace Go.Proofs.Ytcndppkcaplcjaa
/- THE CELL 'sum', in the pinned program and in every row, IS THE sha256 OF THE DUMP (.gsa) THAT YtcndppkcaplcjaaProg.lean LOADS. Nothing in Lean hashes anything: it is a label: what it is worth is what the hold of that sum in a sandbox is worth. -/
noncomputable def Try.pinned : Pinned := { name := "ytcndppkcaplcjaa", sum := "6c5f8d1f0bb0d819140a7f823149c522184c855b0fed2dde8edcd6dd94c5d3d2", checked := Try.checked }
namespace Rows
def none {H : Type} : Left H := { results := [], args := [] }

/-- 'weighlocklaw02.MemAdds': WHATEVER THE INPUT: true; the input reads as it did. -/
def memAddsSpec : ChangeSpec := { name := "memAdds", fn := fun _ => fun
  | [d] => { results := [.lit (.bool true)], args := [d] }
  | _ => none }
def memAddsRow : OpenClaim := { program := "ytcndppkcaplcjaa", sum := "6c5f8d1f0bb0d819140a7f823149c522184c855b0fed2dde8edcd6dd94c5d3d2", func := "weighlock/weighlocklaw02.MemAdds", spec := "memAdds", inPlace := ["sync/atomic.AddUint32", "sync/atomic.CompareAndSwapUint32", "sync/atomic.SwapUint32", "sync/atomic.LoadUint32"], apart := false }
def MemAddsSaid : Prop := memAddsRow.holds Try.pinned (OpenSpec.ofChange memAddsSpec)

/-- ITS FALSE NEIGHBOUR: 'it returns false'. Refute it at one input. -/
def memAddsWrong : ChangeSpec := { name := "memAdds", fn := fun _ => fun
  | [d] => { results := [.lit (.bool false)], args := [d] }
  | _ => none }
def MemAddsWrongFalsely : Prop := memAddsRow.holds Try.pinned (OpenSpec.ofChange memAddsWrong)

/-- 'weighlocklaw02.MemCas': WHATEVER THE INPUT: true; the input reads as it did. -/
def memCasSpec : ChangeSpec := { name := "memCas", fn := fun _ => fun
  | [d] => { results := [.lit (.bool true)], args := [d] }
  | _ => none }
def memCasRow : OpenClaim := { program := "ytcndppkcaplcjaa", sum := "6c5f8d1f0bb0d819140a7f823149c522184c855b0fed2dde8edcd6dd94c5d3d2", func := "weighlock/weighlocklaw02.MemCas", spec := "memCas", inPlace := ["sync/atomic.StoreUint32", "sync/atomic.CompareAndSwapUint32", "sync/atomic.LoadUint32", "sync/atomic.AddUint32", "sync/atomic.SwapUint32"], apart := false }
def MemCasSaid : Prop := memCasRow.holds Try.pinned (OpenSpec.ofChange memCasSpec)

/-- ITS FALSE NEIGHBOUR: 'it returns false'. Refute it at one input. -/
def memCasWrong : ChangeSpec := { name := "memCas", fn := fun _ => fun
  | [d] => { results := [.lit (.bool false)], args := [d] }
  | _ => none }
def MemCasWrongFalsely : Prop := memCasRow.holds Try.pinned (OpenSpec.ofChange memCasWrong)

/-- 'weighlocklaw02.MemNews': WHATEVER THE INPUT: true; the input reads as it did. -/
def memNewsSpec : ChangeSpec := { name := "memNews", fn := fun _ => fun
  | [d1, d2] => { results := [.lit (.bool true)], args := [d1, d2] }
  | _ => none }
def memNewsRow : OpenClaim := { program := "ytcndppkcaplcjaa", sum := "6c5f8d1f0bb0d819140a7f823149c522184c855b0fed2dde8edcd6dd94c5d3d2", func := "weighlock/weighlocklaw02.MemNews", spec := "memNews", inPlace := ["sync/atomic.AddUint32", "sync/atomic.CompareAndSwapUint32", "sync/atomic.SwapUint32", "sync/atomic.LoadUint32"], apart := false }
def MemNewsSaid : Prop := memNewsRow.holds Try.pinned (OpenSpec.ofChange memNewsSpec)

/-- ITS FALSE NEIGHBOUR: 'it returns false'. Refute it at one input. -/
def memNewsWrong : ChangeSpec := { name := "memNews", fn := fun _ => fun
  | [d1, d2] => { results := [.lit (.bool false)], args := [d1, d2] }
  | _ => none }
def MemNewsWrongFalsely : Prop := memNewsRow.holds Try.pinned (OpenSpec.ofChange memNewsWrong)

/-- 'weighlocklaw02.MemApart': WHATEVER THE INPUT: true; the input reads as it did. -/
def memApartSpec : ChangeSpec := { name := "memApart", fn := fun _ => fun
  | [d1, d2] => { results := [.lit (.bool true)], args := [d1, d2] }
  | _ => none }
def memApartRow : OpenClaim := { program := "ytcndppkcaplcjaa", sum := "6c5f8d1f0bb0d819140a7f823149c522184c855b0fed2dde8edcd6dd94c5d3d2", func := "weighlock/weighlocklaw02.MemApart", spec := "memApart", inPlace := ["sync/atomic.AddUint32", "sync/atomic.CompareAndSwapUint32", "sync/atomic.SwapUint32", "sync/atomic.StoreUint32", "sync/atomic.LoadUint32"], apart := false }
def MemApartSaid : Prop := memApartRow.holds Try.pinned (OpenSpec.ofChange memApartSpec)

/-- ITS FALSE NEIGHBOUR: 'it returns false'. Refute it at one input. -/
def memApartWrong : ChangeSpec := { name := "memApart", fn := fun _ => fun
  | [d1, d2] => { results := [.lit (.bool false)], args := [d1, d2] }
  | _ => none }
def MemApartWrongFalsely : Prop := memApartRow.holds Try.pinned (OpenSpec.ofChange memApartWrong)

/-- 'weighlocklaw02.MemPlays': WHATEVER THE INPUT: true; the input reads as it did. -/
def memPlaysSpec : ChangeSpec := { name := "memPlays", fn := fun _ => fun
  | [d1, d2] => { results := [.lit (.bool true)], args := [d1, d2] }
  | _ => none }
def memPlaysRow : OpenClaim := { program := "ytcndppkcaplcjaa", sum := "6c5f8d1f0bb0d819140a7f823149c522184c855b0fed2dde8edcd6dd94c5d3d2", func := "weighlock/weighlocklaw02.MemPlays", spec := "memPlays", inPlace := ["sync/atomic.AddUint32", "sync/atomic.CompareAndSwapUint32", "sync/atomic.SwapUint32", "sync/atomic.LoadUint32", "sync/atomic.StoreUint32"], apart := false }
def MemPlaysSaid : Prop := memPlaysRow.holds Try.pinned (OpenSpec.ofChange memPlaysSpec)

/-- ITS FALSE NEIGHBOUR: 'it returns false'. Refute it at one input. -/
def memPlaysWrong : ChangeSpec := { name := "memPlays", fn := fun _ => fun
  | [d1, d2] => { results := [.lit (.bool false)], args := [d1, d2] }
  | _ => none }
def MemPlaysWrongFalsely : Prop := memPlaysRow.holds Try.pinned (OpenSpec.ofChange memPlaysWrong)

/- THE SECOND FORM. 'bulk': how many values and letters a reading holds, each counted each time it is reached (what is shared counts as often as it is met; a slice's spare places count too). A statement '..UptoSaid' is the law's where the arguments, and the package variables that the reading takes, are together of bulk at most 1048576: NARROWER than '..Said'. Prove '..Said' where nothing that the law and all that it calls make is longer than what came in: it says more and counts as full. Else prove '..UptoSaid'. A law counts once. -/
mutual
def uptoBulk {H : Type} : DataW H → Nat
  | .lit (.string bytes) => bytes.length + 1
  | .lit _ => 1
  | .nil => 1
  | .ptr d => uptoBulk d + 1
  | .slice elems spare => uptoBulkAll elems + uptoBulkAll spare + 1
  | .agg parts => uptoBulkAll parts + 1
  | .iface _ d => uptoBulk d + 1
  | .map entries => uptoBulkEntries entries + 1
  | .held _ => 1
def uptoBulkAll {H : Type} : List (DataW H) → Nat
  | [] => 0
  | d :: r => uptoBulk d + uptoBulkAll r
def uptoBulkEntries {H : Type} : List (Lit × DataW H) → Nat
  | [] => 0
  | x :: r => uptoBulkEntry x + uptoBulkEntries r
def uptoBulkEntry {H : Type} : Lit × DataW H → Nat
  | (.string bytes, d) => bytes.length + uptoBulk d + 1
  | (_, d) => uptoBulk d + 1
 end
def uptoSmall : (H : Type) → List (DataW H) → Bool := fun _ ds => decide (uptoBulkAll ds ≤ 1048576)
def OpenSpec.upto (s : _root_.Go.ChangeSpec) : _root_.Go.OpenSpec := { _root_.Go.OpenSpec.ofChange s with cond := some uptoSmall }

/-- 'weighlocklaw02.MemAdds', WHERE WHAT IT READS IS OF BULK AT MOST 1048576: true; the input reads as it did. -/
def memAddsUptoRow : OpenClaim := { program := "ytcndppkcaplcjaa", sum := "6c5f8d1f0bb0d819140a7f823149c522184c855b0fed2dde8edcd6dd94c5d3d2", func := "weighlock/weighlocklaw02.MemAdds", spec := "memAdds", inPlace := ["sync/atomic.AddUint32", "sync/atomic.CompareAndSwapUint32", "sync/atomic.SwapUint32", "sync/atomic.LoadUint32"], apart := false, narrowed := true }
def MemAddsUptoSaid : Prop := memAddsUptoRow.holds Try.pinned (OpenSpec.upto memAddsSpec)

/-- 'weighlocklaw02.MemCas', WHERE WHAT IT READS IS OF BULK AT MOST 1048576: true; the input reads as it did. -/
def memCasUptoRow : OpenClaim := { program := "ytcndppkcaplcjaa", sum := "6c5f8d1f0bb0d819140a7f823149c522184c855b0fed2dde8edcd6dd94c5d3d2", func := "weighlock/weighlocklaw02.MemCas", spec := "memCas", inPlace := ["sync/atomic.StoreUint32", "sync/atomic.CompareAndSwapUint32", "sync/atomic.LoadUint32", "sync/atomic.AddUint32", "sync/atomic.SwapUint32"], apart := false, narrowed := true }
def MemCasUptoSaid : Prop := memCasUptoRow.holds Try.pinned (OpenSpec.upto memCasSpec)

/-- 'weighlocklaw02.MemNews', WHERE WHAT IT READS IS OF BULK AT MOST 1048576: true; the input reads as it did. -/
def memNewsUptoRow : OpenClaim := { program := "ytcndppkcaplcjaa", sum := "6c5f8d1f0bb0d819140a7f823149c522184c855b0fed2dde8edcd6dd94c5d3d2", func := "weighlock/weighlocklaw02.MemNews", spec := "memNews", inPlace := ["sync/atomic.AddUint32", "sync/atomic.CompareAndSwapUint32", "sync/atomic.SwapUint32", "sync/atomic.LoadUint32"], apart := false, narrowed := true }
def MemNewsUptoSaid : Prop := memNewsUptoRow.holds Try.pinned (OpenSpec.upto memNewsSpec)

/-- 'weighlocklaw02.MemApart', WHERE WHAT IT READS IS OF BULK AT MOST 1048576: true; the input reads as it did. -/
def memApartUptoRow : OpenClaim := { program := "ytcndppkcaplcjaa", sum := "6c5f8d1f0bb0d819140a7f823149c522184c855b0fed2dde8edcd6dd94c5d3d2", func := "weighlock/weighlocklaw02.MemApart", spec := "memApart", inPlace := ["sync/atomic.AddUint32", "sync/atomic.CompareAndSwapUint32", "sync/atomic.SwapUint32", "sync/atomic.StoreUint32", "sync/atomic.LoadUint32"], apart := false, narrowed := true }
def MemApartUptoSaid : Prop := memApartUptoRow.holds Try.pinned (OpenSpec.upto memApartSpec)

/-- 'weighlocklaw02.MemPlays', WHERE WHAT IT READS IS OF BULK AT MOST 1048576: true; the input reads as it did. -/
def memPlaysUptoRow : OpenClaim := { program := "ytcndppkcaplcjaa", sum := "6c5f8d1f0bb0d819140a7f823149c522184c855b0fed2dde8edcd6dd94c5d3d2", func := "weighlock/weighlocklaw02.MemPlays", spec := "memPlays", inPlace := ["sync/atomic.AddUint32", "sync/atomic.CompareAndSwapUint32", "sync/atomic.SwapUint32", "sync/atomic.LoadUint32", "sync/atomic.StoreUint32"], apart := false, narrowed := true }
def MemPlaysUptoSaid : Prop := memPlaysUptoRow.holds Try.pinned (OpenSpec.upto memPlaysSpec)

end Rows
end Go.Proofs.Ytcndppkcaplcjaa
