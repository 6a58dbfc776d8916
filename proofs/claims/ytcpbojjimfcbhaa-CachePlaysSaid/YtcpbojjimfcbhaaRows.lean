/-
  No cell of these rows narrows 'for every input' (looked for: loops, veiled, ifaces, maps, wideKeys, modest, calm, conditions, laid).
  DERIVED. THE GIVEN ROWS OF THIS SEAT. 4 by the template 'for every input the law returns true; each argument reads behind the call as it read before'; 0 by the template 'total and deterministic' (their statements: YtcpbojjimfcbhaaTotals.lean).
  GIVEN WITH THE SEED: the statements are not yours to turn. If you find one false, say at which input.
  Laid BY PROGRAM, IN A SANDBOX (cutbox-rows.mjs): the forced cells as the released guide's own fill.sh prints them over the translation 25013fd1b15535e5… (all of the seat's roots in one cut). By AI agents, Wed Nov 11 2026. No macro, syntax, notation, axiom, sorry.
-/
import Derived.Test.YtcpbojjimfcbhaaChecked
import GoSem.Claim
import GoSem.ClaimJoined
import GoSem.ClaimMapViews
import Derived.JoinedTies
import Derived.KernelRfl
namespace Go.Proofs.Ytcpbojjimfcbhaa
/- THE CELL 'sum', in the pinned program and in every row, IS THE sha256 OF THE DUMP (.gsa) THAT YtcpbojjimfcbhaaProg.lean LOADS. Nothing in Lean hashes anything: it is a label: what it is worth is what the hold of that sum in a sandbox is worth. -/
noncomputable def Try.pinned : Pinned := { name := "ytcpbojjimfcbhaa", sum := "25013fd1b15535e5349a487fb005e4cf703bac8b4a279e7c4c7619d487d7811a", checked := Try.checked }
namespace Rows
def none {H : Type} : Left H := { results := [], args := [] }

/-- 'weighlocklaw03.CacheNews': WHATEVER THE INPUT: true; the input reads as it did. -/
def cacheNewsSpec : ChangeSpec := { name := "cacheNews", fn := fun _ => fun
  | [d1, d2] => { results := [.lit (.bool true)], args := [d1, d2] }
  | _ => none }
def cacheNewsRow : OpenClaim := { program := "ytcpbojjimfcbhaa", sum := "25013fd1b15535e5349a487fb005e4cf703bac8b4a279e7c4c7619d487d7811a", func := "weighlock/weighlocklaw03.CacheNews", spec := "cacheNews", apart := false }
def CacheNewsSaid : Prop := cacheNewsRow.holds Try.pinned (OpenSpec.ofChange cacheNewsSpec)

/-- ITS FALSE NEIGHBOUR: 'it returns false'. Refute it at one input. -/
def cacheNewsWrong : ChangeSpec := { name := "cacheNews", fn := fun _ => fun
  | [d1, d2] => { results := [.lit (.bool false)], args := [d1, d2] }
  | _ => none }
def CacheNewsWrongFalsely : Prop := cacheNewsRow.holds Try.pinned (OpenSpec.ofChange cacheNewsWrong)

/-- 'weighlocklaw03.CacheWrites': WHATEVER THE INPUT: true; the input reads as it did. -/
def cacheWritesSpec : ChangeSpec := { name := "cacheWrites", fn := fun _ => fun
  | [d] => { results := [.lit (.bool true)], args := [d] }
  | _ => none }
def cacheWritesRow : OpenClaim := { program := "ytcpbojjimfcbhaa", sum := "25013fd1b15535e5349a487fb005e4cf703bac8b4a279e7c4c7619d487d7811a", func := "weighlock/weighlocklaw03.CacheWrites", spec := "cacheWrites", apart := false }
def CacheWritesSaid : Prop := cacheWritesRow.holds Try.pinned (OpenSpec.ofChange cacheWritesSpec)

/-- ITS FALSE NEIGHBOUR: 'it returns false'. Refute it at one input. -/
def cacheWritesWrong : ChangeSpec := { name := "cacheWrites", fn := fun _ => fun
  | [d] => { results := [.lit (.bool false)], args := [d] }
  | _ => none }
def CacheWritesWrongFalsely : Prop := cacheWritesRow.holds Try.pinned (OpenSpec.ofChange cacheWritesWrong)

/-- 'weighlocklaw03.CacheOnce': WHATEVER THE INPUT: true; the input reads as it did. -/
def cacheOnceSpec : ChangeSpec := { name := "cacheOnce", fn := fun _ => fun
  | [d] => { results := [.lit (.bool true)], args := [d] }
  | _ => none }
def cacheOnceRow : OpenClaim := { program := "ytcpbojjimfcbhaa", sum := "25013fd1b15535e5349a487fb005e4cf703bac8b4a279e7c4c7619d487d7811a", func := "weighlock/weighlocklaw03.CacheOnce", spec := "cacheOnce", apart := false }
def CacheOnceSaid : Prop := cacheOnceRow.holds Try.pinned (OpenSpec.ofChange cacheOnceSpec)

/-- ITS FALSE NEIGHBOUR: 'it returns false'. Refute it at one input. -/
def cacheOnceWrong : ChangeSpec := { name := "cacheOnce", fn := fun _ => fun
  | [d] => { results := [.lit (.bool false)], args := [d] }
  | _ => none }
def CacheOnceWrongFalsely : Prop := cacheOnceRow.holds Try.pinned (OpenSpec.ofChange cacheOnceWrong)

/-- 'weighlocklaw03.CachePlays': WHATEVER THE INPUT: true; the input reads as it did. -/
def cachePlaysSpec : ChangeSpec := { name := "cachePlays", fn := fun _ => fun
  | [d1, d2, d3] => { results := [.lit (.bool true)], args := [d1, d2, d3] }
  | _ => none }
def cachePlaysRow : OpenClaim := { program := "ytcpbojjimfcbhaa", sum := "25013fd1b15535e5349a487fb005e4cf703bac8b4a279e7c4c7619d487d7811a", func := "weighlock/weighlocklaw03.CachePlays", spec := "cachePlays", apart := false }
def CachePlaysSaid : Prop := cachePlaysRow.holds Try.pinned (OpenSpec.ofChange cachePlaysSpec)

/-- ITS FALSE NEIGHBOUR: 'it returns false'. Refute it at one input. -/
def cachePlaysWrong : ChangeSpec := { name := "cachePlays", fn := fun _ => fun
  | [d1, d2, d3] => { results := [.lit (.bool false)], args := [d1, d2, d3] }
  | _ => none }
def CachePlaysWrongFalsely : Prop := cachePlaysRow.holds Try.pinned (OpenSpec.ofChange cachePlaysWrong)

/- THE SECOND FORM. 'bulk': how many values and letters a reading holds, each counted each time it is reached (what is shared counts as often as it is met; a slice's spare places count too). A statement '..UptoSaid' is the law's where the arguments, and the package variables that the reading takes, are together of bulk at most 1048576: NARROWER than '..Said'. Prove '..Said' where nothing that the law and all that it calls make is longer than what came in: it says more and counts as full. Else prove '..UptoSaid'. A law counts once. -/
mutual
def uptoBulk {H : Type} : DataW H → Nat
  | .lit (.string bytes) => bytes.length + 1
  | .lit _ => 1
  | .nil => 1
  | .ptr d => uptoBulk d + 1
  | .slice elems spare => uptoBulkAll elems + uptoBulkAll spare + 1
  | .agg parts => uptoBulkAll parts + 1
  | .iface _ d => uptoBulk d + 1
  | .map entries => uptoBulkEntries entries + 1
  | .held _ => 1
def uptoBulkAll {H : Type} : List (DataW H) → Nat
  | [] => 0
  | d :: r => uptoBulk d + uptoBulkAll r
def uptoBulkEntries {H : Type} : List (Lit × DataW H) → Nat
  | [] => 0
  | x :: r => uptoBulkEntry x + uptoBulkEntries r
def uptoBulkEntry {H : Type} : Lit × DataW H → Nat
  | (.string bytes, d) => bytes.length + uptoBulk d + 1
  | (_, d) => uptoBulk d + 1
 end
def uptoSmall : (H : Type) → List (DataW H) → Bool := fun _ ds => decide (uptoBulkAll ds ≤ 1048576)
def OpenSpec.upto (s : _root_.Go.ChangeSpec) : _root_.Go.OpenSpec := { _root_.Go.OpenSpec.ofChange s with cond := some uptoSmall }

/-- 'weighlocklaw03.CacheNews', WHERE WHAT IT READS IS OF BULK AT MOST 1048576: true; the input reads as it did. -/
def cacheNewsUptoRow : OpenClaim := { program := "ytcpbojjimfcbhaa", sum := "25013fd1b15535e5349a487fb005e4cf703bac8b4a279e7c4c7619d487d7811a", func := "weighlock/weighlocklaw03.CacheNews", spec := "cacheNews", apart := false, narrowed := true }
def CacheNewsUptoSaid : Prop := cacheNewsUptoRow.holds Try.pinned (OpenSpec.upto cacheNewsSpec)

/-- 'weighlocklaw03.CacheWrites', WHERE WHAT IT READS IS OF BULK AT MOST 1048576: true; the input reads as it did. -/
def cacheWritesUptoRow : OpenClaim := { program := "ytcpbojjimfcbhaa", sum := "25013fd1b15535e5349a487fb005e4cf703bac8b4a279e7c4c7619d487d7811a", func := "weighlock/weighlocklaw03.CacheWrites", spec := "cacheWrites", apart := false, narrowed := true }
def CacheWritesUptoSaid : Prop := cacheWritesUptoRow.holds Try.pinned (OpenSpec.upto cacheWritesSpec)

/-- 'weighlocklaw03.CacheOnce', WHERE WHAT IT READS IS OF BULK AT MOST 1048576: true; the input reads as it did. -/
def cacheOnceUptoRow : OpenClaim := { program := "ytcpbojjimfcbhaa", sum := "25013fd1b15535e5349a487fb005e4cf703bac8b4a279e7c4c7619d487d7811a", func := "weighlock/weighlocklaw03.CacheOnce", spec := "cacheOnce", apart := false, narrowed := true }
def CacheOnceUptoSaid : Prop := cacheOnceUptoRow.holds Try.pinned (OpenSpec.upto cacheOnceSpec)

/-- 'weighlocklaw03.CachePlays', WHERE WHAT IT READS IS OF BULK AT MOST 1048576: true; the input reads as it did. -/
def cachePlaysUptoRow : OpenClaim := { program := "ytcpbojjimfcbhaa", sum := "25013fd1b15535e5349a487fb005e4cf703bac8b4a279e7c4c7619d487d7811a", func := "weighlock/weighlocklaw03.CachePlays", spec := "cachePlays", apart := false, narrowed := true }
def CachePlaysUptoSaid : Prop := cachePlaysUptoRow.holds Try.pinned (OpenSpec.upto cachePlaysSpec)

end Rows
end Go.Proofs.Ytcpbojjimfcbhaa
