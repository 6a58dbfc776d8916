/-
  No cell of these rows narrows 'for every input' (looked for: loops, veiled, ifaces, maps, wideKeys, modest, calm, conditions, laid).
  DERIVED. THE GIVEN ROWS OF THIS SEAT. 6 by the template 'for every input the law returns true; each argument reads behind the call as it read before'; 0 by the template 'total and deterministic' (their statements: YtlkpfdboagjaoaaTotals.lean).
  GIVEN WITH THE SEED: the statements are not yours to turn. If you find one false, say at which input.
  Laid BY PROGRAM, IN A SANDBOX (cutbox-rows.mjs): the forced cells as the released guide's own fill.sh prints them over the translation aee849931e060c04… (all of the seat's roots in one cut). By AI agents, Wed Nov 11 2026. No macro, syntax, notation, axiom, sorry.
-/
import Derived.Test.YtlkpfdboagjaoaaChecked
import GoSem.Claim
import GoSem.ClaimJoined
import GoSem.ClaimMapViews
import Derived.JoinedTies
import Derived.KernelRfl
namespace Go.Proofs.Ytlkpfdboagjaoaa
/- THE CELL 'sum', in the pinned program and in every row, IS THE sha256 OF THE DUMP (.gsa) THAT YtlkpfdboagjaoaaProg.lean LOADS. Nothing in Lean hashes anything: it is a label: what it is worth is what the hold of that sum in a sandbox is worth. -/
noncomputable def Try.pinned : Pinned := { name := "ytlkpfdboagjaoaa", sum := "aee849931e060c04d67c09eca808b5f2c88b40f7e461725bc6adc8f9b1252cfb", checked := Try.checked }
namespace Rows
def none {H : Type} : Left H := { results := [], args := [] }

/-- 'weighlocklaw14.AbortNews': WHATEVER THE INPUT: true; the input reads as it did. -/
def abortNewsSpec : ChangeSpec := { name := "abortNews", fn := fun _ => fun
  | [d1, d2, d3] => { results := [.lit (.bool true)], args := [d1, d2, d3] }
  | _ => none }
def abortNewsRow : OpenClaim := { program := "ytlkpfdboagjaoaa", sum := "aee849931e060c04d67c09eca808b5f2c88b40f7e461725bc6adc8f9b1252cfb", func := "weighlock/weighlocklaw14.AbortNews", spec := "abortNews", inPlace := ["sync/atomic.StoreUint32", "sync/atomic.LoadUint32", "sync/atomic.SwapUint32", "sync/atomic.CompareAndSwapUint32"], unfollowed := true, recurses := true, apart := false }
def AbortNewsSaid : Prop := abortNewsRow.holds Try.pinned (OpenSpec.ofChange abortNewsSpec)

/-- ITS FALSE NEIGHBOUR: 'it returns false'. Refute it at one input. -/
def abortNewsWrong : ChangeSpec := { name := "abortNews", fn := fun _ => fun
  | [d1, d2, d3] => { results := [.lit (.bool false)], args := [d1, d2, d3] }
  | _ => none }
def AbortNewsWrongFalsely : Prop := abortNewsRow.holds Try.pinned (OpenSpec.ofChange abortNewsWrong)

/-- 'weighlocklaw14.AbortLate': WHATEVER THE INPUT: true; the input reads as it did. -/
def abortLateSpec : ChangeSpec := { name := "abortLate", fn := fun _ => fun
  | [d1, d2, d3] => { results := [.lit (.bool true)], args := [d1, d2, d3] }
  | _ => none }
def abortLateRow : OpenClaim := { program := "ytlkpfdboagjaoaa", sum := "aee849931e060c04d67c09eca808b5f2c88b40f7e461725bc6adc8f9b1252cfb", func := "weighlock/weighlocklaw14.AbortLate", spec := "abortLate", inPlace := ["sync/atomic.StoreUint32", "sync/atomic.LoadUint32", "sync/atomic.SwapUint32", "sync/atomic.CompareAndSwapUint32"], unfollowed := true, recurses := true, apart := false }
def AbortLateSaid : Prop := abortLateRow.holds Try.pinned (OpenSpec.ofChange abortLateSpec)

/-- ITS FALSE NEIGHBOUR: 'it returns false'. Refute it at one input. -/
def abortLateWrong : ChangeSpec := { name := "abortLate", fn := fun _ => fun
  | [d1, d2, d3] => { results := [.lit (.bool false)], args := [d1, d2, d3] }
  | _ => none }
def AbortLateWrongFalsely : Prop := abortLateRow.holds Try.pinned (OpenSpec.ofChange abortLateWrong)

/-- 'weighlocklaw14.AbortBack': WHATEVER THE INPUT: true; the input reads as it did. -/
def abortBackSpec : ChangeSpec := { name := "abortBack", fn := fun _ => fun
  | [d1, d2, d3] => { results := [.lit (.bool true)], args := [d1, d2, d3] }
  | _ => none }
def abortBackRow : OpenClaim := { program := "ytlkpfdboagjaoaa", sum := "aee849931e060c04d67c09eca808b5f2c88b40f7e461725bc6adc8f9b1252cfb", func := "weighlock/weighlocklaw14.AbortBack", spec := "abortBack", inPlace := ["sync/atomic.StoreUint32", "sync/atomic.LoadUint32", "sync/atomic.SwapUint32", "sync/atomic.CompareAndSwapUint32"], unfollowed := true, recurses := true, apart := false }
def AbortBackSaid : Prop := abortBackRow.holds Try.pinned (OpenSpec.ofChange abortBackSpec)

/-- ITS FALSE NEIGHBOUR: 'it returns false'. Refute it at one input. -/
def abortBackWrong : ChangeSpec := { name := "abortBack", fn := fun _ => fun
  | [d1, d2, d3] => { results := [.lit (.bool false)], args := [d1, d2, d3] }
  | _ => none }
def AbortBackWrongFalsely : Prop := abortBackRow.holds Try.pinned (OpenSpec.ofChange abortBackWrong)

/-- 'weighlocklaw14.AbortTurns': WHATEVER THE INPUT: true; the input reads as it did. -/
def abortTurnsSpec : ChangeSpec := { name := "abortTurns", fn := fun _ => fun
  | [d1, d2, d3] => { results := [.lit (.bool true)], args := [d1, d2, d3] }
  | _ => none }
def abortTurnsRow : OpenClaim := { program := "ytlkpfdboagjaoaa", sum := "aee849931e060c04d67c09eca808b5f2c88b40f7e461725bc6adc8f9b1252cfb", func := "weighlock/weighlocklaw14.AbortTurns", spec := "abortTurns", inPlace := ["sync/atomic.StoreUint32", "sync/atomic.LoadUint32", "sync/atomic.SwapUint32", "sync/atomic.CompareAndSwapUint32"], unfollowed := true, recurses := true, apart := false }
def AbortTurnsSaid : Prop := abortTurnsRow.holds Try.pinned (OpenSpec.ofChange abortTurnsSpec)

/-- ITS FALSE NEIGHBOUR: 'it returns false'. Refute it at one input. -/
def abortTurnsWrong : ChangeSpec := { name := "abortTurns", fn := fun _ => fun
  | [d1, d2, d3] => { results := [.lit (.bool false)], args := [d1, d2, d3] }
  | _ => none }
def AbortTurnsWrongFalsely : Prop := abortTurnsRow.holds Try.pinned (OpenSpec.ofChange abortTurnsWrong)

/-- 'weighlocklaw14.AbortOrder': WHATEVER THE INPUT: true; the input reads as it did. -/
def abortOrderSpec : ChangeSpec := { name := "abortOrder", fn := fun _ => fun
  | [d1, d2, d3] => { results := [.lit (.bool true)], args := [d1, d2, d3] }
  | _ => none }
def abortOrderRow : OpenClaim := { program := "ytlkpfdboagjaoaa", sum := "aee849931e060c04d67c09eca808b5f2c88b40f7e461725bc6adc8f9b1252cfb", func := "weighlock/weighlocklaw14.AbortOrder", spec := "abortOrder", inPlace := ["sync/atomic.StoreUint32", "sync/atomic.LoadUint32", "sync/atomic.SwapUint32", "sync/atomic.CompareAndSwapUint32"], unfollowed := true, recurses := true, apart := false }
def AbortOrderSaid : Prop := abortOrderRow.holds Try.pinned (OpenSpec.ofChange abortOrderSpec)

/-- ITS FALSE NEIGHBOUR: 'it returns false'. Refute it at one input. -/
def abortOrderWrong : ChangeSpec := { name := "abortOrder", fn := fun _ => fun
  | [d1, d2, d3] => { results := [.lit (.bool false)], args := [d1, d2, d3] }
  | _ => none }
def AbortOrderWrongFalsely : Prop := abortOrderRow.holds Try.pinned (OpenSpec.ofChange abortOrderWrong)

/-- 'weighlocklaw14.AbortPlays': WHATEVER THE INPUT: true; the input reads as it did. -/
def abortPlaysSpec : ChangeSpec := { name := "abortPlays", fn := fun _ => fun
  | [d1, d2, d3] => { results := [.lit (.bool true)], args := [d1, d2, d3] }
  | _ => none }
def abortPlaysRow : OpenClaim := { program := "ytlkpfdboagjaoaa", sum := "aee849931e060c04d67c09eca808b5f2c88b40f7e461725bc6adc8f9b1252cfb", func := "weighlock/weighlocklaw14.AbortPlays", spec := "abortPlays", inPlace := ["sync/atomic.StoreUint32", "sync/atomic.LoadUint32", "sync/atomic.SwapUint32", "sync/atomic.CompareAndSwapUint32"], unfollowed := true, recurses := true, apart := false }
def AbortPlaysSaid : Prop := abortPlaysRow.holds Try.pinned (OpenSpec.ofChange abortPlaysSpec)

/-- ITS FALSE NEIGHBOUR: 'it returns false'. Refute it at one input. -/
def abortPlaysWrong : ChangeSpec := { name := "abortPlays", fn := fun _ => fun
  | [d1, d2, d3] => { results := [.lit (.bool false)], args := [d1, d2, d3] }
  | _ => none }
def AbortPlaysWrongFalsely : Prop := abortPlaysRow.holds Try.pinned (OpenSpec.ofChange abortPlaysWrong)

/- THE SECOND FORM. 'bulk': how many values and letters a reading holds, each counted each time it is reached (what is shared counts as often as it is met; a slice's spare places count too). A statement '..UptoSaid' is the law's where the arguments, and the package variables that the reading takes, are together of bulk at most 1048576: NARROWER than '..Said'. Prove '..Said' where nothing that the law and all that it calls make is longer than what came in: it says more and counts as full. Else prove '..UptoSaid'. A law counts once. -/
mutual
def uptoBulk {H : Type} : DataW H → Nat
  | .lit (.string bytes) => bytes.length + 1
  | .lit _ => 1
  | .nil => 1
  | .ptr d => uptoBulk d + 1
  | .slice elems spare => uptoBulkAll elems + uptoBulkAll spare + 1
  | .agg parts => uptoBulkAll parts + 1
  | .iface _ d => uptoBulk d + 1
  | .map entries => uptoBulkEntries entries + 1
  | .held _ => 1
def uptoBulkAll {H : Type} : List (DataW H) → Nat
  | [] => 0
  | d :: r => uptoBulk d + uptoBulkAll r
def uptoBulkEntries {H : Type} : List (Lit × DataW H) → Nat
  | [] => 0
  | x :: r => uptoBulkEntry x + uptoBulkEntries r
def uptoBulkEntry {H : Type} : Lit × DataW H → Nat
  | (.string bytes, d) => bytes.length + uptoBulk d + 1
  | (_, d) => uptoBulk d + 1
 end
def uptoSmall : (H : Type) → List (DataW H) → Bool := fun _ ds => decide (uptoBulkAll ds ≤ 1048576)
def OpenSpec.upto (s : _root_.Go.ChangeSpec) : _root_.Go.OpenSpec := { _root_.Go.OpenSpec.ofChange s with cond := some uptoSmall }

/-- 'weighlocklaw14.AbortNews', WHERE WHAT IT READS IS OF BULK AT MOST 1048576: true; the input reads as it did. -/
def abortNewsUptoRow : OpenClaim := { program := "ytlkpfdboagjaoaa", sum := "aee849931e060c04d67c09eca808b5f2c88b40f7e461725bc6adc8f9b1252cfb", func := "weighlock/weighlocklaw14.AbortNews", spec := "abortNews", inPlace := ["sync/atomic.StoreUint32", "sync/atomic.LoadUint32", "sync/atomic.SwapUint32", "sync/atomic.CompareAndSwapUint32"], unfollowed := true, recurses := true, apart := false, narrowed := true }
def AbortNewsUptoSaid : Prop := abortNewsUptoRow.holds Try.pinned (OpenSpec.upto abortNewsSpec)

/-- 'weighlocklaw14.AbortLate', WHERE WHAT IT READS IS OF BULK AT MOST 1048576: true; the input reads as it did. -/
def abortLateUptoRow : OpenClaim := { program := "ytlkpfdboagjaoaa", sum := "aee849931e060c04d67c09eca808b5f2c88b40f7e461725bc6adc8f9b1252cfb", func := "weighlock/weighlocklaw14.AbortLate", spec := "abortLate", inPlace := ["sync/atomic.StoreUint32", "sync/atomic.LoadUint32", "sync/atomic.SwapUint32", "sync/atomic.CompareAndSwapUint32"], unfollowed := true, recurses := true, apart := false, narrowed := true }
def AbortLateUptoSaid : Prop := abortLateUptoRow.holds Try.pinned (OpenSpec.upto abortLateSpec)

/-- 'weighlocklaw14.AbortBack', WHERE WHAT IT READS IS OF BULK AT MOST 1048576: true; the input reads as it did. -/
def abortBackUptoRow : OpenClaim := { program := "ytlkpfdboagjaoaa", sum := "aee849931e060c04d67c09eca808b5f2c88b40f7e461725bc6adc8f9b1252cfb", func := "weighlock/weighlocklaw14.AbortBack", spec := "abortBack", inPlace := ["sync/atomic.StoreUint32", "sync/atomic.LoadUint32", "sync/atomic.SwapUint32", "sync/atomic.CompareAndSwapUint32"], unfollowed := true, recurses := true, apart := false, narrowed := true }
def AbortBackUptoSaid : Prop := abortBackUptoRow.holds Try.pinned (OpenSpec.upto abortBackSpec)

/-- 'weighlocklaw14.AbortTurns', WHERE WHAT IT READS IS OF BULK AT MOST 1048576: true; the input reads as it did. -/
def abortTurnsUptoRow : OpenClaim := { program := "ytlkpfdboagjaoaa", sum := "aee849931e060c04d67c09eca808b5f2c88b40f7e461725bc6adc8f9b1252cfb", func := "weighlock/weighlocklaw14.AbortTurns", spec := "abortTurns", inPlace := ["sync/atomic.StoreUint32", "sync/atomic.LoadUint32", "sync/atomic.SwapUint32", "sync/atomic.CompareAndSwapUint32"], unfollowed := true, recurses := true, apart := false, narrowed := true }
def AbortTurnsUptoSaid : Prop := abortTurnsUptoRow.holds Try.pinned (OpenSpec.upto abortTurnsSpec)

/-- 'weighlocklaw14.AbortOrder', WHERE WHAT IT READS IS OF BULK AT MOST 1048576: true; the input reads as it did. -/
def abortOrderUptoRow : OpenClaim := { program := "ytlkpfdboagjaoaa", sum := "aee849931e060c04d67c09eca808b5f2c88b40f7e461725bc6adc8f9b1252cfb", func := "weighlock/weighlocklaw14.AbortOrder", spec := "abortOrder", inPlace := ["sync/atomic.StoreUint32", "sync/atomic.LoadUint32", "sync/atomic.SwapUint32", "sync/atomic.CompareAndSwapUint32"], unfollowed := true, recurses := true, apart := false, narrowed := true }
def AbortOrderUptoSaid : Prop := abortOrderUptoRow.holds Try.pinned (OpenSpec.upto abortOrderSpec)

/-- 'weighlocklaw14.AbortPlays', WHERE WHAT IT READS IS OF BULK AT MOST 1048576: true; the input reads as it did. -/
def abortPlaysUptoRow : OpenClaim := { program := "ytlkpfdboagjaoaa", sum := "aee849931e060c04d67c09eca808b5f2c88b40f7e461725bc6adc8f9b1252cfb", func := "weighlock/weighlocklaw14.AbortPlays", spec := "abortPlays", inPlace := ["sync/atomic.StoreUint32", "sync/atomic.LoadUint32", "sync/atomic.SwapUint32", "sync/atomic.CompareAndSwapUint32"], unfollowed := true, recurses := true, apart := false, narrowed := true }
def AbortPlaysUptoSaid : Prop := abortPlaysUptoRow.holds Try.pinned (OpenSpec.upto abortPlaysSpec)

end Rows
end Go.Proofs.Ytlkpfdboagjaoaa
