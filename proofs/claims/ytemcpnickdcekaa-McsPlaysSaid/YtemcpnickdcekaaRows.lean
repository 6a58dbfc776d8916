/-
  No cell of these rows narrows 'for every input' (looked for: loops, veiled, ifaces, maps, wideKeys, modest, calm, conditions, laid).
  DERIVED. THE GIVEN ROWS OF THIS SEAT. 4 by the template 'for every input the law returns true; each argument reads behind the call as it read before'; 0 by the template 'total and deterministic' (their statements: YtemcpnickdcekaaTotals.lean).
  GIVEN WITH THE SEED: the statements are not yours to turn. If you find one false, say at which input.
  Laid BY PROGRAM, IN A SANDBOX (cutbox-rows.mjs): the forced cells as the released guide's own fill.sh prints them over the translation bd027e7f8239b227… (all of the seat's roots in one cut). By AI agents, Wed Nov 11 2026. No macro, syntax, notation, axiom, sorry.
-/
import Derived.Test.YtemcpnickdcekaaChecked
import GoSem.Claim
import GoSem.ClaimJoined
import GoSem.ClaimMapViews
import Derived.JoinedTies
import Derived.KernelRfl
namespace Go.Proofs.Ytemcpnickdcekaa
/- THE CELL 'sum', in the pinned program and in every row, IS THE sha256 OF THE DUMP (.gsa) THAT YtemcpnickdcekaaProg.lean LOADS. Nothing in Lean hashes anything: it is a label: what it is worth is what the hold of that sum in a sandbox is worth. -/
noncomputable def Try.pinned : Pinned := { name := "ytemcpnickdcekaa", sum := "bd027e7f8239b227f353b5d993a97be9d08028baf5af0e913503df59ea792344", checked := Try.checked }
namespace Rows
def none {H : Type} : Left H := { results := [], args := [] }

/-- 'weighlocklaw13.McsNews': WHATEVER THE INPUT: true; the input reads as it did. -/
def mcsNewsSpec : ChangeSpec := { name := "mcsNews", fn := fun _ => fun
  | [d1, d2] => { results := [.lit (.bool true)], args := [d1, d2] }
  | _ => none }
def mcsNewsRow : OpenClaim := { program := "ytemcpnickdcekaa", sum := "bd027e7f8239b227f353b5d993a97be9d08028baf5af0e913503df59ea792344", func := "weighlock/weighlocklaw13.McsNews", spec := "mcsNews", inPlace := ["sync/atomic.StoreUint32", "sync/atomic.SwapUint32", "sync/atomic.LoadUint32", "sync/atomic.CompareAndSwapUint32"], unfollowed := true, recurses := true, apart := false }
def McsNewsSaid : Prop := mcsNewsRow.holds Try.pinned (OpenSpec.ofChange mcsNewsSpec)

/-- ITS FALSE NEIGHBOUR: 'it returns false'. Refute it at one input. -/
def mcsNewsWrong : ChangeSpec := { name := "mcsNews", fn := fun _ => fun
  | [d1, d2] => { results := [.lit (.bool false)], args := [d1, d2] }
  | _ => none }
def McsNewsWrongFalsely : Prop := mcsNewsRow.holds Try.pinned (OpenSpec.ofChange mcsNewsWrong)

/-- 'weighlocklaw13.McsTurns': WHATEVER THE INPUT: true; the input reads as it did. -/
def mcsTurnsSpec : ChangeSpec := { name := "mcsTurns", fn := fun _ => fun
  | [d1, d2] => { results := [.lit (.bool true)], args := [d1, d2] }
  | _ => none }
def mcsTurnsRow : OpenClaim := { program := "ytemcpnickdcekaa", sum := "bd027e7f8239b227f353b5d993a97be9d08028baf5af0e913503df59ea792344", func := "weighlock/weighlocklaw13.McsTurns", spec := "mcsTurns", inPlace := ["sync/atomic.StoreUint32", "sync/atomic.SwapUint32", "sync/atomic.LoadUint32", "sync/atomic.CompareAndSwapUint32"], unfollowed := true, recurses := true, apart := false }
def McsTurnsSaid : Prop := mcsTurnsRow.holds Try.pinned (OpenSpec.ofChange mcsTurnsSpec)

/-- ITS FALSE NEIGHBOUR: 'it returns false'. Refute it at one input. -/
def mcsTurnsWrong : ChangeSpec := { name := "mcsTurns", fn := fun _ => fun
  | [d1, d2] => { results := [.lit (.bool false)], args := [d1, d2] }
  | _ => none }
def McsTurnsWrongFalsely : Prop := mcsTurnsRow.holds Try.pinned (OpenSpec.ofChange mcsTurnsWrong)

/-- 'weighlocklaw13.McsOrder': WHATEVER THE INPUT: true; the input reads as it did. -/
def mcsOrderSpec : ChangeSpec := { name := "mcsOrder", fn := fun _ => fun
  | [d1, d2] => { results := [.lit (.bool true)], args := [d1, d2] }
  | _ => none }
def mcsOrderRow : OpenClaim := { program := "ytemcpnickdcekaa", sum := "bd027e7f8239b227f353b5d993a97be9d08028baf5af0e913503df59ea792344", func := "weighlock/weighlocklaw13.McsOrder", spec := "mcsOrder", inPlace := ["sync/atomic.StoreUint32", "sync/atomic.SwapUint32", "sync/atomic.LoadUint32", "sync/atomic.CompareAndSwapUint32"], unfollowed := true, recurses := true, apart := false }
def McsOrderSaid : Prop := mcsOrderRow.holds Try.pinned (OpenSpec.ofChange mcsOrderSpec)

/-- ITS FALSE NEIGHBOUR: 'it returns false'. Refute it at one input. -/
def mcsOrderWrong : ChangeSpec := { name := "mcsOrder", fn := fun _ => fun
  | [d1, d2] => { results := [.lit (.bool false)], args := [d1, d2] }
  | _ => none }
def McsOrderWrongFalsely : Prop := mcsOrderRow.holds Try.pinned (OpenSpec.ofChange mcsOrderWrong)

/-- 'weighlocklaw13.McsPlays': WHATEVER THE INPUT: true; the input reads as it did. -/
def mcsPlaysSpec : ChangeSpec := { name := "mcsPlays", fn := fun _ => fun
  | [d1, d2] => { results := [.lit (.bool true)], args := [d1, d2] }
  | _ => none }
def mcsPlaysRow : OpenClaim := { program := "ytemcpnickdcekaa", sum := "bd027e7f8239b227f353b5d993a97be9d08028baf5af0e913503df59ea792344", func := "weighlock/weighlocklaw13.McsPlays", spec := "mcsPlays", inPlace := ["sync/atomic.StoreUint32", "sync/atomic.SwapUint32", "sync/atomic.LoadUint32", "sync/atomic.CompareAndSwapUint32"], unfollowed := true, recurses := true, apart := false }
def McsPlaysSaid : Prop := mcsPlaysRow.holds Try.pinned (OpenSpec.ofChange mcsPlaysSpec)

/-- ITS FALSE NEIGHBOUR: 'it returns false'. Refute it at one input. -/
def mcsPlaysWrong : ChangeSpec := { name := "mcsPlays", fn := fun _ => fun
  | [d1, d2] => { results := [.lit (.bool false)], args := [d1, d2] }
  | _ => none }
def McsPlaysWrongFalsely : Prop := mcsPlaysRow.holds Try.pinned (OpenSpec.ofChange mcsPlaysWrong)

/- THE SECOND FORM. 'bulk': how many values and letters a reading holds, each counted each time it is reached (what is shared counts as often as it is met; a slice's spare places count too). A statement '..UptoSaid' is the law's where the arguments, and the package variables that the reading takes, are together of bulk at most 1048576: NARROWER than '..Said'. Prove '..Said' where nothing that the law and all that it calls make is longer than what came in: it says more and counts as full. Else prove '..UptoSaid'. A law counts once. -/
mutual
def uptoBulk {H : Type} : DataW H → Nat
  | .lit (.string bytes) => bytes.length + 1
  | .lit _ => 1
  | .nil => 1
  | .ptr d => uptoBulk d + 1
  | .slice elems spare => uptoBulkAll elems + uptoBulkAll spare + 1
  | .agg parts => uptoBulkAll parts + 1
  | .iface _ d => uptoBulk d + 1
  | .map entries => uptoBulkEntries entries + 1
  | .held _ => 1
def uptoBulkAll {H : Type} : List (DataW H) → Nat
  | [] => 0
  | d :: r => uptoBulk d + uptoBulkAll r
def uptoBulkEntries {H : Type} : List (Lit × DataW H) → Nat
  | [] => 0
  | x :: r => uptoBulkEntry x + uptoBulkEntries r
def uptoBulkEntry {H : Type} : Lit × DataW H → Nat
  | (.string bytes, d) => bytes.length + uptoBulk d + 1
  | (_, d) => uptoBulk d + 1
 end
def uptoSmall : (H : Type) → List (DataW H) → Bool := fun _ ds => decide (uptoBulkAll ds ≤ 1048576)
def OpenSpec.upto (s : _root_.Go.ChangeSpec) : _root_.Go.OpenSpec := { _root_.Go.OpenSpec.ofChange s with cond := some uptoSmall }

/-- 'weighlocklaw13.McsNews', WHERE WHAT IT READS IS OF BULK AT MOST 1048576: true; the input reads as it did. -/
def mcsNewsUptoRow : OpenClaim := { program := "ytemcpnickdcekaa", sum := "bd027e7f8239b227f353b5d993a97be9d08028baf5af0e913503df59ea792344", func := "weighlock/weighlocklaw13.McsNews", spec := "mcsNews", inPlace := ["sync/atomic.StoreUint32", "sync/atomic.SwapUint32", "sync/atomic.LoadUint32", "sync/atomic.CompareAndSwapUint32"], unfollowed := true, recurses := true, apart := false, narrowed := true }
def McsNewsUptoSaid : Prop := mcsNewsUptoRow.holds Try.pinned (OpenSpec.upto mcsNewsSpec)

/-- 'weighlocklaw13.McsTurns', WHERE WHAT IT READS IS OF BULK AT MOST 1048576: true; the input reads as it did. -/
def mcsTurnsUptoRow : OpenClaim := { program := "ytemcpnickdcekaa", sum := "bd027e7f8239b227f353b5d993a97be9d08028baf5af0e913503df59ea792344", func := "weighlock/weighlocklaw13.McsTurns", spec := "mcsTurns", inPlace := ["sync/atomic.StoreUint32", "sync/atomic.SwapUint32", "sync/atomic.LoadUint32", "sync/atomic.CompareAndSwapUint32"], unfollowed := true, recurses := true, apart := false, narrowed := true }
def McsTurnsUptoSaid : Prop := mcsTurnsUptoRow.holds Try.pinned (OpenSpec.upto mcsTurnsSpec)

/-- 'weighlocklaw13.McsOrder', WHERE WHAT IT READS IS OF BULK AT MOST 1048576: true; the input reads as it did. -/
def mcsOrderUptoRow : OpenClaim := { program := "ytemcpnickdcekaa", sum := "bd027e7f8239b227f353b5d993a97be9d08028baf5af0e913503df59ea792344", func := "weighlock/weighlocklaw13.McsOrder", spec := "mcsOrder", inPlace := ["sync/atomic.StoreUint32", "sync/atomic.SwapUint32", "sync/atomic.LoadUint32", "sync/atomic.CompareAndSwapUint32"], unfollowed := true, recurses := true, apart := false, narrowed := true }
def McsOrderUptoSaid : Prop := mcsOrderUptoRow.holds Try.pinned (OpenSpec.upto mcsOrderSpec)

/-- 'weighlocklaw13.McsPlays', WHERE WHAT IT READS IS OF BULK AT MOST 1048576: true; the input reads as it did. -/
def mcsPlaysUptoRow : OpenClaim := { program := "ytemcpnickdcekaa", sum := "bd027e7f8239b227f353b5d993a97be9d08028baf5af0e913503df59ea792344", func := "weighlock/weighlocklaw13.McsPlays", spec := "mcsPlays", inPlace := ["sync/atomic.StoreUint32", "sync/atomic.SwapUint32", "sync/atomic.LoadUint32", "sync/atomic.CompareAndSwapUint32"], unfollowed := true, recurses := true, apart := false, narrowed := true }
def McsPlaysUptoSaid : Prop := mcsPlaysUptoRow.holds Try.pinned (OpenSpec.upto mcsPlaysSpec)

end Rows
end Go.Proofs.Ytemcpnickdcekaa
