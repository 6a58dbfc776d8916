/-
  No cell of these rows narrows 'for every input' (looked for: loops, veiled, ifaces, maps, wideKeys, modest, calm, conditions, laid).
  DERIVED. THE GIVEN ROWS OF THIS SEAT. 5 by the template 'for every input the law returns true; each argument reads behind the call as it read before'; 0 by the template 'total and deterministic' (their statements: YtamchnaifmoklaaTotals.lean).
  GIVEN WITH THE SEED: the statements are not yours to turn. If you find one false, say at which input.
  Laid BY PROGRAM, IN A SANDBOX (cutbox-rows.mjs): the forced cells as the released guide's own fill.sh prints them over the translation d2ee49d85530364b… (all of the seat's roots in one cut). By AI agents, Wed Nov 11 2026. No macro, syntax, notation, axiom, sorry.
-/
import Derived.Test.YtamchnaifmoklaaChecked
import GoSem.Claim
import GoSem.ClaimJoined
import GoSem.ClaimMapViews
import Derived.JoinedTies
import Derived.KernelRfl
namespace Go.Proofs.Ytamchnaifmoklaa
/- THE CELL 'sum', in the pinned program and in every row, IS THE sha256 OF THE DUMP (.gsa) THAT YtamchnaifmoklaaProg.lean LOADS. Nothing in Lean hashes anything: it is a label: what it is worth is what the hold of that sum in a sandbox is worth. -/
noncomputable def Try.pinned : Pinned := { name := "ytamchnaifmoklaa", sum := "d2ee49d85530364bc6c8a4216bf2a9460e7b3bf44973c889b5ccf95cd08defc5", checked := Try.checked }
namespace Rows
def none {H : Type} : Left H := { results := [], args := [] }

/-- 'weighlocklaw11.SlotsNews': WHATEVER THE INPUT: true; the input reads as it did. -/
def slotsNewsSpec : ChangeSpec := { name := "slotsNews", fn := fun _ => fun
  | [d1, d2, d3] => { results := [.lit (.bool true)], args := [d1, d2, d3] }
  | _ => none }
def slotsNewsRow : OpenClaim := { program := "ytamchnaifmoklaa", sum := "d2ee49d85530364bc6c8a4216bf2a9460e7b3bf44973c889b5ccf95cd08defc5", func := "weighlock/weighlocklaw11.SlotsNews", spec := "slotsNews", inPlace := ["sync/atomic.StoreUint32", "sync/atomic.AddUint32", "sync/atomic.LoadUint32"], unfollowed := true, recurses := true, apart := false }
def SlotsNewsSaid : Prop := slotsNewsRow.holds Try.pinned (OpenSpec.ofChange slotsNewsSpec)

/-- ITS FALSE NEIGHBOUR: 'it returns false'. Refute it at one input. -/
def slotsNewsWrong : ChangeSpec := { name := "slotsNews", fn := fun _ => fun
  | [d1, d2, d3] => { results := [.lit (.bool false)], args := [d1, d2, d3] }
  | _ => none }
def SlotsNewsWrongFalsely : Prop := slotsNewsRow.holds Try.pinned (OpenSpec.ofChange slotsNewsWrong)

/-- 'weighlocklaw11.SlotsOne': WHATEVER THE INPUT: true; the input reads as it did. -/
def slotsOneSpec : ChangeSpec := { name := "slotsOne", fn := fun _ => fun
  | [d] => { results := [.lit (.bool true)], args := [d] }
  | _ => none }
def slotsOneRow : OpenClaim := { program := "ytamchnaifmoklaa", sum := "d2ee49d85530364bc6c8a4216bf2a9460e7b3bf44973c889b5ccf95cd08defc5", func := "weighlock/weighlocklaw11.SlotsOne", spec := "slotsOne", inPlace := ["sync/atomic.StoreUint32", "sync/atomic.AddUint32", "sync/atomic.LoadUint32"], unfollowed := true, recurses := true, apart := false }
def SlotsOneSaid : Prop := slotsOneRow.holds Try.pinned (OpenSpec.ofChange slotsOneSpec)

/-- ITS FALSE NEIGHBOUR: 'it returns false'. Refute it at one input. -/
def slotsOneWrong : ChangeSpec := { name := "slotsOne", fn := fun _ => fun
  | [d] => { results := [.lit (.bool false)], args := [d] }
  | _ => none }
def SlotsOneWrongFalsely : Prop := slotsOneRow.holds Try.pinned (OpenSpec.ofChange slotsOneWrong)

/-- 'weighlocklaw11.SlotsTurns': WHATEVER THE INPUT: true; the input reads as it did. -/
def slotsTurnsSpec : ChangeSpec := { name := "slotsTurns", fn := fun _ => fun
  | [d1, d2] => { results := [.lit (.bool true)], args := [d1, d2] }
  | _ => none }
def slotsTurnsRow : OpenClaim := { program := "ytamchnaifmoklaa", sum := "d2ee49d85530364bc6c8a4216bf2a9460e7b3bf44973c889b5ccf95cd08defc5", func := "weighlock/weighlocklaw11.SlotsTurns", spec := "slotsTurns", inPlace := ["sync/atomic.StoreUint32", "sync/atomic.AddUint32", "sync/atomic.LoadUint32"], unfollowed := true, recurses := true, apart := false }
def SlotsTurnsSaid : Prop := slotsTurnsRow.holds Try.pinned (OpenSpec.ofChange slotsTurnsSpec)

/-- ITS FALSE NEIGHBOUR: 'it returns false'. Refute it at one input. -/
def slotsTurnsWrong : ChangeSpec := { name := "slotsTurns", fn := fun _ => fun
  | [d1, d2] => { results := [.lit (.bool false)], args := [d1, d2] }
  | _ => none }
def SlotsTurnsWrongFalsely : Prop := slotsTurnsRow.holds Try.pinned (OpenSpec.ofChange slotsTurnsWrong)

/-- 'weighlocklaw11.SlotsOrder': WHATEVER THE INPUT: true; the input reads as it did. -/
def slotsOrderSpec : ChangeSpec := { name := "slotsOrder", fn := fun _ => fun
  | [d] => { results := [.lit (.bool true)], args := [d] }
  | _ => none }
def slotsOrderRow : OpenClaim := { program := "ytamchnaifmoklaa", sum := "d2ee49d85530364bc6c8a4216bf2a9460e7b3bf44973c889b5ccf95cd08defc5", func := "weighlock/weighlocklaw11.SlotsOrder", spec := "slotsOrder", inPlace := ["sync/atomic.StoreUint32", "sync/atomic.AddUint32", "sync/atomic.LoadUint32"], unfollowed := true, recurses := true, apart := false }
def SlotsOrderSaid : Prop := slotsOrderRow.holds Try.pinned (OpenSpec.ofChange slotsOrderSpec)

/-- ITS FALSE NEIGHBOUR: 'it returns false'. Refute it at one input. -/
def slotsOrderWrong : ChangeSpec := { name := "slotsOrder", fn := fun _ => fun
  | [d] => { results := [.lit (.bool false)], args := [d] }
  | _ => none }
def SlotsOrderWrongFalsely : Prop := slotsOrderRow.holds Try.pinned (OpenSpec.ofChange slotsOrderWrong)

/-- 'weighlocklaw11.SlotsPlays': WHATEVER THE INPUT: true; the input reads as it did. -/
def slotsPlaysSpec : ChangeSpec := { name := "slotsPlays", fn := fun _ => fun
  | [d] => { results := [.lit (.bool true)], args := [d] }
  | _ => none }
def slotsPlaysRow : OpenClaim := { program := "ytamchnaifmoklaa", sum := "d2ee49d85530364bc6c8a4216bf2a9460e7b3bf44973c889b5ccf95cd08defc5", func := "weighlock/weighlocklaw11.SlotsPlays", spec := "slotsPlays", inPlace := ["sync/atomic.StoreUint32", "sync/atomic.AddUint32", "sync/atomic.LoadUint32"], unfollowed := true, recurses := true, apart := false }
def SlotsPlaysSaid : Prop := slotsPlaysRow.holds Try.pinned (OpenSpec.ofChange slotsPlaysSpec)

/-- ITS FALSE NEIGHBOUR: 'it returns false'. Refute it at one input. -/
def slotsPlaysWrong : ChangeSpec := { name := "slotsPlays", fn := fun _ => fun
  | [d] => { results := [.lit (.bool false)], args := [d] }
  | _ => none }
def SlotsPlaysWrongFalsely : Prop := slotsPlaysRow.holds Try.pinned (OpenSpec.ofChange slotsPlaysWrong)

/- THE SECOND FORM. 'bulk': how many values and letters a reading holds, each counted each time it is reached (what is shared counts as often as it is met; a slice's spare places count too). A statement '..UptoSaid' is the law's where the arguments, and the package variables that the reading takes, are together of bulk at most 1048576: NARROWER than '..Said'. Prove '..Said' where nothing that the law and all that it calls make is longer than what came in: it says more and counts as full. Else prove '..UptoSaid'. A law counts once. -/
mutual
def uptoBulk {H : Type} : DataW H → Nat
  | .lit (.string bytes) => bytes.length + 1
  | .lit _ => 1
  | .nil => 1
  | .ptr d => uptoBulk d + 1
  | .slice elems spare => uptoBulkAll elems + uptoBulkAll spare + 1
  | .agg parts => uptoBulkAll parts + 1
  | .iface _ d => uptoBulk d + 1
  | .map entries => uptoBulkEntries entries + 1
  | .held _ => 1
def uptoBulkAll {H : Type} : List (DataW H) → Nat
  | [] => 0
  | d :: r => uptoBulk d + uptoBulkAll r
def uptoBulkEntries {H : Type} : List (Lit × DataW H) → Nat
  | [] => 0
  | x :: r => uptoBulkEntry x + uptoBulkEntries r
def uptoBulkEntry {H : Type} : Lit × DataW H → Nat
  | (.string bytes, d) => bytes.length + uptoBulk d + 1
  | (_, d) => uptoBulk d + 1
 end
def uptoSmall : (H : Type) → List (DataW H) → Bool := fun _ ds => decide (uptoBulkAll ds ≤ 1048576)
def OpenSpec.upto (s : _root_.Go.ChangeSpec) : _root_.Go.OpenSpec := { _root_.Go.OpenSpec.ofChange s with cond := some uptoSmall }

/-- 'weighlocklaw11.SlotsNews', WHERE WHAT IT READS IS OF BULK AT MOST 1048576: true; the input reads as it did. -/
def slotsNewsUptoRow : OpenClaim := { program := "ytamchnaifmoklaa", sum := "d2ee49d85530364bc6c8a4216bf2a9460e7b3bf44973c889b5ccf95cd08defc5", func := "weighlock/weighlocklaw11.SlotsNews", spec := "slotsNews", inPlace := ["sync/atomic.StoreUint32", "sync/atomic.AddUint32", "sync/atomic.LoadUint32"], unfollowed := true, recurses := true, apart := false, narrowed := true }
def SlotsNewsUptoSaid : Prop := slotsNewsUptoRow.holds Try.pinned (OpenSpec.upto slotsNewsSpec)

/-- 'weighlocklaw11.SlotsOne', WHERE WHAT IT READS IS OF BULK AT MOST 1048576: true; the input reads as it did. -/
def slotsOneUptoRow : OpenClaim := { program := "ytamchnaifmoklaa", sum := "d2ee49d85530364bc6c8a4216bf2a9460e7b3bf44973c889b5ccf95cd08defc5", func := "weighlock/weighlocklaw11.SlotsOne", spec := "slotsOne", inPlace := ["sync/atomic.StoreUint32", "sync/atomic.AddUint32", "sync/atomic.LoadUint32"], unfollowed := true, recurses := true, apart := false, narrowed := true }
def SlotsOneUptoSaid : Prop := slotsOneUptoRow.holds Try.pinned (OpenSpec.upto slotsOneSpec)

/-- 'weighlocklaw11.SlotsTurns', WHERE WHAT IT READS IS OF BULK AT MOST 1048576: true; the input reads as it did. -/
def slotsTurnsUptoRow : OpenClaim := { program := "ytamchnaifmoklaa", sum := "d2ee49d85530364bc6c8a4216bf2a9460e7b3bf44973c889b5ccf95cd08defc5", func := "weighlock/weighlocklaw11.SlotsTurns", spec := "slotsTurns", inPlace := ["sync/atomic.StoreUint32", "sync/atomic.AddUint32", "sync/atomic.LoadUint32"], unfollowed := true, recurses := true, apart := false, narrowed := true }
def SlotsTurnsUptoSaid : Prop := slotsTurnsUptoRow.holds Try.pinned (OpenSpec.upto slotsTurnsSpec)

/-- 'weighlocklaw11.SlotsOrder', WHERE WHAT IT READS IS OF BULK AT MOST 1048576: true; the input reads as it did. -/
def slotsOrderUptoRow : OpenClaim := { program := "ytamchnaifmoklaa", sum := "d2ee49d85530364bc6c8a4216bf2a9460e7b3bf44973c889b5ccf95cd08defc5", func := "weighlock/weighlocklaw11.SlotsOrder", spec := "slotsOrder", inPlace := ["sync/atomic.StoreUint32", "sync/atomic.AddUint32", "sync/atomic.LoadUint32"], unfollowed := true, recurses := true, apart := false, narrowed := true }
def SlotsOrderUptoSaid : Prop := slotsOrderUptoRow.holds Try.pinned (OpenSpec.upto slotsOrderSpec)

/-- 'weighlocklaw11.SlotsPlays', WHERE WHAT IT READS IS OF BULK AT MOST 1048576: true; the input reads as it did. -/
def slotsPlaysUptoRow : OpenClaim := { program := "ytamchnaifmoklaa", sum := "d2ee49d85530364bc6c8a4216bf2a9460e7b3bf44973c889b5ccf95cd08defc5", func := "weighlock/weighlocklaw11.SlotsPlays", spec := "slotsPlays", inPlace := ["sync/atomic.StoreUint32", "sync/atomic.AddUint32", "sync/atomic.LoadUint32"], unfollowed := true, recurses := true, apart := false, narrowed := true }
def SlotsPlaysUptoSaid : Prop := slotsPlaysUptoRow.holds Try.pinned (OpenSpec.upto slotsPlaysSpec)

end Rows
end Go.Proofs.Ytamchnaifmoklaa
