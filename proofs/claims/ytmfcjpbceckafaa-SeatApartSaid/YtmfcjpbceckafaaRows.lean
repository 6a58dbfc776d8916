/-
  No cell of these rows narrows 'for every input' (looked for: loops, veiled, ifaces, maps, wideKeys, modest, calm, conditions, laid).
  DERIVED. THE GIVEN ROWS OF THIS SEAT. 3 by the template 'for every input the law returns true; each argument reads behind the call as it read before'; 0 by the template 'total and deterministic' (their statements: YtmfcjpbceckafaaTotals.lean).
  GIVEN WITH THE SEED: the statements are not yours to turn. If you find one false, say at which input.
  Laid BY PROGRAM, IN A SANDBOX (cutbox-rows.mjs): the forced cells as the released guide's own fill.sh prints them over the translation d9180d27cf76989f… (all of the seat's roots in one cut). By AI agents, Wed Nov 11 2026. No macro, syntax, notation, axiom, sorry.
-/
import Derived.Test.YtmfcjpbceckafaaChecked
import GoSem.Claim
import GoSem.ClaimJoined
import GoSem.ClaimMapViews
import Derived.JoinedTies
import Derived.KernelRfl
namespace Go.Proofs.Ytmfcjpbceckafaa
/- THE CELL 'sum', in the pinned program and in every row, IS THE sha256 OF THE DUMP (.gsa) THAT YtmfcjpbceckafaaProg.lean LOADS. Nothing in Lean hashes anything: it is a label: what it is worth is what the hold of that sum in a sandbox is worth. -/
noncomputable def Try.pinned : Pinned := { name := "ytmfcjpbceckafaa", sum := "d9180d27cf76989fbc3916e6ac236e13bece34b9e06781596fefe2d44dfc172f", checked := Try.checked }
namespace Rows
def none {H : Type} : Left H := { results := [], args := [] }

/-- 'weighlocklaw09.SeatNews': WHATEVER THE INPUT: true; the input reads as it did. -/
def seatNewsSpec : ChangeSpec := { name := "seatNews", fn := fun _ => fun
  | [d] => { results := [.lit (.bool true)], args := [d] }
  | _ => none }
def seatNewsRow : OpenClaim := { program := "ytmfcjpbceckafaa", sum := "d9180d27cf76989fbc3916e6ac236e13bece34b9e06781596fefe2d44dfc172f", func := "weighlock/weighlocklaw09.SeatNews", spec := "seatNews", apart := false }
def SeatNewsSaid : Prop := seatNewsRow.holds Try.pinned (OpenSpec.ofChange seatNewsSpec)

/-- ITS FALSE NEIGHBOUR: 'it returns false'. Refute it at one input. -/
def seatNewsWrong : ChangeSpec := { name := "seatNews", fn := fun _ => fun
  | [d] => { results := [.lit (.bool false)], args := [d] }
  | _ => none }
def SeatNewsWrongFalsely : Prop := seatNewsRow.holds Try.pinned (OpenSpec.ofChange seatNewsWrong)

/-- 'weighlocklaw09.SeatApart': WHATEVER THE INPUT: true; the input reads as it did. -/
def seatApartSpec : ChangeSpec := { name := "seatApart", fn := fun _ => fun
  | [d] => { results := [.lit (.bool true)], args := [d] }
  | _ => none }
def seatApartRow : OpenClaim := { program := "ytmfcjpbceckafaa", sum := "d9180d27cf76989fbc3916e6ac236e13bece34b9e06781596fefe2d44dfc172f", func := "weighlock/weighlocklaw09.SeatApart", spec := "seatApart", apart := false }
def SeatApartSaid : Prop := seatApartRow.holds Try.pinned (OpenSpec.ofChange seatApartSpec)

/-- ITS FALSE NEIGHBOUR: 'it returns false'. Refute it at one input. -/
def seatApartWrong : ChangeSpec := { name := "seatApart", fn := fun _ => fun
  | [d] => { results := [.lit (.bool false)], args := [d] }
  | _ => none }
def SeatApartWrongFalsely : Prop := seatApartRow.holds Try.pinned (OpenSpec.ofChange seatApartWrong)

/-- 'weighlocklaw09.SeatPlays': WHATEVER THE INPUT: true; the input reads as it did. -/
def seatPlaysSpec : ChangeSpec := { name := "seatPlays", fn := fun _ => fun
  | [d] => { results := [.lit (.bool true)], args := [d] }
  | _ => none }
def seatPlaysRow : OpenClaim := { program := "ytmfcjpbceckafaa", sum := "d9180d27cf76989fbc3916e6ac236e13bece34b9e06781596fefe2d44dfc172f", func := "weighlock/weighlocklaw09.SeatPlays", spec := "seatPlays", apart := false }
def SeatPlaysSaid : Prop := seatPlaysRow.holds Try.pinned (OpenSpec.ofChange seatPlaysSpec)

/-- ITS FALSE NEIGHBOUR: 'it returns false'. Refute it at one input. -/
def seatPlaysWrong : ChangeSpec := { name := "seatPlays", fn := fun _ => fun
  | [d] => { results := [.lit (.bool false)], args := [d] }
  | _ => none }
def SeatPlaysWrongFalsely : Prop := seatPlaysRow.holds Try.pinned (OpenSpec.ofChange seatPlaysWrong)

/- THE SECOND FORM. 'bulk': how many values and letters a reading holds, each counted each time it is reached (what is shared counts as often as it is met; a slice's spare places count too). A statement '..UptoSaid' is the law's where the arguments, and the package variables that the reading takes, are together of bulk at most 1048576: NARROWER than '..Said'. Prove '..Said' where nothing that the law and all that it calls make is longer than what came in: it says more and counts as full. Else prove '..UptoSaid'. A law counts once. -/
mutual
def uptoBulk {H : Type} : DataW H → Nat
  | .lit (.string bytes) => bytes.length + 1
  | .lit _ => 1
  | .nil => 1
  | .ptr d => uptoBulk d + 1
  | .slice elems spare => uptoBulkAll elems + uptoBulkAll spare + 1
  | .agg parts => uptoBulkAll parts + 1
  | .iface _ d => uptoBulk d + 1
  | .map entries => uptoBulkEntries entries + 1
  | .held _ => 1
def uptoBulkAll {H : Type} : List (DataW H) → Nat
  | [] => 0
  | d :: r => uptoBulk d + uptoBulkAll r
def uptoBulkEntries {H : Type} : List (Lit × DataW H) → Nat
  | [] => 0
  | x :: r => uptoBulkEntry x + uptoBulkEntries r
def uptoBulkEntry {H : Type} : Lit × DataW H → Nat
  | (.string bytes, d) => bytes.length + uptoBulk d + 1
  | (_, d) => uptoBulk d + 1
 end
def uptoSmall : (H : Type) → List (DataW H) → Bool := fun _ ds => decide (uptoBulkAll ds ≤ 1048576)
def OpenSpec.upto (s : _root_.Go.ChangeSpec) : _root_.Go.OpenSpec := { _root_.Go.OpenSpec.ofChange s with cond := some uptoSmall }

/-- 'weighlocklaw09.SeatNews', WHERE WHAT IT READS IS OF BULK AT MOST 1048576: true; the input reads as it did. -/
def seatNewsUptoRow : OpenClaim := { program := "ytmfcjpbceckafaa", sum := "d9180d27cf76989fbc3916e6ac236e13bece34b9e06781596fefe2d44dfc172f", func := "weighlock/weighlocklaw09.SeatNews", spec := "seatNews", apart := false, narrowed := true }
def SeatNewsUptoSaid : Prop := seatNewsUptoRow.holds Try.pinned (OpenSpec.upto seatNewsSpec)

/-- 'weighlocklaw09.SeatApart', WHERE WHAT IT READS IS OF BULK AT MOST 1048576: true; the input reads as it did. -/
def seatApartUptoRow : OpenClaim := { program := "ytmfcjpbceckafaa", sum := "d9180d27cf76989fbc3916e6ac236e13bece34b9e06781596fefe2d44dfc172f", func := "weighlock/weighlocklaw09.SeatApart", spec := "seatApart", apart := false, narrowed := true }
def SeatApartUptoSaid : Prop := seatApartUptoRow.holds Try.pinned (OpenSpec.upto seatApartSpec)

/-- 'weighlocklaw09.SeatPlays', WHERE WHAT IT READS IS OF BULK AT MOST 1048576: true; the input reads as it did. -/
def seatPlaysUptoRow : OpenClaim := { program := "ytmfcjpbceckafaa", sum := "d9180d27cf76989fbc3916e6ac236e13bece34b9e06781596fefe2d44dfc172f", func := "weighlock/weighlocklaw09.SeatPlays", spec := "seatPlays", apart := false, narrowed := true }
def SeatPlaysUptoSaid : Prop := seatPlaysUptoRow.holds Try.pinned (OpenSpec.upto seatPlaysSpec)

end Rows
end Go.Proofs.Ytmfcjpbceckafaa
