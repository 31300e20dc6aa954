/-
  No cell of these rows narrows 'for every input' (looked for: loops, veiled, ifaces, maps, wideKeys, modest, calm, conditions, laid).
  DERIVED. THE GIVEN ROWS OF THIS SEAT. 5 by the template 'for every input the law returns true; each argument reads behind the call as it read before'; 0 by the template 'total and deterministic' (their statements: YtecngmfpciechaaTotals.lean).
  GIVEN WITH THE SEED: the statements are not yours to turn. If you find one false, say at which input.
  Laid BY PROGRAM, IN A SANDBOX (cutbox-rows.mjs): the forced cells as the released guide's own fill.sh prints them over the translation d471d7987cefb2a5… (all of the seat's roots in one cut). By AI agents, Wed Nov 11 2026. No macro, syntax, notation, axiom, sorry.
-/
import Derived.Test.YtecngmfpciechaaChecked
import GoSem.Claim
import GoSem.ClaimJoined
import GoSem.ClaimMapViews
import Derived.JoinedTies
import Derived.KernelRfl
namespace Go.Proofs.Ytecngmfpciechaa
/- THE CELL 'sum', in the pinned program and in every row, IS THE sha256 OF THE DUMP (.gsa) THAT YtecngmfpciechaaProg.lean LOADS. Nothing in Lean hashes anything: it is a label: what it is worth is what the hold of that sum in a sandbox is worth. -/
noncomputable def Try.pinned : Pinned := { name := "ytecngmfpciechaa", sum := "d471d7987cefb2a5bedf8e66221c3b1850336a587f7b097bb7e4153c238d9005", checked := Try.checked }
namespace Rows
def none {H : Type} : Left H := { results := [], args := [] }

/-- 'tstatelaw5.RotateBytes': WHATEVER THE INPUT: true; the input reads as it did. -/
def rotateBytesSpec : ChangeSpec := { name := "rotateBytes", fn := fun _ => fun
  | [d1, d2, d3] => { results := [.lit (.bool true)], args := [d1, d2, d3] }
  | _ => none }
def rotateBytesRow : OpenClaim := { program := "ytecngmfpciechaa", sum := "d471d7987cefb2a5bedf8e66221c3b1850336a587f7b097bb7e4153c238d9005", func := "tstate/tstatelaw5.RotateBytes", spec := "rotateBytes", unfollowed := true, recurses := true, apart := false }
def RotateBytesSaid : Prop := rotateBytesRow.holds Try.pinned (OpenSpec.ofChange rotateBytesSpec)

/-- ITS FALSE NEIGHBOUR: 'it returns false'. Refute it at one input. -/
def rotateBytesWrong : ChangeSpec := { name := "rotateBytes", fn := fun _ => fun
  | [d1, d2, d3] => { results := [.lit (.bool false)], args := [d1, d2, d3] }
  | _ => none }
def RotateBytesWrongFalsely : Prop := rotateBytesRow.holds Try.pinned (OpenSpec.ofChange rotateBytesWrong)

/-- 'tstatelaw5.RotateUndoes': WHATEVER THE INPUT: true; the input reads as it did. -/
def rotateUndoesSpec : ChangeSpec := { name := "rotateUndoes", fn := fun _ => fun
  | [d1, d2] => { results := [.lit (.bool true)], args := [d1, d2] }
  | _ => none }
def rotateUndoesRow : OpenClaim := { program := "ytecngmfpciechaa", sum := "d471d7987cefb2a5bedf8e66221c3b1850336a587f7b097bb7e4153c238d9005", func := "tstate/tstatelaw5.RotateUndoes", spec := "rotateUndoes", unfollowed := true, recurses := true, apart := false }
def RotateUndoesSaid : Prop := rotateUndoesRow.holds Try.pinned (OpenSpec.ofChange rotateUndoesSpec)

/-- ITS FALSE NEIGHBOUR: 'it returns false'. Refute it at one input. -/
def rotateUndoesWrong : ChangeSpec := { name := "rotateUndoes", fn := fun _ => fun
  | [d1, d2] => { results := [.lit (.bool false)], args := [d1, d2] }
  | _ => none }
def RotateUndoesWrongFalsely : Prop := rotateUndoesRow.holds Try.pinned (OpenSpec.ofChange rotateUndoesWrong)

/-- 'tstatelaw5.RotateWords': WHATEVER THE INPUT: true; the input reads as it did. -/
def rotateWordsSpec : ChangeSpec := { name := "rotateWords", fn := fun _ => fun
  | [d1, d2] => { results := [.lit (.bool true)], args := [d1, d2] }
  | _ => none }
def rotateWordsRow : OpenClaim := { program := "ytecngmfpciechaa", sum := "d471d7987cefb2a5bedf8e66221c3b1850336a587f7b097bb7e4153c238d9005", func := "tstate/tstatelaw5.RotateWords", spec := "rotateWords", unfollowed := true, recurses := true, apart := false }
def RotateWordsSaid : Prop := rotateWordsRow.holds Try.pinned (OpenSpec.ofChange rotateWordsSpec)

/-- ITS FALSE NEIGHBOUR: 'it returns false'. Refute it at one input. -/
def rotateWordsWrong : ChangeSpec := { name := "rotateWords", fn := fun _ => fun
  | [d1, d2] => { results := [.lit (.bool false)], args := [d1, d2] }
  | _ => none }
def RotateWordsWrongFalsely : Prop := rotateWordsRow.holds Try.pinned (OpenSpec.ofChange rotateWordsWrong)

/-- 'tstatelaw5.RotateTurns': WHATEVER THE INPUT: true; the input reads as it did. -/
def rotateTurnsSpec : ChangeSpec := { name := "rotateTurns", fn := fun _ => fun
  | [d1, d2, d3] => { results := [.lit (.bool true)], args := [d1, d2, d3] }
  | _ => none }
def rotateTurnsRow : OpenClaim := { program := "ytecngmfpciechaa", sum := "d471d7987cefb2a5bedf8e66221c3b1850336a587f7b097bb7e4153c238d9005", func := "tstate/tstatelaw5.RotateTurns", spec := "rotateTurns", unfollowed := true, recurses := true, apart := false }
def RotateTurnsSaid : Prop := rotateTurnsRow.holds Try.pinned (OpenSpec.ofChange rotateTurnsSpec)

/-- ITS FALSE NEIGHBOUR: 'it returns false'. Refute it at one input. -/
def rotateTurnsWrong : ChangeSpec := { name := "rotateTurns", fn := fun _ => fun
  | [d1, d2, d3] => { results := [.lit (.bool false)], args := [d1, d2, d3] }
  | _ => none }
def RotateTurnsWrongFalsely : Prop := rotateTurnsRow.holds Try.pinned (OpenSpec.ofChange rotateTurnsWrong)

/-- 'tstatelaw5.RotateHalves': WHATEVER THE INPUT: true; the input reads as it did. -/
def rotateHalvesSpec : ChangeSpec := { name := "rotateHalves", fn := fun _ => fun
  | [d1, d2] => { results := [.lit (.bool true)], args := [d1, d2] }
  | _ => none }
def rotateHalvesRow : OpenClaim := { program := "ytecngmfpciechaa", sum := "d471d7987cefb2a5bedf8e66221c3b1850336a587f7b097bb7e4153c238d9005", func := "tstate/tstatelaw5.RotateHalves", spec := "rotateHalves", unfollowed := true, recurses := true, apart := false }
def RotateHalvesSaid : Prop := rotateHalvesRow.holds Try.pinned (OpenSpec.ofChange rotateHalvesSpec)

/-- ITS FALSE NEIGHBOUR: 'it returns false'. Refute it at one input. -/
def rotateHalvesWrong : ChangeSpec := { name := "rotateHalves", fn := fun _ => fun
  | [d1, d2] => { results := [.lit (.bool false)], args := [d1, d2] }
  | _ => none }
def RotateHalvesWrongFalsely : Prop := rotateHalvesRow.holds Try.pinned (OpenSpec.ofChange rotateHalvesWrong)

/- THE SECOND FORM. 'bulk': how many values and letters a reading holds, each counted each time it is reached (what is shared counts as often as it is met; a slice's spare places count too). A statement '..UptoSaid' is the law's where the arguments, and the package variables that the reading takes, are together of bulk at most 1048576: NARROWER than '..Said'. Prove '..Said' where nothing that the law and all that it calls make is longer than what came in: it says more and counts as full. Else prove '..UptoSaid'. A law counts once. -/
mutual
def uptoBulk {H : Type} : DataW H → Nat
  | .lit (.string bytes) => bytes.length + 1
  | .lit _ => 1
  | .nil => 1
  | .ptr d => uptoBulk d + 1
  | .slice elems spare => uptoBulkAll elems + uptoBulkAll spare + 1
  | .agg parts => uptoBulkAll parts + 1
  | .iface _ d => uptoBulk d + 1
  | .map entries => uptoBulkEntries entries + 1
  | .held _ => 1
def uptoBulkAll {H : Type} : List (DataW H) → Nat
  | [] => 0
  | d :: r => uptoBulk d + uptoBulkAll r
def uptoBulkEntries {H : Type} : List (Lit × DataW H) → Nat
  | [] => 0
  | x :: r => uptoBulkEntry x + uptoBulkEntries r
def uptoBulkEntry {H : Type} : Lit × DataW H → Nat
  | (.string bytes, d) => bytes.length + uptoBulk d + 1
  | (_, d) => uptoBulk d + 1
 end
def uptoSmall : (H : Type) → List (DataW H) → Bool := fun _ ds => decide (uptoBulkAll ds ≤ 1048576)
def OpenSpec.upto (s : _root_.Go.ChangeSpec) : _root_.Go.OpenSpec := { _root_.Go.OpenSpec.ofChange s with cond := some uptoSmall }

/-- 'tstatelaw5.RotateBytes', WHERE WHAT IT READS IS OF BULK AT MOST 1048576: true; the input reads as it did. -/
def rotateBytesUptoRow : OpenClaim := { program := "ytecngmfpciechaa", sum := "d471d7987cefb2a5bedf8e66221c3b1850336a587f7b097bb7e4153c238d9005", func := "tstate/tstatelaw5.RotateBytes", spec := "rotateBytes", unfollowed := true, recurses := true, apart := false, narrowed := true }
def RotateBytesUptoSaid : Prop := rotateBytesUptoRow.holds Try.pinned (OpenSpec.upto rotateBytesSpec)

/-- 'tstatelaw5.RotateUndoes', WHERE WHAT IT READS IS OF BULK AT MOST 1048576: true; the input reads as it did. -/
def rotateUndoesUptoRow : OpenClaim := { program := "ytecngmfpciechaa", sum := "d471d7987cefb2a5bedf8e66221c3b1850336a587f7b097bb7e4153c238d9005", func := "tstate/tstatelaw5.RotateUndoes", spec := "rotateUndoes", unfollowed := true, recurses := true, apart := false, narrowed := true }
def RotateUndoesUptoSaid : Prop := rotateUndoesUptoRow.holds Try.pinned (OpenSpec.upto rotateUndoesSpec)

/-- 'tstatelaw5.RotateWords', WHERE WHAT IT READS IS OF BULK AT MOST 1048576: true; the input reads as it did. -/
def rotateWordsUptoRow : OpenClaim := { program := "ytecngmfpciechaa", sum := "d471d7987cefb2a5bedf8e66221c3b1850336a587f7b097bb7e4153c238d9005", func := "tstate/tstatelaw5.RotateWords", spec := "rotateWords", unfollowed := true, recurses := true, apart := false, narrowed := true }
def RotateWordsUptoSaid : Prop := rotateWordsUptoRow.holds Try.pinned (OpenSpec.upto rotateWordsSpec)

/-- 'tstatelaw5.RotateTurns', WHERE WHAT IT READS IS OF BULK AT MOST 1048576: true; the input reads as it did. -/
def rotateTurnsUptoRow : OpenClaim := { program := "ytecngmfpciechaa", sum := "d471d7987cefb2a5bedf8e66221c3b1850336a587f7b097bb7e4153c238d9005", func := "tstate/tstatelaw5.RotateTurns", spec := "rotateTurns", unfollowed := true, recurses := true, apart := false, narrowed := true }
def RotateTurnsUptoSaid : Prop := rotateTurnsUptoRow.holds Try.pinned (OpenSpec.upto rotateTurnsSpec)

/-- 'tstatelaw5.RotateHalves', WHERE WHAT IT READS IS OF BULK AT MOST 1048576: true; the input reads as it did. -/
def rotateHalvesUptoRow : OpenClaim := { program := "ytecngmfpciechaa", sum := "d471d7987cefb2a5bedf8e66221c3b1850336a587f7b097bb7e4153c238d9005", func := "tstate/tstatelaw5.RotateHalves", spec := "rotateHalves", unfollowed := true, recurses := true, apart := false, narrowed := true }
def RotateHalvesUptoSaid : Prop := rotateHalvesUptoRow.holds Try.pinned (OpenSpec.upto rotateHalvesSpec)

end Rows
end Go.Proofs.Ytecngmfpciechaa
