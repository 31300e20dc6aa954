/-
  No cell of these rows narrows 'for every input' (looked for: loops, veiled, ifaces, maps, wideKeys, modest, calm, conditions, laid).
  DERIVED. THE GIVEN ROWS OF THIS SEAT. 7 by the template 'for every input the law returns true; each argument reads behind the call as it read before'; 0 by the template 'total and deterministic' (their statements: YtndciaoiinhdnaaTotals.lean).
  GIVEN WITH THE SEED: the statements are not yours to turn. If you find one false, say at which input.
  Laid BY PROGRAM, IN A SANDBOX (cutbox-rows.mjs): the forced cells as the released guide's own fill.sh prints them over the translation 1bdddb2eccc07402… (all of the seat's roots in one cut). By AI agents, Wed Nov 11 2026. No macro, syntax, notation, axiom, sorry.
-/
import Derived.Test.YtndciaoiinhdnaaChecked
import GoSem.Claim
import GoSem.ClaimJoined
import GoSem.ClaimMapViews
import Derived.JoinedTies
import Derived.KernelRfl
namespace Go.Proofs.Ytndciaoiinhdnaa
/- THE CELL 'sum', in the pinned program and in every row, IS THE sha256 OF THE DUMP (.gsa) THAT YtndciaoiinhdnaaProg.lean LOADS. Nothing in Lean hashes anything: it is a label: what it is worth is what the hold of that sum in a sandbox is worth. -/
noncomputable def Try.pinned : Pinned := { name := "ytndciaoiinhdnaa", sum := "1bdddb2eccc07402b1bcec01ece909faea50eb44c4b24cde07375d9e8a22967d", checked := Try.checked }
namespace Rows
def none {H : Type} : Left H := { results := [], args := [] }

/-- 'tstatelaw22.PicWrites': WHATEVER THE INPUT: true; the input reads as it did. -/
def picWritesSpec : ChangeSpec := { name := "picWrites", fn := fun _ => fun
  | [d1, d2, d3, d4] => { results := [.lit (.bool true)], args := [d1, d2, d3, d4] }
  | _ => none }
def picWritesRow : OpenClaim := { program := "ytndciaoiinhdnaa", sum := "1bdddb2eccc07402b1bcec01ece909faea50eb44c4b24cde07375d9e8a22967d", func := "tstate/tstatelaw22.PicWrites", spec := "picWrites", apart := false }
def PicWritesSaid : Prop := picWritesRow.holds Try.pinned (OpenSpec.ofChange picWritesSpec)

/-- ITS FALSE NEIGHBOUR: 'it returns false'. Refute it at one input. -/
def picWritesWrong : ChangeSpec := { name := "picWrites", fn := fun _ => fun
  | [d1, d2, d3, d4] => { results := [.lit (.bool false)], args := [d1, d2, d3, d4] }
  | _ => none }
def PicWritesWrongFalsely : Prop := picWritesRow.holds Try.pinned (OpenSpec.ofChange picWritesWrong)

/-- 'tstatelaw22.PicCalls': WHATEVER THE INPUT: true; the input reads as it did. -/
def picCallsSpec : ChangeSpec := { name := "picCalls", fn := fun _ => fun
  | [d1, d2, d3] => { results := [.lit (.bool true)], args := [d1, d2, d3] }
  | _ => none }
def picCallsRow : OpenClaim := { program := "ytndciaoiinhdnaa", sum := "1bdddb2eccc07402b1bcec01ece909faea50eb44c4b24cde07375d9e8a22967d", func := "tstate/tstatelaw22.PicCalls", spec := "picCalls", apart := false }
def PicCallsSaid : Prop := picCallsRow.holds Try.pinned (OpenSpec.ofChange picCallsSpec)

/-- ITS FALSE NEIGHBOUR: 'it returns false'. Refute it at one input. -/
def picCallsWrong : ChangeSpec := { name := "picCalls", fn := fun _ => fun
  | [d1, d2, d3] => { results := [.lit (.bool false)], args := [d1, d2, d3] }
  | _ => none }
def PicCallsWrongFalsely : Prop := picCallsRow.holds Try.pinned (OpenSpec.ofChange picCallsWrong)

/-- 'tstatelaw22.PicInitializes': WHATEVER THE INPUT: true; the input reads as it did. -/
def picInitializesSpec : ChangeSpec := { name := "picInitializes", fn := fun _ => fun
  | [d1, d2, d3, d4, d5] => { results := [.lit (.bool true)], args := [d1, d2, d3, d4, d5] }
  | _ => none }
def picInitializesRow : OpenClaim := { program := "ytndciaoiinhdnaa", sum := "1bdddb2eccc07402b1bcec01ece909faea50eb44c4b24cde07375d9e8a22967d", func := "tstate/tstatelaw22.PicInitializes", spec := "picInitializes", apart := false }
def PicInitializesSaid : Prop := picInitializesRow.holds Try.pinned (OpenSpec.ofChange picInitializesSpec)

/-- ITS FALSE NEIGHBOUR: 'it returns false'. Refute it at one input. -/
def picInitializesWrong : ChangeSpec := { name := "picInitializes", fn := fun _ => fun
  | [d1, d2, d3, d4, d5] => { results := [.lit (.bool false)], args := [d1, d2, d3, d4, d5] }
  | _ => none }
def PicInitializesWrongFalsely : Prop := picInitializesRow.holds Try.pinned (OpenSpec.ofChange picInitializesWrong)

/-- 'tstatelaw22.PicRaises': WHATEVER THE INPUT: true; the input reads as it did. -/
def picRaisesSpec : ChangeSpec := { name := "picRaises", fn := fun _ => fun
  | [d1, d2, d3] => { results := [.lit (.bool true)], args := [d1, d2, d3] }
  | _ => none }
def picRaisesRow : OpenClaim := { program := "ytndciaoiinhdnaa", sum := "1bdddb2eccc07402b1bcec01ece909faea50eb44c4b24cde07375d9e8a22967d", func := "tstate/tstatelaw22.PicRaises", spec := "picRaises", apart := false }
def PicRaisesSaid : Prop := picRaisesRow.holds Try.pinned (OpenSpec.ofChange picRaisesSpec)

/-- ITS FALSE NEIGHBOUR: 'it returns false'. Refute it at one input. -/
def picRaisesWrong : ChangeSpec := { name := "picRaises", fn := fun _ => fun
  | [d1, d2, d3] => { results := [.lit (.bool false)], args := [d1, d2, d3] }
  | _ => none }
def PicRaisesWrongFalsely : Prop := picRaisesRow.holds Try.pinned (OpenSpec.ofChange picRaisesWrong)

/-- 'tstatelaw22.PicBlocks': WHATEVER THE INPUT: true; the input reads as it did. -/
def picBlocksSpec : ChangeSpec := { name := "picBlocks", fn := fun _ => fun
  | [d1, d2] => { results := [.lit (.bool true)], args := [d1, d2] }
  | _ => none }
def picBlocksRow : OpenClaim := { program := "ytndciaoiinhdnaa", sum := "1bdddb2eccc07402b1bcec01ece909faea50eb44c4b24cde07375d9e8a22967d", func := "tstate/tstatelaw22.PicBlocks", spec := "picBlocks", apart := false }
def PicBlocksSaid : Prop := picBlocksRow.holds Try.pinned (OpenSpec.ofChange picBlocksSpec)

/-- ITS FALSE NEIGHBOUR: 'it returns false'. Refute it at one input. -/
def picBlocksWrong : ChangeSpec := { name := "picBlocks", fn := fun _ => fun
  | [d1, d2] => { results := [.lit (.bool false)], args := [d1, d2] }
  | _ => none }
def PicBlocksWrongFalsely : Prop := picBlocksRow.holds Try.pinned (OpenSpec.ofChange picBlocksWrong)

/-- 'tstatelaw22.PicReads': WHATEVER THE INPUT: true; the input reads as it did. -/
def picReadsSpec : ChangeSpec := { name := "picReads", fn := fun _ => fun
  | [d1, d2, d3] => { results := [.lit (.bool true)], args := [d1, d2, d3] }
  | _ => none }
def picReadsRow : OpenClaim := { program := "ytndciaoiinhdnaa", sum := "1bdddb2eccc07402b1bcec01ece909faea50eb44c4b24cde07375d9e8a22967d", func := "tstate/tstatelaw22.PicReads", spec := "picReads", apart := false }
def PicReadsSaid : Prop := picReadsRow.holds Try.pinned (OpenSpec.ofChange picReadsSpec)

/-- ITS FALSE NEIGHBOUR: 'it returns false'. Refute it at one input. -/
def picReadsWrong : ChangeSpec := { name := "picReads", fn := fun _ => fun
  | [d1, d2, d3] => { results := [.lit (.bool false)], args := [d1, d2, d3] }
  | _ => none }
def PicReadsWrongFalsely : Prop := picReadsRow.holds Try.pinned (OpenSpec.ofChange picReadsWrong)

/-- 'tstatelaw22.PicPlays': WHATEVER THE INPUT: true; the input reads as it did. -/
def picPlaysSpec : ChangeSpec := { name := "picPlays", fn := fun _ => fun
  | [d] => { results := [.lit (.bool true)], args := [d] }
  | _ => none }
def picPlaysRow : OpenClaim := { program := "ytndciaoiinhdnaa", sum := "1bdddb2eccc07402b1bcec01ece909faea50eb44c4b24cde07375d9e8a22967d", func := "tstate/tstatelaw22.PicPlays", spec := "picPlays", apart := false }
def PicPlaysSaid : Prop := picPlaysRow.holds Try.pinned (OpenSpec.ofChange picPlaysSpec)

/-- ITS FALSE NEIGHBOUR: 'it returns false'. Refute it at one input. -/
def picPlaysWrong : ChangeSpec := { name := "picPlays", fn := fun _ => fun
  | [d] => { results := [.lit (.bool false)], args := [d] }
  | _ => none }
def PicPlaysWrongFalsely : Prop := picPlaysRow.holds Try.pinned (OpenSpec.ofChange picPlaysWrong)

/- THE SECOND FORM. 'bulk': how many values and letters a reading holds, each counted each time it is reached (what is shared counts as often as it is met; a slice's spare places count too). A statement '..UptoSaid' is the law's where the arguments, and the package variables that the reading takes, are together of bulk at most 1048576: NARROWER than '..Said'. Prove '..Said' where nothing that the law and all that it calls make is longer than what came in: it says more and counts as full. Else prove '..UptoSaid'. A law counts once. -/
mutual
def uptoBulk {H : Type} : DataW H → Nat
  | .lit (.string bytes) => bytes.length + 1
  | .lit _ => 1
  | .nil => 1
  | .ptr d => uptoBulk d + 1
  | .slice elems spare => uptoBulkAll elems + uptoBulkAll spare + 1
  | .agg parts => uptoBulkAll parts + 1
  | .iface _ d => uptoBulk d + 1
  | .map entries => uptoBulkEntries entries + 1
  | .held _ => 1
def uptoBulkAll {H : Type} : List (DataW H) → Nat
  | [] => 0
  | d :: r => uptoBulk d + uptoBulkAll r
def uptoBulkEntries {H : Type} : List (Lit × DataW H) → Nat
  | [] => 0
  | x :: r => uptoBulkEntry x + uptoBulkEntries r
def uptoBulkEntry {H : Type} : Lit × DataW H → Nat
  | (.string bytes, d) => bytes.length + uptoBulk d + 1
  | (_, d) => uptoBulk d + 1
 end
def uptoSmall : (H : Type) → List (DataW H) → Bool := fun _ ds => decide (uptoBulkAll ds ≤ 1048576)
def OpenSpec.upto (s : _root_.Go.ChangeSpec) : _root_.Go.OpenSpec := { _root_.Go.OpenSpec.ofChange s with cond := some uptoSmall }

/-- 'tstatelaw22.PicWrites', WHERE WHAT IT READS IS OF BULK AT MOST 1048576: true; the input reads as it did. -/
def picWritesUptoRow : OpenClaim := { program := "ytndciaoiinhdnaa", sum := "1bdddb2eccc07402b1bcec01ece909faea50eb44c4b24cde07375d9e8a22967d", func := "tstate/tstatelaw22.PicWrites", spec := "picWrites", apart := false, narrowed := true }
def PicWritesUptoSaid : Prop := picWritesUptoRow.holds Try.pinned (OpenSpec.upto picWritesSpec)

/-- 'tstatelaw22.PicCalls', WHERE WHAT IT READS IS OF BULK AT MOST 1048576: true; the input reads as it did. -/
def picCallsUptoRow : OpenClaim := { program := "ytndciaoiinhdnaa", sum := "1bdddb2eccc07402b1bcec01ece909faea50eb44c4b24cde07375d9e8a22967d", func := "tstate/tstatelaw22.PicCalls", spec := "picCalls", apart := false, narrowed := true }
def PicCallsUptoSaid : Prop := picCallsUptoRow.holds Try.pinned (OpenSpec.upto picCallsSpec)

/-- 'tstatelaw22.PicInitializes', WHERE WHAT IT READS IS OF BULK AT MOST 1048576: true; the input reads as it did. -/
def picInitializesUptoRow : OpenClaim := { program := "ytndciaoiinhdnaa", sum := "1bdddb2eccc07402b1bcec01ece909faea50eb44c4b24cde07375d9e8a22967d", func := "tstate/tstatelaw22.PicInitializes", spec := "picInitializes", apart := false, narrowed := true }
def PicInitializesUptoSaid : Prop := picInitializesUptoRow.holds Try.pinned (OpenSpec.upto picInitializesSpec)

/-- 'tstatelaw22.PicRaises', WHERE WHAT IT READS IS OF BULK AT MOST 1048576: true; the input reads as it did. -/
def picRaisesUptoRow : OpenClaim := { program := "ytndciaoiinhdnaa", sum := "1bdddb2eccc07402b1bcec01ece909faea50eb44c4b24cde07375d9e8a22967d", func := "tstate/tstatelaw22.PicRaises", spec := "picRaises", apart := false, narrowed := true }
def PicRaisesUptoSaid : Prop := picRaisesUptoRow.holds Try.pinned (OpenSpec.upto picRaisesSpec)

/-- 'tstatelaw22.PicBlocks', WHERE WHAT IT READS IS OF BULK AT MOST 1048576: true; the input reads as it did. -/
def picBlocksUptoRow : OpenClaim := { program := "ytndciaoiinhdnaa", sum := "1bdddb2eccc07402b1bcec01ece909faea50eb44c4b24cde07375d9e8a22967d", func := "tstate/tstatelaw22.PicBlocks", spec := "picBlocks", apart := false, narrowed := true }
def PicBlocksUptoSaid : Prop := picBlocksUptoRow.holds Try.pinned (OpenSpec.upto picBlocksSpec)

/-- 'tstatelaw22.PicReads', WHERE WHAT IT READS IS OF BULK AT MOST 1048576: true; the input reads as it did. -/
def picReadsUptoRow : OpenClaim := { program := "ytndciaoiinhdnaa", sum := "1bdddb2eccc07402b1bcec01ece909faea50eb44c4b24cde07375d9e8a22967d", func := "tstate/tstatelaw22.PicReads", spec := "picReads", apart := false, narrowed := true }
def PicReadsUptoSaid : Prop := picReadsUptoRow.holds Try.pinned (OpenSpec.upto picReadsSpec)

/-- 'tstatelaw22.PicPlays', WHERE WHAT IT READS IS OF BULK AT MOST 1048576: true; the input reads as it did. -/
def picPlaysUptoRow : OpenClaim := { program := "ytndciaoiinhdnaa", sum := "1bdddb2eccc07402b1bcec01ece909faea50eb44c4b24cde07375d9e8a22967d", func := "tstate/tstatelaw22.PicPlays", spec := "picPlays", apart := false, narrowed := true }
def PicPlaysUptoSaid : Prop := picPlaysUptoRow.holds Try.pinned (OpenSpec.upto picPlaysSpec)

end Rows
end Go.Proofs.Ytndciaoiinhdnaa
