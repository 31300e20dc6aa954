/-
  No cell of these rows narrows 'for every input' (looked for: loops, veiled, ifaces, maps, wideKeys, modest, calm, conditions, laid).
  DERIVED. THE GIVEN ROWS OF THIS SEAT. 4 by the template 'for every input the law returns true; each argument reads behind the call as it read before'; 0 by the template 'total and deterministic' (their statements: YtahmgbkdjonmdaaTotals.lean).
  GIVEN WITH THE SEED: the statements are not yours to turn. If you find one false, say at which input.
  Laid BY PROGRAM, IN A SANDBOX (cutbox-rows.mjs): the forced cells as the released guide's own fill.sh prints them over the translation 630040e017b26022… (all of the seat's roots in one cut). By AI agents, Wed Nov 11 2026. No macro, syntax, notation, axiom, sorry.
-/
import Derived.Test.YtahmgbkdjonmdaaChecked
import GoSem.Claim
import GoSem.ClaimJoined
import GoSem.ClaimMapViews
import Derived.JoinedTies
import Derived.KernelRfl
namespace Go.Proofs.Ytahmgbkdjonmdaa
/- THE CELL 'sum', in the pinned program and in every row, IS THE sha256 OF THE DUMP (.gsa) THAT YtahmgbkdjonmdaaProg.lean LOADS. Nothing in Lean hashes anything: it is a label: what it is worth is what the hold of that sum in a sandbox is worth. -/
noncomputable def Try.pinned : Pinned := { name := "ytahmgbkdjonmdaa", sum := "630040e017b2602255ce3e1c43905fe531eb16bfc3331aab6c6430b8827abe10", checked := Try.checked }
namespace Rows
def none {H : Type} : Left H := { results := [], args := [] }

/-- 'tstatelaw14.SerialReads': WHATEVER THE INPUT: true; the input reads as it did. -/
def serialReadsSpec : ChangeSpec := { name := "serialReads", fn := fun _ => fun
  | [d1, d2, d3] => { results := [.lit (.bool true)], args := [d1, d2, d3] }
  | _ => none }
def serialReadsRow : OpenClaim := { program := "ytahmgbkdjonmdaa", sum := "630040e017b2602255ce3e1c43905fe531eb16bfc3331aab6c6430b8827abe10", func := "tstate/tstatelaw14.SerialReads", spec := "serialReads", apart := false }
def SerialReadsSaid : Prop := serialReadsRow.holds Try.pinned (OpenSpec.ofChange serialReadsSpec)

/-- ITS FALSE NEIGHBOUR: 'it returns false'. Refute it at one input. -/
def serialReadsWrong : ChangeSpec := { name := "serialReads", fn := fun _ => fun
  | [d1, d2, d3] => { results := [.lit (.bool false)], args := [d1, d2, d3] }
  | _ => none }
def SerialReadsWrongFalsely : Prop := serialReadsRow.holds Try.pinned (OpenSpec.ofChange serialReadsWrong)

/-- 'tstatelaw14.SerialWrites': WHATEVER THE INPUT: true; the input reads as it did. -/
def serialWritesSpec : ChangeSpec := { name := "serialWrites", fn := fun _ => fun
  | [d1, d2] => { results := [.lit (.bool true)], args := [d1, d2] }
  | _ => none }
def serialWritesRow : OpenClaim := { program := "ytahmgbkdjonmdaa", sum := "630040e017b2602255ce3e1c43905fe531eb16bfc3331aab6c6430b8827abe10", func := "tstate/tstatelaw14.SerialWrites", spec := "serialWrites", apart := false }
def SerialWritesSaid : Prop := serialWritesRow.holds Try.pinned (OpenSpec.ofChange serialWritesSpec)

/-- ITS FALSE NEIGHBOUR: 'it returns false'. Refute it at one input. -/
def serialWritesWrong : ChangeSpec := { name := "serialWrites", fn := fun _ => fun
  | [d1, d2] => { results := [.lit (.bool false)], args := [d1, d2] }
  | _ => none }
def SerialWritesWrongFalsely : Prop := serialWritesRow.holds Try.pinned (OpenSpec.ofChange serialWritesWrong)

/-- 'tstatelaw14.SerialMasks': WHATEVER THE INPUT: true; the input reads as it did. -/
def serialMasksSpec : ChangeSpec := { name := "serialMasks", fn := fun _ => fun
  | [d1, d2, d3] => { results := [.lit (.bool true)], args := [d1, d2, d3] }
  | _ => none }
def serialMasksRow : OpenClaim := { program := "ytahmgbkdjonmdaa", sum := "630040e017b2602255ce3e1c43905fe531eb16bfc3331aab6c6430b8827abe10", func := "tstate/tstatelaw14.SerialMasks", spec := "serialMasks", apart := false }
def SerialMasksSaid : Prop := serialMasksRow.holds Try.pinned (OpenSpec.ofChange serialMasksSpec)

/-- ITS FALSE NEIGHBOUR: 'it returns false'. Refute it at one input. -/
def serialMasksWrong : ChangeSpec := { name := "serialMasks", fn := fun _ => fun
  | [d1, d2, d3] => { results := [.lit (.bool false)], args := [d1, d2, d3] }
  | _ => none }
def SerialMasksWrongFalsely : Prop := serialMasksRow.holds Try.pinned (OpenSpec.ofChange serialMasksWrong)

/-- 'tstatelaw14.SerialTrap': WHATEVER THE INPUT: true; the input reads as it did. -/
def serialTrapSpec : ChangeSpec := { name := "serialTrap", fn := fun _ => fun
  | [d1, d2] => { results := [.lit (.bool true)], args := [d1, d2] }
  | _ => none }
def serialTrapRow : OpenClaim := { program := "ytahmgbkdjonmdaa", sum := "630040e017b2602255ce3e1c43905fe531eb16bfc3331aab6c6430b8827abe10", func := "tstate/tstatelaw14.SerialTrap", spec := "serialTrap", apart := false }
def SerialTrapSaid : Prop := serialTrapRow.holds Try.pinned (OpenSpec.ofChange serialTrapSpec)

/-- ITS FALSE NEIGHBOUR: 'it returns false'. Refute it at one input. -/
def serialTrapWrong : ChangeSpec := { name := "serialTrap", fn := fun _ => fun
  | [d1, d2] => { results := [.lit (.bool false)], args := [d1, d2] }
  | _ => none }
def SerialTrapWrongFalsely : Prop := serialTrapRow.holds Try.pinned (OpenSpec.ofChange serialTrapWrong)

/- THE SECOND FORM. 'bulk': how many values and letters a reading holds, each counted each time it is reached (what is shared counts as often as it is met; a slice's spare places count too). A statement '..UptoSaid' is the law's where the arguments, and the package variables that the reading takes, are together of bulk at most 1048576: NARROWER than '..Said'. Prove '..Said' where nothing that the law and all that it calls make is longer than what came in: it says more and counts as full. Else prove '..UptoSaid'. A law counts once. -/
mutual
def uptoBulk {H : Type} : DataW H → Nat
  | .lit (.string bytes) => bytes.length + 1
  | .lit _ => 1
  | .nil => 1
  | .ptr d => uptoBulk d + 1
  | .slice elems spare => uptoBulkAll elems + uptoBulkAll spare + 1
  | .agg parts => uptoBulkAll parts + 1
  | .iface _ d => uptoBulk d + 1
  | .map entries => uptoBulkEntries entries + 1
  | .held _ => 1
def uptoBulkAll {H : Type} : List (DataW H) → Nat
  | [] => 0
  | d :: r => uptoBulk d + uptoBulkAll r
def uptoBulkEntries {H : Type} : List (Lit × DataW H) → Nat
  | [] => 0
  | x :: r => uptoBulkEntry x + uptoBulkEntries r
def uptoBulkEntry {H : Type} : Lit × DataW H → Nat
  | (.string bytes, d) => bytes.length + uptoBulk d + 1
  | (_, d) => uptoBulk d + 1
 end
def uptoSmall : (H : Type) → List (DataW H) → Bool := fun _ ds => decide (uptoBulkAll ds ≤ 1048576)
def OpenSpec.upto (s : _root_.Go.ChangeSpec) : _root_.Go.OpenSpec := { _root_.Go.OpenSpec.ofChange s with cond := some uptoSmall }

/-- 'tstatelaw14.SerialReads', WHERE WHAT IT READS IS OF BULK AT MOST 1048576: true; the input reads as it did. -/
def serialReadsUptoRow : OpenClaim := { program := "ytahmgbkdjonmdaa", sum := "630040e017b2602255ce3e1c43905fe531eb16bfc3331aab6c6430b8827abe10", func := "tstate/tstatelaw14.SerialReads", spec := "serialReads", apart := false, narrowed := true }
def SerialReadsUptoSaid : Prop := serialReadsUptoRow.holds Try.pinned (OpenSpec.upto serialReadsSpec)

/-- 'tstatelaw14.SerialWrites', WHERE WHAT IT READS IS OF BULK AT MOST 1048576: true; the input reads as it did. -/
def serialWritesUptoRow : OpenClaim := { program := "ytahmgbkdjonmdaa", sum := "630040e017b2602255ce3e1c43905fe531eb16bfc3331aab6c6430b8827abe10", func := "tstate/tstatelaw14.SerialWrites", spec := "serialWrites", apart := false, narrowed := true }
def SerialWritesUptoSaid : Prop := serialWritesUptoRow.holds Try.pinned (OpenSpec.upto serialWritesSpec)

/-- 'tstatelaw14.SerialMasks', WHERE WHAT IT READS IS OF BULK AT MOST 1048576: true; the input reads as it did. -/
def serialMasksUptoRow : OpenClaim := { program := "ytahmgbkdjonmdaa", sum := "630040e017b2602255ce3e1c43905fe531eb16bfc3331aab6c6430b8827abe10", func := "tstate/tstatelaw14.SerialMasks", spec := "serialMasks", apart := false, narrowed := true }
def SerialMasksUptoSaid : Prop := serialMasksUptoRow.holds Try.pinned (OpenSpec.upto serialMasksSpec)

/-- 'tstatelaw14.SerialTrap', WHERE WHAT IT READS IS OF BULK AT MOST 1048576: true; the input reads as it did. -/
def serialTrapUptoRow : OpenClaim := { program := "ytahmgbkdjonmdaa", sum := "630040e017b2602255ce3e1c43905fe531eb16bfc3331aab6c6430b8827abe10", func := "tstate/tstatelaw14.SerialTrap", spec := "serialTrap", apart := false, narrowed := true }
def SerialTrapUptoSaid : Prop := serialTrapUptoRow.holds Try.pinned (OpenSpec.upto serialTrapSpec)

end Rows
end Go.Proofs.Ytahmgbkdjonmdaa
