/-
  No cell of these rows narrows 'for every input' (looked for: loops, veiled, ifaces, maps, wideKeys, modest, calm, conditions, laid).
  DERIVED. THE GIVEN ROWS OF THIS SEAT. 6 by the template 'for every input the law returns true; each argument reads behind the call as it read before'; 0 by the template 'total and deterministic' (their statements: YtdmpagiankblpaaTotals.lean).
  GIVEN WITH THE SEED: the statements are not yours to turn. If you find one false, say at which input.
  Laid BY PROGRAM, IN A SANDBOX (cutbox-rows.mjs): the forced cells as the released guide's own fill.sh prints them over the translation bdd8293ade672810… (all of the seat's roots in one cut). By AI agents, Wed Nov 11 2026. No macro, syntax, notation, axiom, sorry.
-/
import Derived.Test.YtdmpagiankblpaaChecked
import GoSem.Claim
import GoSem.ClaimJoined
import GoSem.ClaimMapViews
import Derived.JoinedTies
import Derived.KernelRfl
namespace Go.Proofs.Ytdmpagiankblpaa
/- THE CELL 'sum', in the pinned program and in every row, IS THE sha256 OF THE DUMP (.gsa) THAT YtdmpagiankblpaaProg.lean LOADS. Nothing in Lean hashes anything: it is a label: what it is worth is what the hold of that sum in a sandbox is worth. -/
noncomputable def Try.pinned : Pinned := { name := "ytdmpagiankblpaa", sum := "bdd8293ade672810b994d036c4043257c9c526e72cf9692058d46bd5fddb0d8e", checked := Try.checked }
namespace Rows
def none {H : Type} : Left H := { results := [], args := [] }

/-- 'tstatelaw15.IrqLatches': WHATEVER THE INPUT: true; the input reads as it did. -/
def irqLatchesSpec : ChangeSpec := { name := "irqLatches", fn := fun _ => fun
  | [d1, d2, d3] => { results := [.lit (.bool true)], args := [d1, d2, d3] }
  | _ => none }
def irqLatchesRow : OpenClaim := { program := "ytdmpagiankblpaa", sum := "bdd8293ade672810b994d036c4043257c9c526e72cf9692058d46bd5fddb0d8e", func := "tstate/tstatelaw15.IrqLatches", spec := "irqLatches", apart := false }
def IrqLatchesSaid : Prop := irqLatchesRow.holds Try.pinned (OpenSpec.ofChange irqLatchesSpec)

/-- ITS FALSE NEIGHBOUR: 'it returns false'. Refute it at one input. -/
def irqLatchesWrong : ChangeSpec := { name := "irqLatches", fn := fun _ => fun
  | [d1, d2, d3] => { results := [.lit (.bool false)], args := [d1, d2, d3] }
  | _ => none }
def IrqLatchesWrongFalsely : Prop := irqLatchesRow.holds Try.pinned (OpenSpec.ofChange irqLatchesWrong)

/-- 'tstatelaw15.IrqPicks': WHATEVER THE INPUT: true; the input reads as it did. -/
def irqPicksSpec : ChangeSpec := { name := "irqPicks", fn := fun _ => fun
  | [d1, d2, d3] => { results := [.lit (.bool true)], args := [d1, d2, d3] }
  | _ => none }
def irqPicksRow : OpenClaim := { program := "ytdmpagiankblpaa", sum := "bdd8293ade672810b994d036c4043257c9c526e72cf9692058d46bd5fddb0d8e", func := "tstate/tstatelaw15.IrqPicks", spec := "irqPicks", apart := false }
def IrqPicksSaid : Prop := irqPicksRow.holds Try.pinned (OpenSpec.ofChange irqPicksSpec)

/-- ITS FALSE NEIGHBOUR: 'it returns false'. Refute it at one input. -/
def irqPicksWrong : ChangeSpec := { name := "irqPicks", fn := fun _ => fun
  | [d1, d2, d3] => { results := [.lit (.bool false)], args := [d1, d2, d3] }
  | _ => none }
def IrqPicksWrongFalsely : Prop := irqPicksRow.holds Try.pinned (OpenSpec.ofChange irqPicksWrong)

/-- 'tstatelaw15.IrqPriority': WHATEVER THE INPUT: true; the input reads as it did. -/
def irqPrioritySpec : ChangeSpec := { name := "irqPriority", fn := fun _ => fun
  | [d] => { results := [.lit (.bool true)], args := [d] }
  | _ => none }
def irqPriorityRow : OpenClaim := { program := "ytdmpagiankblpaa", sum := "bdd8293ade672810b994d036c4043257c9c526e72cf9692058d46bd5fddb0d8e", func := "tstate/tstatelaw15.IrqPriority", spec := "irqPriority", apart := false }
def IrqPrioritySaid : Prop := irqPriorityRow.holds Try.pinned (OpenSpec.ofChange irqPrioritySpec)

/-- ITS FALSE NEIGHBOUR: 'it returns false'. Refute it at one input. -/
def irqPriorityWrong : ChangeSpec := { name := "irqPriority", fn := fun _ => fun
  | [d] => { results := [.lit (.bool false)], args := [d] }
  | _ => none }
def IrqPriorityWrongFalsely : Prop := irqPriorityRow.holds Try.pinned (OpenSpec.ofChange irqPriorityWrong)

/-- 'tstatelaw15.IrqDisables': WHATEVER THE INPUT: true; the input reads as it did. -/
def irqDisablesSpec : ChangeSpec := { name := "irqDisables", fn := fun _ => fun
  | [d1, d2] => { results := [.lit (.bool true)], args := [d1, d2] }
  | _ => none }
def irqDisablesRow : OpenClaim := { program := "ytdmpagiankblpaa", sum := "bdd8293ade672810b994d036c4043257c9c526e72cf9692058d46bd5fddb0d8e", func := "tstate/tstatelaw15.IrqDisables", spec := "irqDisables", apart := false }
def IrqDisablesSaid : Prop := irqDisablesRow.holds Try.pinned (OpenSpec.ofChange irqDisablesSpec)

/-- ITS FALSE NEIGHBOUR: 'it returns false'. Refute it at one input. -/
def irqDisablesWrong : ChangeSpec := { name := "irqDisables", fn := fun _ => fun
  | [d1, d2] => { results := [.lit (.bool false)], args := [d1, d2] }
  | _ => none }
def IrqDisablesWrongFalsely : Prop := irqDisablesRow.holds Try.pinned (OpenSpec.ofChange irqDisablesWrong)

/-- 'tstatelaw15.IrqEdges': WHATEVER THE INPUT: true; the input reads as it did. -/
def irqEdgesSpec : ChangeSpec := { name := "irqEdges", fn := fun _ => fun
  | [d] => { results := [.lit (.bool true)], args := [d] }
  | _ => none }
def irqEdgesRow : OpenClaim := { program := "ytdmpagiankblpaa", sum := "bdd8293ade672810b994d036c4043257c9c526e72cf9692058d46bd5fddb0d8e", func := "tstate/tstatelaw15.IrqEdges", spec := "irqEdges", apart := false }
def IrqEdgesSaid : Prop := irqEdgesRow.holds Try.pinned (OpenSpec.ofChange irqEdgesSpec)

/-- ITS FALSE NEIGHBOUR: 'it returns false'. Refute it at one input. -/
def irqEdgesWrong : ChangeSpec := { name := "irqEdges", fn := fun _ => fun
  | [d] => { results := [.lit (.bool false)], args := [d] }
  | _ => none }
def IrqEdgesWrongFalsely : Prop := irqEdgesRow.holds Try.pinned (OpenSpec.ofChange irqEdgesWrong)

/-- 'tstatelaw15.IrqAccepts': WHATEVER THE INPUT: true; the input reads as it did. -/
def irqAcceptsSpec : ChangeSpec := { name := "irqAccepts", fn := fun _ => fun
  | [d1, d2, d3] => { results := [.lit (.bool true)], args := [d1, d2, d3] }
  | _ => none }
def irqAcceptsRow : OpenClaim := { program := "ytdmpagiankblpaa", sum := "bdd8293ade672810b994d036c4043257c9c526e72cf9692058d46bd5fddb0d8e", func := "tstate/tstatelaw15.IrqAccepts", spec := "irqAccepts", apart := false }
def IrqAcceptsSaid : Prop := irqAcceptsRow.holds Try.pinned (OpenSpec.ofChange irqAcceptsSpec)

/-- ITS FALSE NEIGHBOUR: 'it returns false'. Refute it at one input. -/
def irqAcceptsWrong : ChangeSpec := { name := "irqAccepts", fn := fun _ => fun
  | [d1, d2, d3] => { results := [.lit (.bool false)], args := [d1, d2, d3] }
  | _ => none }
def IrqAcceptsWrongFalsely : Prop := irqAcceptsRow.holds Try.pinned (OpenSpec.ofChange irqAcceptsWrong)

/- THE SECOND FORM. 'bulk': how many values and letters a reading holds, each counted each time it is reached (what is shared counts as often as it is met; a slice's spare places count too). A statement '..UptoSaid' is the law's where the arguments, and the package variables that the reading takes, are together of bulk at most 1048576: NARROWER than '..Said'. Prove '..Said' where nothing that the law and all that it calls make is longer than what came in: it says more and counts as full. Else prove '..UptoSaid'. A law counts once. -/
mutual
def uptoBulk {H : Type} : DataW H → Nat
  | .lit (.string bytes) => bytes.length + 1
  | .lit _ => 1
  | .nil => 1
  | .ptr d => uptoBulk d + 1
  | .slice elems spare => uptoBulkAll elems + uptoBulkAll spare + 1
  | .agg parts => uptoBulkAll parts + 1
  | .iface _ d => uptoBulk d + 1
  | .map entries => uptoBulkEntries entries + 1
  | .held _ => 1
def uptoBulkAll {H : Type} : List (DataW H) → Nat
  | [] => 0
  | d :: r => uptoBulk d + uptoBulkAll r
def uptoBulkEntries {H : Type} : List (Lit × DataW H) → Nat
  | [] => 0
  | x :: r => uptoBulkEntry x + uptoBulkEntries r
def uptoBulkEntry {H : Type} : Lit × DataW H → Nat
  | (.string bytes, d) => bytes.length + uptoBulk d + 1
  | (_, d) => uptoBulk d + 1
 end
def uptoSmall : (H : Type) → List (DataW H) → Bool := fun _ ds => decide (uptoBulkAll ds ≤ 1048576)
def OpenSpec.upto (s : _root_.Go.ChangeSpec) : _root_.Go.OpenSpec := { _root_.Go.OpenSpec.ofChange s with cond := some uptoSmall }

/-- 'tstatelaw15.IrqLatches', WHERE WHAT IT READS IS OF BULK AT MOST 1048576: true; the input reads as it did. -/
def irqLatchesUptoRow : OpenClaim := { program := "ytdmpagiankblpaa", sum := "bdd8293ade672810b994d036c4043257c9c526e72cf9692058d46bd5fddb0d8e", func := "tstate/tstatelaw15.IrqLatches", spec := "irqLatches", apart := false, narrowed := true }
def IrqLatchesUptoSaid : Prop := irqLatchesUptoRow.holds Try.pinned (OpenSpec.upto irqLatchesSpec)

/-- 'tstatelaw15.IrqPicks', WHERE WHAT IT READS IS OF BULK AT MOST 1048576: true; the input reads as it did. -/
def irqPicksUptoRow : OpenClaim := { program := "ytdmpagiankblpaa", sum := "bdd8293ade672810b994d036c4043257c9c526e72cf9692058d46bd5fddb0d8e", func := "tstate/tstatelaw15.IrqPicks", spec := "irqPicks", apart := false, narrowed := true }
def IrqPicksUptoSaid : Prop := irqPicksUptoRow.holds Try.pinned (OpenSpec.upto irqPicksSpec)

/-- 'tstatelaw15.IrqPriority', WHERE WHAT IT READS IS OF BULK AT MOST 1048576: true; the input reads as it did. -/
def irqPriorityUptoRow : OpenClaim := { program := "ytdmpagiankblpaa", sum := "bdd8293ade672810b994d036c4043257c9c526e72cf9692058d46bd5fddb0d8e", func := "tstate/tstatelaw15.IrqPriority", spec := "irqPriority", apart := false, narrowed := true }
def IrqPriorityUptoSaid : Prop := irqPriorityUptoRow.holds Try.pinned (OpenSpec.upto irqPrioritySpec)

/-- 'tstatelaw15.IrqDisables', WHERE WHAT IT READS IS OF BULK AT MOST 1048576: true; the input reads as it did. -/
def irqDisablesUptoRow : OpenClaim := { program := "ytdmpagiankblpaa", sum := "bdd8293ade672810b994d036c4043257c9c526e72cf9692058d46bd5fddb0d8e", func := "tstate/tstatelaw15.IrqDisables", spec := "irqDisables", apart := false, narrowed := true }
def IrqDisablesUptoSaid : Prop := irqDisablesUptoRow.holds Try.pinned (OpenSpec.upto irqDisablesSpec)

/-- 'tstatelaw15.IrqEdges', WHERE WHAT IT READS IS OF BULK AT MOST 1048576: true; the input reads as it did. -/
def irqEdgesUptoRow : OpenClaim := { program := "ytdmpagiankblpaa", sum := "bdd8293ade672810b994d036c4043257c9c526e72cf9692058d46bd5fddb0d8e", func := "tstate/tstatelaw15.IrqEdges", spec := "irqEdges", apart := false, narrowed := true }
def IrqEdgesUptoSaid : Prop := irqEdgesUptoRow.holds Try.pinned (OpenSpec.upto irqEdgesSpec)

/-- 'tstatelaw15.IrqAccepts', WHERE WHAT IT READS IS OF BULK AT MOST 1048576: true; the input reads as it did. -/
def irqAcceptsUptoRow : OpenClaim := { program := "ytdmpagiankblpaa", sum := "bdd8293ade672810b994d036c4043257c9c526e72cf9692058d46bd5fddb0d8e", func := "tstate/tstatelaw15.IrqAccepts", spec := "irqAccepts", apart := false, narrowed := true }
def IrqAcceptsUptoSaid : Prop := irqAcceptsUptoRow.holds Try.pinned (OpenSpec.upto irqAcceptsSpec)

end Rows
end Go.Proofs.Ytdmpagiankblpaa
