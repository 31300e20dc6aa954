/-
  No cell of these rows narrows 'for every input' (looked for: loops, veiled, ifaces, maps, wideKeys, modest, calm, conditions, laid).
  DERIVED. THE GIVEN ROWS OF THIS SEAT. 3 by the template 'for every input the law returns true; each argument reads behind the call as it read before'; 0 by the template 'total and deterministic' (their statements: YtmjelkeanbckaaaTotals.lean).
  GIVEN WITH THE SEED: the statements are not yours to turn. If you find one false, say at which input.
  Laid BY PROGRAM, IN A SANDBOX (cutbox-rows.mjs): the forced cells as the released guide's own fill.sh prints them over the translation e559bc36b8303cc5… (all of the seat's roots in one cut). By AI agents, Wed Nov 11 2026. No macro, syntax, notation, axiom, sorry.
-/
import Derived.Test.YtmjelkeanbckaaaChecked
import GoSem.Claim
import GoSem.ClaimJoined
import GoSem.ClaimMapViews
import Derived.JoinedTies
import Derived.KernelRfl
namespace Go.Proofs.Ytmjelkeanbckaaa
/- THE CELL 'sum', in the pinned program and in every row, IS THE sha256 OF THE DUMP (.gsa) THAT YtmjelkeanbckaaaProg.lean LOADS. Nothing in Lean hashes anything: it is a label: what it is worth is what the hold of that sum in a sandbox is worth. -/
noncomputable def Try.pinned : Pinned := { name := "ytmjelkeanbckaaa", sum := "e559bc36b8303cc53cff51cad1605113632f0fc35b44542671dcaee8b4c04062", checked := Try.checked }
namespace Rows
def none {H : Type} : Left H := { results := [], args := [] }

/-- 'tstatelaw23.DmaTransfers': WHATEVER THE INPUT: true; the input reads as it did. -/
def dmaTransfersSpec : ChangeSpec := { name := "dmaTransfers", fn := fun _ => fun
  | [d1, d2] => { results := [.lit (.bool true)], args := [d1, d2] }
  | _ => none }
def dmaTransfersRow : OpenClaim := { program := "ytmjelkeanbckaaa", sum := "e559bc36b8303cc53cff51cad1605113632f0fc35b44542671dcaee8b4c04062", func := "tstate/tstatelaw23.DmaTransfers", spec := "dmaTransfers", apart := false }
def DmaTransfersSaid : Prop := dmaTransfersRow.holds Try.pinned (OpenSpec.ofChange dmaTransfersSpec)

/-- ITS FALSE NEIGHBOUR: 'it returns false'. Refute it at one input. -/
def dmaTransfersWrong : ChangeSpec := { name := "dmaTransfers", fn := fun _ => fun
  | [d1, d2] => { results := [.lit (.bool false)], args := [d1, d2] }
  | _ => none }
def DmaTransfersWrongFalsely : Prop := dmaTransfersRow.holds Try.pinned (OpenSpec.ofChange dmaTransfersWrong)

/-- 'tstatelaw23.DmaCounts': WHATEVER THE INPUT: true; the input reads as it did. -/
def dmaCountsSpec : ChangeSpec := { name := "dmaCounts", fn := fun _ => fun
  | [d1, d2] => { results := [.lit (.bool true)], args := [d1, d2] }
  | _ => none }
def dmaCountsRow : OpenClaim := { program := "ytmjelkeanbckaaa", sum := "e559bc36b8303cc53cff51cad1605113632f0fc35b44542671dcaee8b4c04062", func := "tstate/tstatelaw23.DmaCounts", spec := "dmaCounts", apart := false }
def DmaCountsSaid : Prop := dmaCountsRow.holds Try.pinned (OpenSpec.ofChange dmaCountsSpec)

/-- ITS FALSE NEIGHBOUR: 'it returns false'. Refute it at one input. -/
def dmaCountsWrong : ChangeSpec := { name := "dmaCounts", fn := fun _ => fun
  | [d1, d2] => { results := [.lit (.bool false)], args := [d1, d2] }
  | _ => none }
def DmaCountsWrongFalsely : Prop := dmaCountsRow.holds Try.pinned (OpenSpec.ofChange dmaCountsWrong)

/-- 'tstatelaw23.DmaRegisters': WHATEVER THE INPUT: true; the input reads as it did. -/
def dmaRegistersSpec : ChangeSpec := { name := "dmaRegisters", fn := fun _ => fun
  | [d1, d2, d3] => { results := [.lit (.bool true)], args := [d1, d2, d3] }
  | _ => none }
def dmaRegistersRow : OpenClaim := { program := "ytmjelkeanbckaaa", sum := "e559bc36b8303cc53cff51cad1605113632f0fc35b44542671dcaee8b4c04062", func := "tstate/tstatelaw23.DmaRegisters", spec := "dmaRegisters", apart := false }
def DmaRegistersSaid : Prop := dmaRegistersRow.holds Try.pinned (OpenSpec.ofChange dmaRegistersSpec)

/-- ITS FALSE NEIGHBOUR: 'it returns false'. Refute it at one input. -/
def dmaRegistersWrong : ChangeSpec := { name := "dmaRegisters", fn := fun _ => fun
  | [d1, d2, d3] => { results := [.lit (.bool false)], args := [d1, d2, d3] }
  | _ => none }
def DmaRegistersWrongFalsely : Prop := dmaRegistersRow.holds Try.pinned (OpenSpec.ofChange dmaRegistersWrong)

/- THE SECOND FORM. 'bulk': how many values and letters a reading holds, each counted each time it is reached (what is shared counts as often as it is met; a slice's spare places count too). A statement '..UptoSaid' is the law's where the arguments, and the package variables that the reading takes, are together of bulk at most 1048576: NARROWER than '..Said'. Prove '..Said' where nothing that the law and all that it calls make is longer than what came in: it says more and counts as full. Else prove '..UptoSaid'. A law counts once. -/
mutual
def uptoBulk {H : Type} : DataW H → Nat
  | .lit (.string bytes) => bytes.length + 1
  | .lit _ => 1
  | .nil => 1
  | .ptr d => uptoBulk d + 1
  | .slice elems spare => uptoBulkAll elems + uptoBulkAll spare + 1
  | .agg parts => uptoBulkAll parts + 1
  | .iface _ d => uptoBulk d + 1
  | .map entries => uptoBulkEntries entries + 1
  | .held _ => 1
def uptoBulkAll {H : Type} : List (DataW H) → Nat
  | [] => 0
  | d :: r => uptoBulk d + uptoBulkAll r
def uptoBulkEntries {H : Type} : List (Lit × DataW H) → Nat
  | [] => 0
  | x :: r => uptoBulkEntry x + uptoBulkEntries r
def uptoBulkEntry {H : Type} : Lit × DataW H → Nat
  | (.string bytes, d) => bytes.length + uptoBulk d + 1
  | (_, d) => uptoBulk d + 1
 end
def uptoSmall : (H : Type) → List (DataW H) → Bool := fun _ ds => decide (uptoBulkAll ds ≤ 1048576)
def OpenSpec.upto (s : _root_.Go.ChangeSpec) : _root_.Go.OpenSpec := { _root_.Go.OpenSpec.ofChange s with cond := some uptoSmall }

/-- 'tstatelaw23.DmaTransfers', WHERE WHAT IT READS IS OF BULK AT MOST 1048576: true; the input reads as it did. -/
def dmaTransfersUptoRow : OpenClaim := { program := "ytmjelkeanbckaaa", sum := "e559bc36b8303cc53cff51cad1605113632f0fc35b44542671dcaee8b4c04062", func := "tstate/tstatelaw23.DmaTransfers", spec := "dmaTransfers", apart := false, narrowed := true }
def DmaTransfersUptoSaid : Prop := dmaTransfersUptoRow.holds Try.pinned (OpenSpec.upto dmaTransfersSpec)

/-- 'tstatelaw23.DmaCounts', WHERE WHAT IT READS IS OF BULK AT MOST 1048576: true; the input reads as it did. -/
def dmaCountsUptoRow : OpenClaim := { program := "ytmjelkeanbckaaa", sum := "e559bc36b8303cc53cff51cad1605113632f0fc35b44542671dcaee8b4c04062", func := "tstate/tstatelaw23.DmaCounts", spec := "dmaCounts", apart := false, narrowed := true }
def DmaCountsUptoSaid : Prop := dmaCountsUptoRow.holds Try.pinned (OpenSpec.upto dmaCountsSpec)

/-- 'tstatelaw23.DmaRegisters', WHERE WHAT IT READS IS OF BULK AT MOST 1048576: true; the input reads as it did. -/
def dmaRegistersUptoRow : OpenClaim := { program := "ytmjelkeanbckaaa", sum := "e559bc36b8303cc53cff51cad1605113632f0fc35b44542671dcaee8b4c04062", func := "tstate/tstatelaw23.DmaRegisters", spec := "dmaRegisters", apart := false, narrowed := true }
def DmaRegistersUptoSaid : Prop := dmaRegistersUptoRow.holds Try.pinned (OpenSpec.upto dmaRegistersSpec)

end Rows
end Go.Proofs.Ytmjelkeanbckaaa
