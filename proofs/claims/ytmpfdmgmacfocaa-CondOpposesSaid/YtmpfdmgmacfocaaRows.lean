/-
  No cell of these rows narrows 'for every input' (looked for: loops, veiled, ifaces, maps, wideKeys, modest, calm, conditions, laid).
  DERIVED. THE GIVEN ROWS OF THIS SEAT. 3 by the template 'for every input the law returns true; each argument reads behind the call as it read before'; 0 by the template 'total and deterministic' (their statements: YtmpfdmgmacfocaaTotals.lean).
  GIVEN WITH THE SEED: the statements are not yours to turn. If you find one false, say at which input.
  Laid BY PROGRAM, IN A SANDBOX (cutbox-rows.mjs): the forced cells as the released guide's own fill.sh prints them over the translation 35af872f0fd4068d… (all of the seat's roots in one cut). By AI agents, Wed Nov 11 2026. No macro, syntax, notation, axiom, sorry.
-/
import Derived.Test.YtmpfdmgmacfocaaChecked
import GoSem.Claim
import GoSem.ClaimJoined
import GoSem.ClaimMapViews
import Derived.JoinedTies
import Derived.KernelRfl
namespace Go.Proofs.Ytmpfdmgmacfocaa
/- THE CELL 'sum', in the pinned program and in every row, IS THE sha256 OF THE DUMP (.gsa) THAT YtmpfdmgmacfocaaProg.lean LOADS. Nothing in Lean hashes anything: it is a label: what it is worth is what the hold of that sum in a sandbox is worth. -/
noncomputable def Try.pinned : Pinned := { name := "ytmpfdmgmacfocaa", sum := "35af872f0fd4068de44f4f1b492b35fff32317dae7ff1d1129f202cb0437808b", checked := Try.checked }
namespace Rows
def none {H : Type} : Left H := { results := [], args := [] }

/-- 'tstatelaw10.CondHolds': WHATEVER THE INPUT: true; the input reads as it did. -/
def condHoldsSpec : ChangeSpec := { name := "condHolds", fn := fun _ => fun
  | [d1, d2] => { results := [.lit (.bool true)], args := [d1, d2] }
  | _ => none }
def condHoldsRow : OpenClaim := { program := "ytmpfdmgmacfocaa", sum := "35af872f0fd4068de44f4f1b492b35fff32317dae7ff1d1129f202cb0437808b", func := "tstate/tstatelaw10.CondHolds", spec := "condHolds", apart := false }
def CondHoldsSaid : Prop := condHoldsRow.holds Try.pinned (OpenSpec.ofChange condHoldsSpec)

/-- ITS FALSE NEIGHBOUR: 'it returns false'. Refute it at one input. -/
def condHoldsWrong : ChangeSpec := { name := "condHolds", fn := fun _ => fun
  | [d1, d2] => { results := [.lit (.bool false)], args := [d1, d2] }
  | _ => none }
def CondHoldsWrongFalsely : Prop := condHoldsRow.holds Try.pinned (OpenSpec.ofChange condHoldsWrong)

/-- 'tstatelaw10.CondOpposes': WHATEVER THE INPUT: true; the input reads as it did. -/
def condOpposesSpec : ChangeSpec := { name := "condOpposes", fn := fun _ => fun
  | [d1, d2] => { results := [.lit (.bool true)], args := [d1, d2] }
  | _ => none }
def condOpposesRow : OpenClaim := { program := "ytmpfdmgmacfocaa", sum := "35af872f0fd4068de44f4f1b492b35fff32317dae7ff1d1129f202cb0437808b", func := "tstate/tstatelaw10.CondOpposes", spec := "condOpposes", apart := false }
def CondOpposesSaid : Prop := condOpposesRow.holds Try.pinned (OpenSpec.ofChange condOpposesSpec)

/-- ITS FALSE NEIGHBOUR: 'it returns false'. Refute it at one input. -/
def condOpposesWrong : ChangeSpec := { name := "condOpposes", fn := fun _ => fun
  | [d1, d2] => { results := [.lit (.bool false)], args := [d1, d2] }
  | _ => none }
def CondOpposesWrongFalsely : Prop := condOpposesRow.holds Try.pinned (OpenSpec.ofChange condOpposesWrong)

/-- 'tstatelaw10.CondDepends': WHATEVER THE INPUT: true; the input reads as it did. -/
def condDependsSpec : ChangeSpec := { name := "condDepends", fn := fun _ => fun
  | [d1, d2, d3] => { results := [.lit (.bool true)], args := [d1, d2, d3] }
  | _ => none }
def condDependsRow : OpenClaim := { program := "ytmpfdmgmacfocaa", sum := "35af872f0fd4068de44f4f1b492b35fff32317dae7ff1d1129f202cb0437808b", func := "tstate/tstatelaw10.CondDepends", spec := "condDepends", apart := false }
def CondDependsSaid : Prop := condDependsRow.holds Try.pinned (OpenSpec.ofChange condDependsSpec)

/-- ITS FALSE NEIGHBOUR: 'it returns false'. Refute it at one input. -/
def condDependsWrong : ChangeSpec := { name := "condDepends", fn := fun _ => fun
  | [d1, d2, d3] => { results := [.lit (.bool false)], args := [d1, d2, d3] }
  | _ => none }
def CondDependsWrongFalsely : Prop := condDependsRow.holds Try.pinned (OpenSpec.ofChange condDependsWrong)

/- THE SECOND FORM. 'bulk': how many values and letters a reading holds, each counted each time it is reached (what is shared counts as often as it is met; a slice's spare places count too). A statement '..UptoSaid' is the law's where the arguments, and the package variables that the reading takes, are together of bulk at most 1048576: NARROWER than '..Said'. Prove '..Said' where nothing that the law and all that it calls make is longer than what came in: it says more and counts as full. Else prove '..UptoSaid'. A law counts once. -/
mutual
def uptoBulk {H : Type} : DataW H → Nat
  | .lit (.string bytes) => bytes.length + 1
  | .lit _ => 1
  | .nil => 1
  | .ptr d => uptoBulk d + 1
  | .slice elems spare => uptoBulkAll elems + uptoBulkAll spare + 1
  | .agg parts => uptoBulkAll parts + 1
  | .iface _ d => uptoBulk d + 1
  | .map entries => uptoBulkEntries entries + 1
  | .held _ => 1
def uptoBulkAll {H : Type} : List (DataW H) → Nat
  | [] => 0
  | d :: r => uptoBulk d + uptoBulkAll r
def uptoBulkEntries {H : Type} : List (Lit × DataW H) → Nat
  | [] => 0
  | x :: r => uptoBulkEntry x + uptoBulkEntries r
def uptoBulkEntry {H : Type} : Lit × DataW H → Nat
  | (.string bytes, d) => bytes.length + uptoBulk d + 1
  | (_, d) => uptoBulk d + 1
 end
def uptoSmall : (H : Type) → List (DataW H) → Bool := fun _ ds => decide (uptoBulkAll ds ≤ 1048576)
def OpenSpec.upto (s : _root_.Go.ChangeSpec) : _root_.Go.OpenSpec := { _root_.Go.OpenSpec.ofChange s with cond := some uptoSmall }

/-- 'tstatelaw10.CondHolds', WHERE WHAT IT READS IS OF BULK AT MOST 1048576: true; the input reads as it did. -/
def condHoldsUptoRow : OpenClaim := { program := "ytmpfdmgmacfocaa", sum := "35af872f0fd4068de44f4f1b492b35fff32317dae7ff1d1129f202cb0437808b", func := "tstate/tstatelaw10.CondHolds", spec := "condHolds", apart := false, narrowed := true }
def CondHoldsUptoSaid : Prop := condHoldsUptoRow.holds Try.pinned (OpenSpec.upto condHoldsSpec)

/-- 'tstatelaw10.CondOpposes', WHERE WHAT IT READS IS OF BULK AT MOST 1048576: true; the input reads as it did. -/
def condOpposesUptoRow : OpenClaim := { program := "ytmpfdmgmacfocaa", sum := "35af872f0fd4068de44f4f1b492b35fff32317dae7ff1d1129f202cb0437808b", func := "tstate/tstatelaw10.CondOpposes", spec := "condOpposes", apart := false, narrowed := true }
def CondOpposesUptoSaid : Prop := condOpposesUptoRow.holds Try.pinned (OpenSpec.upto condOpposesSpec)

/-- 'tstatelaw10.CondDepends', WHERE WHAT IT READS IS OF BULK AT MOST 1048576: true; the input reads as it did. -/
def condDependsUptoRow : OpenClaim := { program := "ytmpfdmgmacfocaa", sum := "35af872f0fd4068de44f4f1b492b35fff32317dae7ff1d1129f202cb0437808b", func := "tstate/tstatelaw10.CondDepends", spec := "condDepends", apart := false, narrowed := true }
def CondDependsUptoSaid : Prop := condDependsUptoRow.holds Try.pinned (OpenSpec.upto condDependsSpec)

end Rows
end Go.Proofs.Ytmpfdmgmacfocaa
