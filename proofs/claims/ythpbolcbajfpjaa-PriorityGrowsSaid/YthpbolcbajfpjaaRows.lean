/-
  No cell of these rows narrows 'for every input' (looked for: loops, veiled, ifaces, maps, wideKeys, modest, calm, conditions, laid).
  DERIVED. THE GIVEN ROWS OF THIS SEAT. 5 by the template 'for every input the law returns true; each argument reads behind the call as it read before'; 0 by the template 'total and deterministic' (their statements: YthpbolcbajfpjaaTotals.lean).
  GIVEN WITH THE SEED: the statements are not yours to turn. If you find one false, say at which input.
  Laid BY PROGRAM, IN A SANDBOX (cutbox-rows.mjs): the forced cells as the released guide's own fill.sh prints them over the translation d3b412aaabdd8387… (all of the seat's roots in one cut). By AI agents, Wed Nov 11 2026. No macro, syntax, notation, axiom, sorry.
-/
import Derived.Test.YthpbolcbajfpjaaChecked
import GoSem.Claim
import GoSem.ClaimJoined
import GoSem.ClaimMapViews
import Derived.JoinedTies
import Derived.KernelRfl
namespace Go.Proofs.Ythpbolcbajfpjaa
/- THE CELL 'sum', in the pinned program and in every row, IS THE sha256 OF THE DUMP (.gsa) THAT YthpbolcbajfpjaaProg.lean LOADS. Nothing in Lean hashes anything: it is a label: what it is worth is what the hold of that sum in a sandbox is worth. -/
noncomputable def Try.pinned : Pinned := { name := "ythpbolcbajfpjaa", sum := "d3b412aaabdd8387f5f3ef4e10f43ca906ba03e5bf347cb1c66d15d4a0a3375b", checked := Try.checked }
namespace Rows
def none {H : Type} : Left H := { results := [], args := [] }

/-- 'tstatelaw21.PriorityRanks': WHATEVER THE INPUT: true; the input reads as it did. -/
def priorityRanksSpec : ChangeSpec := { name := "priorityRanks", fn := fun _ => fun
  | [d1, d2, d3] => { results := [.lit (.bool true)], args := [d1, d2, d3] }
  | _ => none }
def priorityRanksRow : OpenClaim := { program := "ythpbolcbajfpjaa", sum := "d3b412aaabdd8387f5f3ef4e10f43ca906ba03e5bf347cb1c66d15d4a0a3375b", func := "tstate/tstatelaw21.PriorityRanks", spec := "priorityRanks", apart := false }
def PriorityRanksSaid : Prop := priorityRanksRow.holds Try.pinned (OpenSpec.ofChange priorityRanksSpec)

/-- ITS FALSE NEIGHBOUR: 'it returns false'. Refute it at one input. -/
def priorityRanksWrong : ChangeSpec := { name := "priorityRanks", fn := fun _ => fun
  | [d1, d2, d3] => { results := [.lit (.bool false)], args := [d1, d2, d3] }
  | _ => none }
def PriorityRanksWrongFalsely : Prop := priorityRanksRow.holds Try.pinned (OpenSpec.ofChange priorityRanksWrong)

/-- 'tstatelaw21.PriorityPicks': WHATEVER THE INPUT: true; the input reads as it did. -/
def priorityPicksSpec : ChangeSpec := { name := "priorityPicks", fn := fun _ => fun
  | [d1, d2, d3, d4, d5] => { results := [.lit (.bool true)], args := [d1, d2, d3, d4, d5] }
  | _ => none }
def priorityPicksRow : OpenClaim := { program := "ythpbolcbajfpjaa", sum := "d3b412aaabdd8387f5f3ef4e10f43ca906ba03e5bf347cb1c66d15d4a0a3375b", func := "tstate/tstatelaw21.PriorityPicks", spec := "priorityPicks", apart := false }
def PriorityPicksSaid : Prop := priorityPicksRow.holds Try.pinned (OpenSpec.ofChange priorityPicksSpec)

/-- ITS FALSE NEIGHBOUR: 'it returns false'. Refute it at one input. -/
def priorityPicksWrong : ChangeSpec := { name := "priorityPicks", fn := fun _ => fun
  | [d1, d2, d3, d4, d5] => { results := [.lit (.bool false)], args := [d1, d2, d3, d4, d5] }
  | _ => none }
def PriorityPicksWrongFalsely : Prop := priorityPicksRow.holds Try.pinned (OpenSpec.ofChange priorityPicksWrong)

/-- 'tstatelaw21.PriorityOrders': WHATEVER THE INPUT: true; the input reads as it did. -/
def priorityOrdersSpec : ChangeSpec := { name := "priorityOrders", fn := fun _ => fun
  | [d] => { results := [.lit (.bool true)], args := [d] }
  | _ => none }
def priorityOrdersRow : OpenClaim := { program := "ythpbolcbajfpjaa", sum := "d3b412aaabdd8387f5f3ef4e10f43ca906ba03e5bf347cb1c66d15d4a0a3375b", func := "tstate/tstatelaw21.PriorityOrders", spec := "priorityOrders", apart := false }
def PriorityOrdersSaid : Prop := priorityOrdersRow.holds Try.pinned (OpenSpec.ofChange priorityOrdersSpec)

/-- ITS FALSE NEIGHBOUR: 'it returns false'. Refute it at one input. -/
def priorityOrdersWrong : ChangeSpec := { name := "priorityOrders", fn := fun _ => fun
  | [d] => { results := [.lit (.bool false)], args := [d] }
  | _ => none }
def PriorityOrdersWrongFalsely : Prop := priorityOrdersRow.holds Try.pinned (OpenSpec.ofChange priorityOrdersWrong)

/-- 'tstatelaw21.PriorityServes': WHATEVER THE INPUT: true; the input reads as it did. -/
def priorityServesSpec : ChangeSpec := { name := "priorityServes", fn := fun _ => fun
  | [d1, d2, d3, d4, d5] => { results := [.lit (.bool true)], args := [d1, d2, d3, d4, d5] }
  | _ => none }
def priorityServesRow : OpenClaim := { program := "ythpbolcbajfpjaa", sum := "d3b412aaabdd8387f5f3ef4e10f43ca906ba03e5bf347cb1c66d15d4a0a3375b", func := "tstate/tstatelaw21.PriorityServes", spec := "priorityServes", apart := false }
def PriorityServesSaid : Prop := priorityServesRow.holds Try.pinned (OpenSpec.ofChange priorityServesSpec)

/-- ITS FALSE NEIGHBOUR: 'it returns false'. Refute it at one input. -/
def priorityServesWrong : ChangeSpec := { name := "priorityServes", fn := fun _ => fun
  | [d1, d2, d3, d4, d5] => { results := [.lit (.bool false)], args := [d1, d2, d3, d4, d5] }
  | _ => none }
def PriorityServesWrongFalsely : Prop := priorityServesRow.holds Try.pinned (OpenSpec.ofChange priorityServesWrong)

/-- 'tstatelaw21.PriorityGrows': WHATEVER THE INPUT: true; the input reads as it did. -/
def priorityGrowsSpec : ChangeSpec := { name := "priorityGrows", fn := fun _ => fun
  | [d1, d2, d3, d4, d5, d6] => { results := [.lit (.bool true)], args := [d1, d2, d3, d4, d5, d6] }
  | _ => none }
def priorityGrowsRow : OpenClaim := { program := "ythpbolcbajfpjaa", sum := "d3b412aaabdd8387f5f3ef4e10f43ca906ba03e5bf347cb1c66d15d4a0a3375b", func := "tstate/tstatelaw21.PriorityGrows", spec := "priorityGrows", apart := false }
def PriorityGrowsSaid : Prop := priorityGrowsRow.holds Try.pinned (OpenSpec.ofChange priorityGrowsSpec)

/-- ITS FALSE NEIGHBOUR: 'it returns false'. Refute it at one input. -/
def priorityGrowsWrong : ChangeSpec := { name := "priorityGrows", fn := fun _ => fun
  | [d1, d2, d3, d4, d5, d6] => { results := [.lit (.bool false)], args := [d1, d2, d3, d4, d5, d6] }
  | _ => none }
def PriorityGrowsWrongFalsely : Prop := priorityGrowsRow.holds Try.pinned (OpenSpec.ofChange priorityGrowsWrong)

/- THE SECOND FORM. 'bulk': how many values and letters a reading holds, each counted each time it is reached (what is shared counts as often as it is met; a slice's spare places count too). A statement '..UptoSaid' is the law's where the arguments, and the package variables that the reading takes, are together of bulk at most 1048576: NARROWER than '..Said'. Prove '..Said' where nothing that the law and all that it calls make is longer than what came in: it says more and counts as full. Else prove '..UptoSaid'. A law counts once. -/
mutual
def uptoBulk {H : Type} : DataW H → Nat
  | .lit (.string bytes) => bytes.length + 1
  | .lit _ => 1
  | .nil => 1
  | .ptr d => uptoBulk d + 1
  | .slice elems spare => uptoBulkAll elems + uptoBulkAll spare + 1
  | .agg parts => uptoBulkAll parts + 1
  | .iface _ d => uptoBulk d + 1
  | .map entries => uptoBulkEntries entries + 1
  | .held _ => 1
def uptoBulkAll {H : Type} : List (DataW H) → Nat
  | [] => 0
  | d :: r => uptoBulk d + uptoBulkAll r
def uptoBulkEntries {H : Type} : List (Lit × DataW H) → Nat
  | [] => 0
  | x :: r => uptoBulkEntry x + uptoBulkEntries r
def uptoBulkEntry {H : Type} : Lit × DataW H → Nat
  | (.string bytes, d) => bytes.length + uptoBulk d + 1
  | (_, d) => uptoBulk d + 1
 end
def uptoSmall : (H : Type) → List (DataW H) → Bool := fun _ ds => decide (uptoBulkAll ds ≤ 1048576)
def OpenSpec.upto (s : _root_.Go.ChangeSpec) : _root_.Go.OpenSpec := { _root_.Go.OpenSpec.ofChange s with cond := some uptoSmall }

/-- 'tstatelaw21.PriorityRanks', WHERE WHAT IT READS IS OF BULK AT MOST 1048576: true; the input reads as it did. -/
def priorityRanksUptoRow : OpenClaim := { program := "ythpbolcbajfpjaa", sum := "d3b412aaabdd8387f5f3ef4e10f43ca906ba03e5bf347cb1c66d15d4a0a3375b", func := "tstate/tstatelaw21.PriorityRanks", spec := "priorityRanks", apart := false, narrowed := true }
def PriorityRanksUptoSaid : Prop := priorityRanksUptoRow.holds Try.pinned (OpenSpec.upto priorityRanksSpec)

/-- 'tstatelaw21.PriorityPicks', WHERE WHAT IT READS IS OF BULK AT MOST 1048576: true; the input reads as it did. -/
def priorityPicksUptoRow : OpenClaim := { program := "ythpbolcbajfpjaa", sum := "d3b412aaabdd8387f5f3ef4e10f43ca906ba03e5bf347cb1c66d15d4a0a3375b", func := "tstate/tstatelaw21.PriorityPicks", spec := "priorityPicks", apart := false, narrowed := true }
def PriorityPicksUptoSaid : Prop := priorityPicksUptoRow.holds Try.pinned (OpenSpec.upto priorityPicksSpec)

/-- 'tstatelaw21.PriorityOrders', WHERE WHAT IT READS IS OF BULK AT MOST 1048576: true; the input reads as it did. -/
def priorityOrdersUptoRow : OpenClaim := { program := "ythpbolcbajfpjaa", sum := "d3b412aaabdd8387f5f3ef4e10f43ca906ba03e5bf347cb1c66d15d4a0a3375b", func := "tstate/tstatelaw21.PriorityOrders", spec := "priorityOrders", apart := false, narrowed := true }
def PriorityOrdersUptoSaid : Prop := priorityOrdersUptoRow.holds Try.pinned (OpenSpec.upto priorityOrdersSpec)

/-- 'tstatelaw21.PriorityServes', WHERE WHAT IT READS IS OF BULK AT MOST 1048576: true; the input reads as it did. -/
def priorityServesUptoRow : OpenClaim := { program := "ythpbolcbajfpjaa", sum := "d3b412aaabdd8387f5f3ef4e10f43ca906ba03e5bf347cb1c66d15d4a0a3375b", func := "tstate/tstatelaw21.PriorityServes", spec := "priorityServes", apart := false, narrowed := true }
def PriorityServesUptoSaid : Prop := priorityServesUptoRow.holds Try.pinned (OpenSpec.upto priorityServesSpec)

/-- 'tstatelaw21.PriorityGrows', WHERE WHAT IT READS IS OF BULK AT MOST 1048576: true; the input reads as it did. -/
def priorityGrowsUptoRow : OpenClaim := { program := "ythpbolcbajfpjaa", sum := "d3b412aaabdd8387f5f3ef4e10f43ca906ba03e5bf347cb1c66d15d4a0a3375b", func := "tstate/tstatelaw21.PriorityGrows", spec := "priorityGrows", apart := false, narrowed := true }
def PriorityGrowsUptoSaid : Prop := priorityGrowsUptoRow.holds Try.pinned (OpenSpec.upto priorityGrowsSpec)

end Rows
end Go.Proofs.Ythpbolcbajfpjaa
