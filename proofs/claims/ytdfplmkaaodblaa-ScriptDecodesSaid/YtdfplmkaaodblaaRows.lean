/-
  No cell of these rows narrows 'for every input' (looked for: loops, veiled, ifaces, maps, wideKeys, modest, calm, conditions, laid).
  DERIVED. THE GIVEN ROWS OF THIS SEAT. 5 by the template 'for every input the law returns true; each argument reads behind the call as it read before'; 0 by the template 'total and deterministic' (their statements: YtdfplmkaaodblaaTotals.lean).
  GIVEN WITH THE SEED: the statements are not yours to turn. If you find one false, say at which input.
  Laid BY PROGRAM, IN A SANDBOX (cutbox-rows.mjs): the forced cells as the released guide's own fill.sh prints them over the translation 62c02bd94d7b71ef… (all of the seat's roots in one cut). By AI agents, Wed Nov 11 2026. No macro, syntax, notation, axiom, sorry.
-/
import Derived.Test.YtdfplmkaaodblaaChecked
import GoSem.Claim
import GoSem.ClaimJoined
import GoSem.ClaimMapViews
import Derived.JoinedTies
import Derived.KernelRfl
namespace Go.Proofs.Ytdfplmkaaodblaa
/- THE CELL 'sum', in the pinned program and in every row, IS THE sha256 OF THE DUMP (.gsa) THAT YtdfplmkaaodblaaProg.lean LOADS. Nothing in Lean hashes anything: it is a label: what it is worth is what the hold of that sum in a sandbox is worth. -/
noncomputable def Try.pinned : Pinned := { name := "ytdfplmkaaodblaa", sum := "62c02bd94d7b71efdfa79d402a5602d08d7bec9cf082c544e499a3c7e5478b07", checked := Try.checked }
namespace Rows
def none {H : Type} : Left H := { results := [], args := [] }

/-- 'tstatelaw24.ScriptDecodes': WHATEVER THE INPUT: true; the input reads as it did. -/
def scriptDecodesSpec : ChangeSpec := { name := "scriptDecodes", fn := fun _ => fun
  | [d1, d2] => { results := [.lit (.bool true)], args := [d1, d2] }
  | _ => none }
def scriptDecodesRow : OpenClaim := { program := "ytdfplmkaaodblaa", sum := "62c02bd94d7b71efdfa79d402a5602d08d7bec9cf082c544e499a3c7e5478b07", func := "tstate/tstatelaw24.ScriptDecodes", spec := "scriptDecodes", unfollowed := true, recurses := true, apart := false }
def ScriptDecodesSaid : Prop := scriptDecodesRow.holds Try.pinned (OpenSpec.ofChange scriptDecodesSpec)

/-- ITS FALSE NEIGHBOUR: 'it returns false'. Refute it at one input. -/
def scriptDecodesWrong : ChangeSpec := { name := "scriptDecodes", fn := fun _ => fun
  | [d1, d2] => { results := [.lit (.bool false)], args := [d1, d2] }
  | _ => none }
def ScriptDecodesWrongFalsely : Prop := scriptDecodesRow.holds Try.pinned (OpenSpec.ofChange scriptDecodesWrong)

/-- 'tstatelaw24.ScriptEncodes': WHATEVER THE INPUT: true; the input reads as it did. -/
def scriptEncodesSpec : ChangeSpec := { name := "scriptEncodes", fn := fun _ => fun
  | [d1, d2, d3, d4] => { results := [.lit (.bool true)], args := [d1, d2, d3, d4] }
  | _ => none }
def scriptEncodesRow : OpenClaim := { program := "ytdfplmkaaodblaa", sum := "62c02bd94d7b71efdfa79d402a5602d08d7bec9cf082c544e499a3c7e5478b07", func := "tstate/tstatelaw24.ScriptEncodes", spec := "scriptEncodes", unfollowed := true, recurses := true, apart := false }
def ScriptEncodesSaid : Prop := scriptEncodesRow.holds Try.pinned (OpenSpec.ofChange scriptEncodesSpec)

/-- ITS FALSE NEIGHBOUR: 'it returns false'. Refute it at one input. -/
def scriptEncodesWrong : ChangeSpec := { name := "scriptEncodes", fn := fun _ => fun
  | [d1, d2, d3, d4] => { results := [.lit (.bool false)], args := [d1, d2, d3, d4] }
  | _ => none }
def ScriptEncodesWrongFalsely : Prop := scriptEncodesRow.holds Try.pinned (OpenSpec.ofChange scriptEncodesWrong)

/-- 'tstatelaw24.ScriptRoundTrips': WHATEVER THE INPUT: true; the input reads as it did. -/
def scriptRoundTripsSpec : ChangeSpec := { name := "scriptRoundTrips", fn := fun _ => fun
  | [d1, d2] => { results := [.lit (.bool true)], args := [d1, d2] }
  | _ => none }
def scriptRoundTripsRow : OpenClaim := { program := "ytdfplmkaaodblaa", sum := "62c02bd94d7b71efdfa79d402a5602d08d7bec9cf082c544e499a3c7e5478b07", func := "tstate/tstatelaw24.ScriptRoundTrips", spec := "scriptRoundTrips", unfollowed := true, recurses := true, apart := false }
def ScriptRoundTripsSaid : Prop := scriptRoundTripsRow.holds Try.pinned (OpenSpec.ofChange scriptRoundTripsSpec)

/-- ITS FALSE NEIGHBOUR: 'it returns false'. Refute it at one input. -/
def scriptRoundTripsWrong : ChangeSpec := { name := "scriptRoundTrips", fn := fun _ => fun
  | [d1, d2] => { results := [.lit (.bool false)], args := [d1, d2] }
  | _ => none }
def ScriptRoundTripsWrongFalsely : Prop := scriptRoundTripsRow.holds Try.pinned (OpenSpec.ofChange scriptRoundTripsWrong)

/-- 'tstatelaw24.ScriptDamage': WHATEVER THE INPUT: true; the input reads as it did. -/
def scriptDamageSpec : ChangeSpec := { name := "scriptDamage", fn := fun _ => fun
  | [d1, d2, d3] => { results := [.lit (.bool true)], args := [d1, d2, d3] }
  | _ => none }
def scriptDamageRow : OpenClaim := { program := "ytdfplmkaaodblaa", sum := "62c02bd94d7b71efdfa79d402a5602d08d7bec9cf082c544e499a3c7e5478b07", func := "tstate/tstatelaw24.ScriptDamage", spec := "scriptDamage", unfollowed := true, recurses := true, apart := false }
def ScriptDamageSaid : Prop := scriptDamageRow.holds Try.pinned (OpenSpec.ofChange scriptDamageSpec)

/-- ITS FALSE NEIGHBOUR: 'it returns false'. Refute it at one input. -/
def scriptDamageWrong : ChangeSpec := { name := "scriptDamage", fn := fun _ => fun
  | [d1, d2, d3] => { results := [.lit (.bool false)], args := [d1, d2, d3] }
  | _ => none }
def ScriptDamageWrongFalsely : Prop := scriptDamageRow.holds Try.pinned (OpenSpec.ofChange scriptDamageWrong)

/-- 'tstatelaw24.ScriptLimits': WHATEVER THE INPUT: true; the input reads as it did. -/
def scriptLimitsSpec : ChangeSpec := { name := "scriptLimits", fn := fun _ => fun
  | [d1, d2] => { results := [.lit (.bool true)], args := [d1, d2] }
  | _ => none }
def scriptLimitsRow : OpenClaim := { program := "ytdfplmkaaodblaa", sum := "62c02bd94d7b71efdfa79d402a5602d08d7bec9cf082c544e499a3c7e5478b07", func := "tstate/tstatelaw24.ScriptLimits", spec := "scriptLimits", unfollowed := true, recurses := true, apart := false }
def ScriptLimitsSaid : Prop := scriptLimitsRow.holds Try.pinned (OpenSpec.ofChange scriptLimitsSpec)

/-- ITS FALSE NEIGHBOUR: 'it returns false'. Refute it at one input. -/
def scriptLimitsWrong : ChangeSpec := { name := "scriptLimits", fn := fun _ => fun
  | [d1, d2] => { results := [.lit (.bool false)], args := [d1, d2] }
  | _ => none }
def ScriptLimitsWrongFalsely : Prop := scriptLimitsRow.holds Try.pinned (OpenSpec.ofChange scriptLimitsWrong)

/- THE SECOND FORM. 'bulk': how many values and letters a reading holds, each counted each time it is reached (what is shared counts as often as it is met; a slice's spare places count too). A statement '..UptoSaid' is the law's where the arguments, and the package variables that the reading takes, are together of bulk at most 1048576: NARROWER than '..Said'. Prove '..Said' where nothing that the law and all that it calls make is longer than what came in: it says more and counts as full. Else prove '..UptoSaid'. A law counts once. -/
mutual
def uptoBulk {H : Type} : DataW H → Nat
  | .lit (.string bytes) => bytes.length + 1
  | .lit _ => 1
  | .nil => 1
  | .ptr d => uptoBulk d + 1
  | .slice elems spare => uptoBulkAll elems + uptoBulkAll spare + 1
  | .agg parts => uptoBulkAll parts + 1
  | .iface _ d => uptoBulk d + 1
  | .map entries => uptoBulkEntries entries + 1
  | .held _ => 1
def uptoBulkAll {H : Type} : List (DataW H) → Nat
  | [] => 0
  | d :: r => uptoBulk d + uptoBulkAll r
def uptoBulkEntries {H : Type} : List (Lit × DataW H) → Nat
  | [] => 0
  | x :: r => uptoBulkEntry x + uptoBulkEntries r
def uptoBulkEntry {H : Type} : Lit × DataW H → Nat
  | (.string bytes, d) => bytes.length + uptoBulk d + 1
  | (_, d) => uptoBulk d + 1
 end
def uptoSmall : (H : Type) → List (DataW H) → Bool := fun _ ds => decide (uptoBulkAll ds ≤ 1048576)
def OpenSpec.upto (s : _root_.Go.ChangeSpec) : _root_.Go.OpenSpec := { _root_.Go.OpenSpec.ofChange s with cond := some uptoSmall }

/-- 'tstatelaw24.ScriptDecodes', WHERE WHAT IT READS IS OF BULK AT MOST 1048576: true; the input reads as it did. -/
def scriptDecodesUptoRow : OpenClaim := { program := "ytdfplmkaaodblaa", sum := "62c02bd94d7b71efdfa79d402a5602d08d7bec9cf082c544e499a3c7e5478b07", func := "tstate/tstatelaw24.ScriptDecodes", spec := "scriptDecodes", unfollowed := true, recurses := true, apart := false, narrowed := true }
def ScriptDecodesUptoSaid : Prop := scriptDecodesUptoRow.holds Try.pinned (OpenSpec.upto scriptDecodesSpec)

/-- 'tstatelaw24.ScriptEncodes', WHERE WHAT IT READS IS OF BULK AT MOST 1048576: true; the input reads as it did. -/
def scriptEncodesUptoRow : OpenClaim := { program := "ytdfplmkaaodblaa", sum := "62c02bd94d7b71efdfa79d402a5602d08d7bec9cf082c544e499a3c7e5478b07", func := "tstate/tstatelaw24.ScriptEncodes", spec := "scriptEncodes", unfollowed := true, recurses := true, apart := false, narrowed := true }
def ScriptEncodesUptoSaid : Prop := scriptEncodesUptoRow.holds Try.pinned (OpenSpec.upto scriptEncodesSpec)

/-- 'tstatelaw24.ScriptRoundTrips', WHERE WHAT IT READS IS OF BULK AT MOST 1048576: true; the input reads as it did. -/
def scriptRoundTripsUptoRow : OpenClaim := { program := "ytdfplmkaaodblaa", sum := "62c02bd94d7b71efdfa79d402a5602d08d7bec9cf082c544e499a3c7e5478b07", func := "tstate/tstatelaw24.ScriptRoundTrips", spec := "scriptRoundTrips", unfollowed := true, recurses := true, apart := false, narrowed := true }
def ScriptRoundTripsUptoSaid : Prop := scriptRoundTripsUptoRow.holds Try.pinned (OpenSpec.upto scriptRoundTripsSpec)

/-- 'tstatelaw24.ScriptDamage', WHERE WHAT IT READS IS OF BULK AT MOST 1048576: true; the input reads as it did. -/
def scriptDamageUptoRow : OpenClaim := { program := "ytdfplmkaaodblaa", sum := "62c02bd94d7b71efdfa79d402a5602d08d7bec9cf082c544e499a3c7e5478b07", func := "tstate/tstatelaw24.ScriptDamage", spec := "scriptDamage", unfollowed := true, recurses := true, apart := false, narrowed := true }
def ScriptDamageUptoSaid : Prop := scriptDamageUptoRow.holds Try.pinned (OpenSpec.upto scriptDamageSpec)

/-- 'tstatelaw24.ScriptLimits', WHERE WHAT IT READS IS OF BULK AT MOST 1048576: true; the input reads as it did. -/
def scriptLimitsUptoRow : OpenClaim := { program := "ytdfplmkaaodblaa", sum := "62c02bd94d7b71efdfa79d402a5602d08d7bec9cf082c544e499a3c7e5478b07", func := "tstate/tstatelaw24.ScriptLimits", spec := "scriptLimits", unfollowed := true, recurses := true, apart := false, narrowed := true }
def ScriptLimitsUptoSaid : Prop := scriptLimitsUptoRow.holds Try.pinned (OpenSpec.upto scriptLimitsSpec)

end Rows
end Go.Proofs.Ytdfplmkaaodblaa
