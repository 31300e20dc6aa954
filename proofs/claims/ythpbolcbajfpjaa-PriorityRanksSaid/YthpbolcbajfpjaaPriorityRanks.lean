/- tstatelaw21.PriorityRanks returns true for every input; no condition. -/
import Derived.Test.YthpbolcbajfpjaaPriB
namespace Go.Proofs.Ythpbolcbajfpjaa.priorityRanks
open Go Go.Sx Go.RowKit
set_option maxRecDepth 100000

def shapes : List ASh := [.one (.int .i64), .one (.int .i64), .one (.int .u8)]

def place (x : Int) : Int := IntKind.i64.wrap ((IntKind.u64.wrap x).tmod 8)
theorem nf (x0 x1 x2 : Int) : okTrue (eval Try.prog pr.G 3 [.one (.int .i64 (.sym x0)), .one (.int .i64 (.sym x1)), .one (.int .u8 (.sym x2))]) =
  bif bif pr.rk x0 x1 != pr.rk x0 x1 then true else pr.hi x2 x1 != pr.hi x2 x1 then false
  else !bif pr.rk x0 (place x1) != pr.rk x0 (place x1) then true else pr.hi x2 (place x1) != pr.hi x2 (place x1) := by kernel_rfl
theorem walk (e : Env) (_ : argsOk e 0 shapes) : okTrue (eval Try.prog pr.G 3 (argsTV e 0 shapes)) = true := by
  refine (nf (e.n 0) (e.n 1) (e.n 2)).trans ?_
  simp only [bne_self_eq_false, cond_false, Bool.not_false]

theorem own : ownKnob Try.prog.godebug = none := by kernel_rfl

theorem lifted (os : Os) (started : os.Started) (H : Type) (enc : TypeId × Value → H) :
    ReturnsInHanded {} Try.checked os 3 .any (Rows.priorityRanksSpec.pre6 enc Try.prog Try.f3 Rows.priorityRanksRow.domain false) (Rows.priorityRanksSpec.post enc Try.prog Try.f3 false true false false) :=
  law_step (C := Try.checked) 3 own started (by kernel_rfl) Try.func3 (by kernel_rfl) (by kernel_rfl) rfl
    (fun ds hd => by
      match ds, hd with
      | [d0, d1, d2], _ => rfl)
    (ChangeSpec.witness6 (enc := enc) (C := Try.checked) false ⟨#[], #[.int .i64 0, .int .i64 0, .int .u8 0], []⟩ 8 (by kernel_rfl) (by kernel_rfl) (by kernel_rfl) (by kernel_rfl))
    (fun W base args hv hl _ _ _ => plain_walk (P := Try.prog) (G := pr.G) pr.gok shapes (by kernel_rfl) walk W base args hv hl)

theorem over : Rows.priorityRanksRow.holds Try.pinned (OpenSpec.ofChange Rows.priorityRanksSpec) :=
  OpenClaim.holds_of_wide 3 Try.f3 rfl rfl rfl rfl rfl rfl rfl ⟨rfl, rfl, rfl, rfl, rfl⟩ rfl rfl rfl rfl rfl (by kernel_rfl) Try.func3 (by kernel_rfl)
    (of_decide_eq_true (by kernel_rfl)) (by unfold Func.isWrapper; first | (rw [if_pos (by decide +kernel)]; kernel_rfl) | (rw [if_neg (by decide +kernel)]; exact ⟨rfl, rfl⟩))
    (fun os started H enc _ => lifted os started H enc)

theorem proved : Rows.PriorityRanksSaid := over
#print axioms proved
end Go.Proofs.Ythpbolcbajfpjaa.priorityRanks
