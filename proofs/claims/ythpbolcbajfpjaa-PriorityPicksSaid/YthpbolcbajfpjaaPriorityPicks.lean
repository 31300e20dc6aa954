/- tstatelaw21.PriorityPicks returns true for every input; no condition. -/
import Derived.Test.YthpbolcbajfpjaaPriB
namespace Go.Proofs.Ythpbolcbajfpjaa.priorityPicks
open Go Go.Sx Go.RowKit
set_option maxRecDepth 100000

def shapes : List ASh := [.one (.int .u8), .one (.int .u8), .one (.int .u8), .one (.int .i64), .one (.bool)]

def place (x : Int) : Int := IntKind.i64.wrap ((IntKind.u64.wrap x).tmod 8)
theorem nf (x0 x1 x2 x3 : Int) (x4 : Bool) : okTrue (eval Try.prog pr.G 4 [.one (.int .u8 (.sym x0)), .one (.int .u8 (.sym x1)), .one (.int .u8 (.sym x2)), .one (.int .i64 (.sym x3)), .one (.bool (.sym x4))]) =
  bif pr.pk x0 x1 x2 x3 x4 != pr.pk x0 x1 x2 x3 x4 then false
  else bif pr.pk x0 x1 (bits .and .u8 x2 x1) x3 x4 != pr.pk x0 x1 (bits .and .u8 x2 x1) x3 x4 then false
  else bif pr.pk x0 x1 0 x3 x4 != pr.pk x0 x1 0 x3 x4 then false
  else bif pr.pk x0 x1 x2 (place x3) x4 != pr.pk x0 x1 x2 (place x3) x4 then false
  else bif pr.pk x0 x1 (bits .and .u8 x2 x1) (place x3) x4 != pr.pk x0 x1 (bits .and .u8 x2 x1) (place x3) x4 then false
  else !pr.pk x0 x1 0 (place x3) x4 != pr.pk x0 x1 0 (place x3) x4 := by kernel_rfl
theorem walk (e : Env) (_ : argsOk e 0 shapes) : okTrue (eval Try.prog pr.G 4 (argsTV e 0 shapes)) = true := by
  refine (nf (e.n 0) (e.n 1) (e.n 2) (e.n 3) (e.b 4)).trans ?_
  simp only [bne_self_eq_false, cond_false, Bool.not_false]

theorem own : ownKnob Try.prog.godebug = none := by kernel_rfl

theorem lifted (os : Os) (started : os.Started) (H : Type) (enc : TypeId × Value → H) :
    ReturnsInHanded {} Try.checked os 4 .any (Rows.priorityPicksSpec.pre6 enc Try.prog Try.f4 Rows.priorityPicksRow.domain false) (Rows.priorityPicksSpec.post enc Try.prog Try.f4 false true false false) :=
  law_step (C := Try.checked) 5 own started (by kernel_rfl) Try.func4 (by kernel_rfl) (by kernel_rfl) rfl
    (fun ds hd => by
      match ds, hd with
      | [d0, d1, d2, d3, d4], _ => rfl)
    (ChangeSpec.witness6 (enc := enc) (C := Try.checked) false ⟨#[], #[.int .u8 0, .int .u8 0, .int .u8 0, .int .i64 0, .bool false], []⟩ 8 (by kernel_rfl) (by kernel_rfl) (by kernel_rfl) (by kernel_rfl))
    (fun W base args hv hl _ _ _ => plain_walk (P := Try.prog) (G := pr.G) pr.gok shapes (by kernel_rfl) walk W base args hv hl)

theorem over : Rows.priorityPicksRow.holds Try.pinned (OpenSpec.ofChange Rows.priorityPicksSpec) :=
  OpenClaim.holds_of_wide 4 Try.f4 rfl rfl rfl rfl rfl rfl rfl ⟨rfl, rfl, rfl, rfl, rfl⟩ rfl rfl rfl rfl rfl (by kernel_rfl) Try.func4 (by kernel_rfl)
    (of_decide_eq_true (by kernel_rfl)) (by unfold Func.isWrapper; first | (rw [if_pos (by decide +kernel)]; kernel_rfl) | (rw [if_neg (by decide +kernel)]; exact ⟨rfl, rfl⟩))
    (fun os started H enc _ => lifted os started H enc)

theorem proved : Rows.PriorityPicksSaid := over
#print axioms proved
end Go.Proofs.Ythpbolcbajfpjaa.priorityPicks
