/- tstatelaw10.CondHolds returns true for every input; no condition. -/
import Derived.Test.YtmpfdmgmacfocaaCond
namespace Go.Proofs.Ytmpfdmgmacfocaa.condHolds
open Go Go.Sx Go.RowKit
set_option maxRecDepth 100000

def shapes : List ASh := [.one (.int .i64), .agg [.bool, .bool, .bool, .bool, .bool, .bool, .bool]]

theorem nf (x0 : Int) (x1 x2 x3 x4 x5 x6 x7 : Bool) : okTrue (eval Try.prog cnd.G 3 [.one (.int .i64 (.sym x0)), .agg [.bool (.sym x1), .bool (.sym x2), .bool (.sym x3), .bool (.sym x4), .bool (.sym x5), .bool (.sym x6), .bool (.sym x7)]]) =
  okTrue (bif cnd.hd x0 x1 x2 x3 x5 x6 x7 == cnd.hd x0 x1 x2 x3 x5 x6 x7 then
  bif cnd.hd x0 x1 x2 x3 x5 x6 x7 == cnd.hd x0 x1 x2 x3 x5 x6 x7 then
    bif
        cnd.hd (gsub IntKind.i64 (IntKind.i64.wrap ((IntKind.u64.wrap x0).tmod 14)) 1) x1 x2 x3 x5 x6 x7 ==
          cnd.hd (gsub IntKind.i64 (IntKind.i64.wrap ((IntKind.u64.wrap x0).tmod 14)) 1) x1 x2 x3 x5 x6 x7 then
      some
        (TV.one
          (SV.bool
            (SB.sym
              (cnd.hd (gsub IntKind.i64 (IntKind.i64.wrap ((IntKind.u64.wrap x0).tmod 14)) 1) x1 x2 x3 x5 x6 x7 ==
                cnd.hd (gsub IntKind.i64 (IntKind.i64.wrap ((IntKind.u64.wrap x0).tmod 14)) 1) x1 x2 x3 x5 x6 x7))))
    else
      bif
          cnd.hd (gsub IntKind.i64 (IntKind.i64.wrap ((IntKind.u64.wrap x0).tmod 14)) 1) x1 x2 x3 x5 x6 x7 ==
            cnd.hd (gsub IntKind.i64 (IntKind.i64.wrap ((IntKind.u64.wrap x0).tmod 14)) 1) x1 x2 x3 x5 x6 x7 then
        none
      else some (TV.one (SV.bool (SB.lit false)))
  else some (TV.one (SV.bool (SB.lit false)))
else
  bif cnd.hd x0 x1 x2 x3 x5 x6 x7 == cnd.hd x0 x1 x2 x3 x5 x6 x7 then none else some (TV.one (SV.bool (SB.lit false)))) := by kernel_rfl
theorem walk (e : Env) (_ : argsOk e 0 shapes) : okTrue (eval Try.prog cnd.G 3 (argsTV e 0 shapes)) = true := by
  refine (nf (e.n 0) (e.b 1) (e.b 2) (e.b 3) (e.b 4) (e.b 5) (e.b 6) (e.b 7)).trans ?_
  simp only [beq_self_eq_true, cond_true]
  rfl

theorem own : ownKnob Try.prog.godebug = none := by kernel_rfl

theorem lifted (os : Os) (started : os.Started) (H : Type) (enc : TypeId × Value → H) :
    ReturnsInHanded {} Try.checked os 3 .any (Rows.condHoldsSpec.pre6 enc Try.prog Try.f3 Rows.condHoldsRow.domain false) (Rows.condHoldsSpec.post enc Try.prog Try.f3 false true false false) :=
  law_step (C := Try.checked) 2 own started (by kernel_rfl) Try.func3 (by kernel_rfl) (by kernel_rfl) rfl
    (fun ds hd => by
      match ds, hd with
      | [d0, d1], _ => rfl)
    (ChangeSpec.witness6 (enc := enc) (C := Try.checked) false ⟨#[], #[.int .i64 0, .agg #[.bool false, .bool false, .bool false, .bool false, .bool false, .bool false, .bool false]], []⟩ 8 (by kernel_rfl) (by kernel_rfl) (by kernel_rfl) (by kernel_rfl))
    (fun W base args hv hl _ _ _ => plain_walk (P := Try.prog) (G := cnd.G) cnd.gok shapes (by kernel_rfl) walk W base args hv hl)

theorem over : Rows.condHoldsRow.holds Try.pinned (OpenSpec.ofChange Rows.condHoldsSpec) :=
  OpenClaim.holds_of_wide 3 Try.f3 rfl rfl rfl rfl rfl rfl rfl ⟨rfl, rfl, rfl, rfl, rfl⟩ rfl rfl rfl rfl rfl (by kernel_rfl) Try.func3 (by kernel_rfl)
    (of_decide_eq_true (by kernel_rfl)) (by unfold Func.isWrapper; first | (rw [if_pos (by decide +kernel)]; kernel_rfl) | (rw [if_neg (by decide +kernel)]; exact ⟨rfl, rfl⟩))
    (fun os started H enc _ => lifted os started H enc)

theorem proved : Rows.CondHoldsSaid := over
#print axioms proved
end Go.Proofs.Ytmpfdmgmacfocaa.condHolds
