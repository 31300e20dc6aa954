/- tstatelaw5.RotateUndoes returns true for every input; no condition. -/
import Derived.Test.YtecngmfpciechaaRows
import Derived.Test.YtecngmfpciechaaLaw
import Derived.Test.YtecngmfpciechaaNum
namespace Go.Proofs.Ytecngmfpciechaa.rotateUndoes
open Go Go.Sx Go.RowKit

def shapes : List ASh := [.one (.int .u8), .one (.bool)]
def rhs (x0 : Int) (x1 : Bool) : Bool := okTrue (some
  (TV.one
    (SV.bool
      (SB.sym
        (bif
            bits BinOp.or IntKind.u8
                (gshr IntKind.u8 (bits BinOp.or IntKind.u8 (gshl IntKind.u8 x0 1) (gshr IntKind.u8 x0 7)) 1)
                (gshl IntKind.u8 (bits BinOp.or IntKind.u8 (gshl IntKind.u8 x0 1) (gshr IntKind.u8 x0 7)) 7) ==
              x0 then
          bif
              (bif bif x1 then decide (x0 ≥ 128) else decide (x0 ≥ 128) then
                  bits BinOp.or IntKind.u8
                    (gshr IntKind.u8
                      (bif x1 then bits BinOp.or IntKind.u8 (gshl IntKind.u8 x0 1) 1
                      else bits BinOp.or IntKind.u8 (gshl IntKind.u8 x0 1) 0)
                      1)
                    128
                else
                  bits BinOp.or IntKind.u8
                    (gshr IntKind.u8
                      (bif x1 then bits BinOp.or IntKind.u8 (gshl IntKind.u8 x0 1) 1
                      else bits BinOp.or IntKind.u8 (gshl IntKind.u8 x0 1) 0)
                      1)
                    0) ==
                x0 then
            (bif bif x1 then decide (x0 ≥ 128) else decide (x0 ≥ 128) then
                bits BinOp.and IntKind.u8
                    (bif x1 then bits BinOp.or IntKind.u8 (gshl IntKind.u8 x0 1) 1
                    else bits BinOp.or IntKind.u8 (gshl IntKind.u8 x0 1) 0)
                    1 ==
                  1
              else
                bits BinOp.and IntKind.u8
                    (bif x1 then bits BinOp.or IntKind.u8 (gshl IntKind.u8 x0 1) 1
                    else bits BinOp.or IntKind.u8 (gshl IntKind.u8 x0 1) 0)
                    1 ==
                  1) ==
              x1
          else false
        else false))))) 
theorem nf (x0 : Int) (x1 : Bool) : okTrue (eval Try.prog [] 4 [.one (.int .u8 (.sym x0)), .one (.bool (.sym x1))]) = rhs x0 x1 := by kernel_rfl
theorem walk (e : Env) (h : argsOk e 0 shapes) : okTrue (eval Try.prog [] 4 (argsTV e 0 shapes)) = true :=
  (nf (e.n 0) (e.b 1)).trans (all_u8 (p := fun x => rhs x (e.b 1)) (all_bool (p := fun b => (List.range 256).all fun i => rhs (i : Int) b) (by kernel_rfl) (e.b 1)) h.1)

theorem own : ownKnob Try.prog.godebug = none := by kernel_rfl

set_option maxRecDepth 100000 in
theorem lifted (os : Os) (started : os.Started) (H : Type) (enc : TypeId × Value → H) :
    ReturnsInHanded {} Try.checked os 4 .any (Rows.rotateUndoesSpec.pre6 enc Try.prog Try.f4 Rows.rotateUndoesRow.domain false) (Rows.rotateUndoesSpec.post enc Try.prog Try.f4 false true false false) :=
  law_step (C := Try.checked) 2 own started (by kernel_rfl) Try.func4 (by kernel_rfl) (by kernel_rfl) rfl
    (fun ds hd => by
      match ds, hd with
      | [d0, d1], _ => rfl)
    (ChangeSpec.witness6 (enc := enc) (C := Try.checked) false ⟨#[], #[.int .u8 0, .bool false], []⟩ 8 (by kernel_rfl) (by kernel_rfl) (by kernel_rfl) (by kernel_rfl))
    (fun W base args hv hl _ _ _ => plain_walk (P := Try.prog) (G := []) gok_nil shapes (by kernel_rfl) walk W base args hv hl)

theorem over : Rows.rotateUndoesRow.holds Try.pinned (OpenSpec.ofChange Rows.rotateUndoesSpec) :=
  OpenClaim.holds_of_wide 4 Try.f4 rfl rfl rfl rfl rfl rfl rfl ⟨rfl, rfl, rfl, rfl, rfl⟩ rfl rfl rfl rfl rfl (by kernel_rfl) Try.func4 (by kernel_rfl)
    (of_decide_eq_true (by kernel_rfl)) (by unfold Func.isWrapper; first | (rw [if_pos (by decide +kernel)]; kernel_rfl) | (rw [if_neg (by decide +kernel)]; exact ⟨rfl, rfl⟩))
    (fun os started H enc _ => lifted os started H enc)

theorem proved : Rows.RotateUndoesSaid := over
#print axioms proved
end Go.Proofs.Ytecngmfpciechaa.rotateUndoes

