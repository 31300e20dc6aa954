/- tstatelaw5.RotateBytes returns true for every input; no condition. -/
import Derived.Test.YtecngmfpciechaaRows
import Derived.Test.YtecngmfpciechaaLaw
import Derived.Test.YtecngmfpciechaaNum
namespace Go.Proofs.Ytecngmfpciechaa.rotateBytes
open Go Go.Sx Go.RowKit

def shapes : List ASh := [.one (.int .i64), .one (.int .u8), .one (.bool)]
theorem and_three (x : Int) : bits .and .i64 x 3 = 0 ∨ bits .and .i64 x 3 = 1 ∨ bits .and .i64 x 3 = 2 ∨ bits .and .i64 x 3 = 3 := by
  have h : bits .and .i64 x 3 = x % 4 := and_mask .i64 2 (by decide) x
  omega
theorem nf (x0 x1 : Int) (x2 : Bool) : okTrue (eval Try.prog [] 3 [.one (.int .i64 (.sym x0)), .one (.int .u8 (.sym x1)), .one (.bool (.sym x2))]) =
  okTrue (bif
    bif decide (bits BinOp.and IntKind.i64 x0 3 = 0) then true
    else
      bif decide (bits BinOp.and IntKind.i64 x0 3 = 1) then true
      else
        bif decide (bits BinOp.and IntKind.i64 x0 3 = 2) then true
        else decide (bits BinOp.and IntKind.i64 x0 3 = 3) then
  some
    (TV.one
      (SV.bool
        (SB.sym
          (bif
              (bif decide (bits BinOp.and IntKind.i64 x0 3 = 0) then
                  bits BinOp.or IntKind.u8 (gshl IntKind.u8 x1 1) (gshr IntKind.u8 x1 7)
                else
                  bif decide (bits BinOp.and IntKind.i64 x0 3 = 1) then
                    bits BinOp.or IntKind.u8 (gshr IntKind.u8 x1 1) (gshl IntKind.u8 x1 7)
                  else
                    bif decide (bits BinOp.and IntKind.i64 x0 3 = 2) then
                      bif x2 then bits BinOp.or IntKind.u8 (gshl IntKind.u8 x1 1) 1
                      else bits BinOp.or IntKind.u8 (gshl IntKind.u8 x1 1) 0
                    else
                      bif x2 then bits BinOp.or IntKind.u8 (gshr IntKind.u8 x1 1) 128
                      else bits BinOp.or IntKind.u8 (gshr IntKind.u8 x1 1) 0) ==
                bif bits BinOp.and IntKind.i64 x0 3 == 0 then
                  bits BinOp.or IntKind.u8 (gshl IntKind.u8 x1 1) (gshr IntKind.u8 x1 7)
                else
                  bif bits BinOp.and IntKind.i64 x0 3 == 1 then
                    bits BinOp.or IntKind.u8 (gshr IntKind.u8 x1 1) (gshl IntKind.u8 x1 7)
                  else
                    bif bits BinOp.and IntKind.i64 x0 3 == 2 then
                      bits BinOp.or IntKind.u8 (gshl IntKind.u8 x1 1) (bif x2 then 1 else 0)
                    else bits BinOp.or IntKind.u8 (gshr IntKind.u8 x1 1) (bif x2 then 128 else 0) then
            (bif decide (bits BinOp.and IntKind.i64 x0 3 = 0) then decide (x1 ≥ 128)
              else
                bif decide (bits BinOp.and IntKind.i64 x0 3 = 1) then bits BinOp.and IntKind.u8 x1 1 == 1
                else
                  bif decide (bits BinOp.and IntKind.i64 x0 3 = 2) then
                    bif x2 then decide (x1 ≥ 128) else decide (x1 ≥ 128)
                  else bif x2 then bits BinOp.and IntKind.u8 x1 1 == 1 else bits BinOp.and IntKind.u8 x1 1 == 1) ==
              bif bits BinOp.and IntKind.i64 x0 3 == 0 then decide (x1 ≥ 128)
              else
                bif bits BinOp.and IntKind.i64 x0 3 == 1 then bits BinOp.and IntKind.u8 x1 1 == 1
                else
                  bif bits BinOp.and IntKind.i64 x0 3 == 2 then decide (x1 ≥ 128)
                  else bits BinOp.and IntKind.u8 x1 1 == 1
          else false))))
else none) := by kernel_rfl

theorem plain (x0 x1 : Int) (x2 : Bool) : okTrue (eval Try.prog [] 3 [.one (.int .i64 (.sym x0)), .one (.int .u8 (.sym x1)), .one (.bool (.sym x2))]) = true := by
  rw [nf]
  rcases and_three x0 with h | h | h | h <;> rw [h] <;> cases x2 <;> simp [okTrue, SB.val]
theorem walk (e : Env) (_ : argsOk e 0 shapes) : okTrue (eval Try.prog [] 3 (argsTV e 0 shapes)) = true := plain (e.n 0) (e.n 1) (e.b 2)

theorem own : ownKnob Try.prog.godebug = none := by kernel_rfl

set_option maxRecDepth 100000 in
theorem lifted (os : Os) (started : os.Started) (H : Type) (enc : TypeId × Value → H) :
    ReturnsInHanded {} Try.checked os 3 .any (Rows.rotateBytesSpec.pre6 enc Try.prog Try.f3 Rows.rotateBytesRow.domain false) (Rows.rotateBytesSpec.post enc Try.prog Try.f3 false true false false) :=
  law_step (C := Try.checked) 3 own started (by kernel_rfl) Try.func3 (by kernel_rfl) (by kernel_rfl) rfl
    (fun ds hd => by
      match ds, hd with
      | [d0, d1, d2], _ => rfl)
    (ChangeSpec.witness6 (enc := enc) (C := Try.checked) false ⟨#[], #[.int .i64 0, .int .u8 0, .bool false], []⟩ 8 (by kernel_rfl) (by kernel_rfl) (by kernel_rfl) (by kernel_rfl))
    (fun W base args hv hl _ _ _ => plain_walk (P := Try.prog) (G := []) gok_nil shapes (by kernel_rfl) walk W base args hv hl)

theorem over : Rows.rotateBytesRow.holds Try.pinned (OpenSpec.ofChange Rows.rotateBytesSpec) :=
  OpenClaim.holds_of_wide 3 Try.f3 rfl rfl rfl rfl rfl rfl rfl ⟨rfl, rfl, rfl, rfl, rfl⟩ rfl rfl rfl rfl rfl (by kernel_rfl) Try.func3 (by kernel_rfl)
    (of_decide_eq_true (by kernel_rfl)) (by unfold Func.isWrapper; first | (rw [if_pos (by decide +kernel)]; kernel_rfl) | (rw [if_neg (by decide +kernel)]; exact ⟨rfl, rfl⟩))
    (fun os started H enc _ => lifted os started H enc)

theorem proved : Rows.RotateBytesSaid := over
#print axioms proved
end Go.Proofs.Ytecngmfpciechaa.rotateBytes

