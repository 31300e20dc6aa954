/- tstatelaw14.SerialWrites returns true for every input; no condition. -/
import Derived.Test.YtahmgbkdjonmdaaSer
namespace Go.Proofs.Ytahmgbkdjonmdaa.serialWrites
open Go Go.Sx Go.RowKit
set_option maxRecDepth 100000

def shapes : List ASh := [.agg [.int .i64, .int .u8, .int .u8, .int .u8, .int .u8, .int .u8, .int .u8, .int .u8, .bool, .bool, .bool, .bool, .bool, .bool, .bool, .int .u16, .int .u16, .bool, .bool, .bool, .int .u8, .bool, .bool, .bool, .bool, .bool, .bool, .bool], .one (.int .u8)]
theorem nf (W : World) (x0 : Int) (x1 : Int) (x2 : Int) (x3 : Int) (x4 : Int) (x5 : Int) (x6 : Int) (x7 : Int) (x8 : Bool) (x9 : Bool) (x10 : Bool) (x11 : Bool) (x12 : Bool) (x13 : Bool) (x14 : Bool) (x15 : Int) (x16 : Int) (x17 : Bool) (x18 : Bool) (x19 : Bool) (x20 : Int) (x21 : Bool) (x22 : Bool) (x23 : Bool) (x24 : Bool) (x25 : Bool) (x26 : Bool) (x27 : Bool) (x28 : Int) : okTrue (eval Try.prog W (ser.G W) 4 [.agg [.int .i64 (.sym x0), .int .u8 (.sym x1), .int .u8 (.sym x2), .int .u8 (.sym x3), .int .u8 (.sym x4), .int .u8 (.sym x5), .int .u8 (.sym x6), .int .u8 (.sym x7), .bool (.sym x8), .bool (.sym x9), .bool (.sym x10), .bool (.sym x11), .bool (.sym x12), .bool (.sym x13), .bool (.sym x14), .int .u16 (.sym x15), .int .u16 (.sym x16), .bool (.sym x17), .bool (.sym x18), .bool (.sym x19), .int .u8 (.sym x20), .bool (.sym x21), .bool (.sym x22), .bool (.sym x23), .bool (.sym x24), .bool (.sym x25), .bool (.sym x26), .bool (.sym x27)], .one (.int .u8 (.sym x28))]) =
  okTrue (some
  (TV.one
    (SV.bool
      (SB.sym
        (x0 == x0 &&
          (x1 == x1 &&
              (x2 == x2 &&
                (x3 == x3 &&
                  (x4 == x4 &&
                    (x5 == x5 &&
                      (x6 == x6 &&
                        (x7 == x7 &&
                          (x8 == x8 &&
                              (x9 == x9 &&
                                (x10 == x10 && (x11 == x11 && (x12 == x12 && (x13 == x13 && x14 == x14))))) &&
                            (x15 == x15 && x16 == x16)))))))) &&
            (x17 == x17 &&
              (x18 == x18 &&
                (x19 == x19 &&
                  (((bif bits BinOp.and IntKind.u8 x28 8 != 0 then bits BinOp.and IntKind.u8 x28 7 else x20) ==
                      bif bits BinOp.and IntKind.u8 x28 8 != 0 then bits BinOp.and IntKind.u8 x28 7 else x20) &&
                    (x21 == x21 &&
                      (((bif bits BinOp.and IntKind.u8 x28 16 != 0 then false else x22) ==
                          bif bits BinOp.and IntKind.u8 x28 16 != 0 then false else x22) &&
                        (x23 == x23 &&
                          (x24 == x24 &&
                            (x25 == x25 &&
                              (x26 == x26 &&
                                (bif bits BinOp.and IntKind.u8 x28 64 != 0 then bits BinOp.and IntKind.u8 x28 128 != 0
                                  else x27) ==
                                  bif bits BinOp.and IntKind.u8 x28 64 != 0 then bits BinOp.and IntKind.u8 x28 128 != 0
                                  else x27)))))))))))))))) := by kernel_rfl

theorem walk (W : World) (e : Env) (_ : argsOk W e 0 shapes) : okTrue (eval Try.prog W (ser.G W) 4 (argsTV e 0 shapes)) = true := by
  refine (nf W (e.n 0) (e.n 1) (e.n 2) (e.n 3) (e.n 4) (e.n 5) (e.n 6) (e.n 7) (e.b 8) (e.b 9) (e.b 10) (e.b 11) (e.b 12) (e.b 13) (e.b 14) (e.n 15) (e.n 16) (e.b 17) (e.b 18) (e.b 19) (e.n 20) (e.b 21) (e.b 22) (e.b 23) (e.b 24) (e.b 25) (e.b 26) (e.b 27) (e.n 28)).trans ?_
  simp only [beq_self_eq_true, Bool.and_self]
  rfl

theorem own : ownKnob Try.prog.godebug = none := by kernel_rfl

theorem lifted (os : Os) (started : os.Started) (H : Type) (enc : TypeId × Value → H) :
    ReturnsInHanded {} Try.checked os 4 .any (Rows.serialWritesSpec.pre6 enc Try.prog Try.f4 Rows.serialWritesRow.domain false) (Rows.serialWritesSpec.post enc Try.prog Try.f4 false true false false) :=
  law_step (C := Try.checked) 2 own started (by kernel_rfl) Try.func4 (by kernel_rfl) (by kernel_rfl) rfl
    (fun ds hd => by
      match ds, hd with
      | [d0, d1], _ => rfl)
    (ChangeSpec.witness6 (enc := enc) (C := Try.checked) false ⟨#[], #[.agg #[.int .i64 0, .int .u8 0, .int .u8 0, .int .u8 0, .int .u8 0, .int .u8 0, .int .u8 0, .int .u8 0, .bool false, .bool false, .bool false, .bool false, .bool false, .bool false, .bool false, .int .u16 0, .int .u16 0, .bool false, .bool false, .bool false, .int .u8 0, .bool false, .bool false, .bool false, .bool false, .bool false, .bool false, .bool false], .int .u8 0], []⟩ 8 (by kernel_rfl) (by kernel_rfl) (by kernel_rfl) (by kernel_rfl))
    (fun W base args hv hl _ _ htr => plain_walk (P := Try.prog) (G := fun W => ser.G W) ser.gok shapes (by kernel_rfl) walk W base args hv hl htr)

theorem over : Rows.serialWritesRow.holds Try.pinned (OpenSpec.ofChange Rows.serialWritesSpec) :=
  OpenClaim.holds_of_wide 4 Try.f4 rfl rfl rfl rfl rfl rfl rfl ⟨rfl, rfl, rfl, rfl, rfl⟩ rfl rfl rfl rfl rfl (by kernel_rfl) Try.func4 (by kernel_rfl)
    (of_decide_eq_true (by kernel_rfl)) (by unfold Func.isWrapper; first | (rw [if_pos (by decide +kernel)]; kernel_rfl) | (rw [if_neg (by decide +kernel)]; exact ⟨rfl, rfl⟩))
    (fun os started H enc _ => lifted os started H enc)

theorem proved : Rows.SerialWritesSaid := over
#print axioms proved
end Go.Proofs.Ytahmgbkdjonmdaa.serialWrites
