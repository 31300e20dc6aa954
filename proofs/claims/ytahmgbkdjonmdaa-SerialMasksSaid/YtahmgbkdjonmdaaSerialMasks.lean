/- tstatelaw14.SerialMasks returns true for every input; no condition. -/
import Derived.Test.YtahmgbkdjonmdaaSer
namespace Go.Proofs.Ytahmgbkdjonmdaa.serialMasks
open Go Go.Sx Go.RowKit
set_option maxRecDepth 100000

def shapes : List ASh := [.agg [.int .i64, .int .u8, .int .u8, .int .u8, .int .u8, .int .u8, .int .u8, .int .u8, .bool, .bool, .bool, .bool, .bool, .bool, .bool, .int .u16, .int .u16, .bool, .bool, .bool, .int .u8, .bool, .bool, .bool, .bool, .bool, .bool, .bool], .one (.int .u8), .agg [.bool, .bool, .bool, .bool, .bool, .bool, .bool, .bool, .bool]]
theorem nf (W : World) (x0 : Int) (x1 : Int) (x2 : Int) (x3 : Int) (x4 : Int) (x5 : Int) (x6 : Int) (x7 : Int) (x8 : Bool) (x9 : Bool) (x10 : Bool) (x11 : Bool) (x12 : Bool) (x13 : Bool) (x14 : Bool) (x15 : Int) (x16 : Int) (x17 : Bool) (x18 : Bool) (x19 : Bool) (x20 : Int) (x21 : Bool) (x22 : Bool) (x23 : Bool) (x24 : Bool) (x25 : Bool) (x26 : Bool) (x27 : Bool) (x28 : Int) (x29 : Bool) (x30 : Bool) (x31 : Bool) (x32 : Bool) (x33 : Bool) (x34 : Bool) (x35 : Bool) (x36 : Bool) (x37 : Bool) : okTrue (eval Try.prog W (ser.G W) 5 [.agg [.int .i64 (.sym x0), .int .u8 (.sym x1), .int .u8 (.sym x2), .int .u8 (.sym x3), .int .u8 (.sym x4), .int .u8 (.sym x5), .int .u8 (.sym x6), .int .u8 (.sym x7), .bool (.sym x8), .bool (.sym x9), .bool (.sym x10), .bool (.sym x11), .bool (.sym x12), .bool (.sym x13), .bool (.sym x14), .int .u16 (.sym x15), .int .u16 (.sym x16), .bool (.sym x17), .bool (.sym x18), .bool (.sym x19), .int .u8 (.sym x20), .bool (.sym x21), .bool (.sym x22), .bool (.sym x23), .bool (.sym x24), .bool (.sym x25), .bool (.sym x26), .bool (.sym x27)], .one (.int .u8 (.sym x28)), .agg [.bool (.sym x29), .bool (.sym x30), .bool (.sym x31), .bool (.sym x32), .bool (.sym x33), .bool (.sym x34), .bool (.sym x35), .bool (.sym x36), .bool (.sym x37)]]) =
  okTrue (some
  (TV.one
    (SV.bool
      (SB.sym
        (bif
            bits BinOp.and IntKind.u8
                (bits BinOp.or IntKind.u8
                  (bits BinOp.or IntKind.u8
                    (bits BinOp.or IntKind.u8
                      (bits BinOp.or IntKind.u8
                        (bits BinOp.or IntKind.u8 (ser.bt x32 7)
                          (ser.bt
                            (bif bits BinOp.and IntKind.u8 (bits BinOp.or IntKind.u8 x28 8) 16 != 0 then false else x22)
                            6))
                        (ser.bt x35 5))
                      (ser.bt x36 4))
                    (ser.bt (bif x25 then x26 else x17) 3))
                  (bits BinOp.and IntKind.u8
                    (bif bits BinOp.and IntKind.u8 (bits BinOp.or IntKind.u8 x28 8) 8 != 0 then
                      bits BinOp.and IntKind.u8 (bits BinOp.or IntKind.u8 x28 8) 7
                    else bits BinOp.and IntKind.u8 x20 7)
                    7))
                7 ==
              bits BinOp.and IntKind.u8 x28 7 then
          bif
              bits BinOp.and IntKind.u8
                  (bits BinOp.or IntKind.u8
                    (bits BinOp.or IntKind.u8
                      (bits BinOp.or IntKind.u8
                        (bits BinOp.or IntKind.u8 (bits BinOp.or IntKind.u8 (ser.bt x32 7) (ser.bt x22 6))
                          (ser.bt x35 5))
                        (ser.bt x36 4))
                      (ser.bt (bif x25 then x26 else x17) 3))
                    (bits BinOp.and IntKind.u8 (bits BinOp.and IntKind.u8 x20 7) 7))
                  7 ==
                bits BinOp.and IntKind.u8 x20 7 then
            x0 == x0 &&
              (x1 == x1 &&
                  (x2 == x2 &&
                    (x3 == x3 &&
                      (x4 == x4 &&
                        (x5 == x5 &&
                          (x6 == x6 &&
                            (x7 == x7 &&
                              (x8 == x8 &&
                                  (x9 == x9 &&
                                    (x10 == x10 && (x11 == x11 && (x12 == x12 && (x13 == x13 && x14 == x14))))) &&
                                (x15 == x15 && x16 == x16)))))))) &&
                (x17 == x17 &&
                  (x18 == x18 &&
                    (x19 == x19 &&
                      ((bif bits BinOp.and IntKind.u8 (bits BinOp.andNot IntKind.u8 x28 88) 8 != 0 then
                            bits BinOp.and IntKind.u8 (bits BinOp.andNot IntKind.u8 x28 88) 7
                          else bits BinOp.and IntKind.u8 x20 7) ==
                          bits BinOp.and IntKind.u8 x20 7 &&
                        (x21 == x21 &&
                          ((bif bits BinOp.and IntKind.u8 (bits BinOp.andNot IntKind.u8 x28 88) 16 != 0 then false
                              else x22) ==
                              x22 &&
                            (x23 == x23 &&
                              (x24 == x24 &&
                                (x25 == x25 &&
                                  (x26 == x26 &&
                                    (bif bits BinOp.and IntKind.u8 (bits BinOp.andNot IntKind.u8 x28 88) 64 != 0 then
                                        bits BinOp.and IntKind.u8 (bits BinOp.andNot IntKind.u8 x28 88) 128 != 0
                                      else x27) ==
                                      x27)))))))))))
          else false
        else false))))) := by kernel_rfl

def ck (a : Int) : Bool := (bits .and .u8 (bits .or .u8 a 8) 8 != 0) && (bits .and .u8 (bits .or .u8 a 8) 7 == bits .and .u8 a 7) && !(bits .and .u8 (bits .andNot .u8 a 88) 8 != 0) && !(bits .and .u8 (bits .andNot .u8 a 88) 16 != 0) && !(bits .and .u8 (bits .andNot .u8 a 88) 64 != 0)
theorem ck_all : (List.range 256).all (fun i => ck (i : Int)) = true := by kernel_rfl
theorem walk (W : World) (e : Env) (h : argsOk W e 0 shapes) : okTrue (eval Try.prog W (ser.G W) 5 (argsTV e 0 shapes)) = true := by
  have hc : ck (e.n 28) = true := all_u8 (p := ck) ck_all h.2.1
  simp only [ck, Bool.and_eq_true, Bool.not_eq_true', beq_iff_eq] at hc
  obtain ⟨⟨⟨⟨h1, h2⟩, h3⟩, h4⟩, h5⟩ := hc
  refine (nf W (e.n 0) (e.n 1) (e.n 2) (e.n 3) (e.n 4) (e.n 5) (e.n 6) (e.n 7) (e.b 8) (e.b 9) (e.b 10) (e.b 11) (e.b 12) (e.b 13) (e.b 14) (e.n 15) (e.n 16) (e.b 17) (e.b 18) (e.b 19) (e.n 20) (e.b 21) (e.b 22) (e.b 23) (e.b 24) (e.b 25) (e.b 26) (e.b 27) (e.n 28) (e.b 29) (e.b 30) (e.b 31) (e.b 32) (e.b 33) (e.b 34) (e.b 35) (e.b 36) (e.b 37)).trans ?_
  simp only [h1, h2, h3, h4, h5, ser.rim7, ser.and7_idem, beq_self_eq_true, Bool.and_self, cond_true, cond_false]
  rfl

theorem own : ownKnob Try.prog.godebug = none := by kernel_rfl

theorem lifted (os : Os) (started : os.Started) (H : Type) (enc : TypeId × Value → H) :
    ReturnsInHanded {} Try.checked os 5 .any (Rows.serialMasksSpec.pre6 enc Try.prog Try.f5 Rows.serialMasksRow.domain false) (Rows.serialMasksSpec.post enc Try.prog Try.f5 false true false false) :=
  law_step (C := Try.checked) 3 own started (by kernel_rfl) Try.func5 (by kernel_rfl) (by kernel_rfl) rfl
    (fun ds hd => by
      match ds, hd with
      | [d0, d1, d2], _ => rfl)
    (ChangeSpec.witness6 (enc := enc) (C := Try.checked) false ⟨#[], #[.agg #[.int .i64 0, .int .u8 0, .int .u8 0, .int .u8 0, .int .u8 0, .int .u8 0, .int .u8 0, .int .u8 0, .bool false, .bool false, .bool false, .bool false, .bool false, .bool false, .bool false, .int .u16 0, .int .u16 0, .bool false, .bool false, .bool false, .int .u8 0, .bool false, .bool false, .bool false, .bool false, .bool false, .bool false, .bool false], .int .u8 0, .agg #[.bool false, .bool false, .bool false, .bool false, .bool false, .bool false, .bool false, .bool false, .bool false]], []⟩ 8 (by kernel_rfl) (by kernel_rfl) (by kernel_rfl) (by kernel_rfl))
    (fun W base args hv hl _ _ htr => plain_walk (P := Try.prog) (G := fun W => ser.G W) ser.gok shapes (by kernel_rfl) walk W base args hv hl htr)

theorem over : Rows.serialMasksRow.holds Try.pinned (OpenSpec.ofChange Rows.serialMasksSpec) :=
  OpenClaim.holds_of_wide 5 Try.f5 rfl rfl rfl rfl rfl rfl rfl ⟨rfl, rfl, rfl, rfl, rfl⟩ rfl rfl rfl rfl rfl (by kernel_rfl) Try.func5 (by kernel_rfl)
    (of_decide_eq_true (by kernel_rfl)) (by unfold Func.isWrapper; first | (rw [if_pos (by decide +kernel)]; kernel_rfl) | (rw [if_neg (by decide +kernel)]; exact ⟨rfl, rfl⟩))
    (fun os started H enc _ => lifted os started H enc)

theorem proved : Rows.SerialMasksSaid := over
#print axioms proved
end Go.Proofs.Ytahmgbkdjonmdaa.serialMasks
