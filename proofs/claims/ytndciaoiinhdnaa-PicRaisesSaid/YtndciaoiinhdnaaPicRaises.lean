/- tstatelaw22.PicRaises returns true for every input; no condition. -/
import Derived.Test.YtndciaoiinhdnaaPic
namespace Go.Proofs.Ytndciaoiinhdnaa.picRaises
open Go Go.Sx Go.RowKit
set_option maxRecDepth 100000

def shapes : List ASh := [.agg [.int .i64, .bool, .bool, .bool, .bool, .int .u8, .int .u8, .bool, .bool, .bool, .bool, .bool, .int .u8, .int .u8, .int .u8, .int .u8, .int .i64, .int .i64, .int .i64, .bool], .one (.int .u8), .ints .i64]
theorem nf (W : World) (x0 : Int) (x1 : Bool) (x2 : Bool) (x3 : Bool) (x4 : Bool) (x5 : Int) (x6 : Int) (x7 : Bool) (x8 : Bool) (x9 : Bool) (x10 : Bool) (x11 : Bool) (x12 : Int) (x13 : Int) (x14 : Int) (x15 : Int) (x16 : Int) (x17 : Int) (x18 : Int) (x19 : Bool) (x20 : Int) (a21 : Option Addr) (n21 : Nat) (c21 : Nat) : okTrue (eval Try.prog W (pc.G W) 6 [.agg [.int .i64 (.sym x0), .bool (.sym x1), .bool (.sym x2), .bool (.sym x3), .bool (.sym x4), .int .u8 (.sym x5), .int .u8 (.sym x6), .bool (.sym x7), .bool (.sym x8), .bool (.sym x9), .bool (.sym x10), .bool (.sym x11), .int .u8 (.sym x12), .int .u8 (.sym x13), .int .u8 (.sym x14), .int .u8 (.sym x15), .int .i64 (.sym x16), .int .i64 (.sym x17), .int .i64 (.sym x18), .bool (.sym x19)], .one (.int .u8 (.sym x20)), .one (.sl a21 n21 c21)]) =
  okTrue (bif
    bif decide ((n21 : Int) > 80) then true
    else
      bif
          bif
              !(x0 == x0 &&
                  (x1 == x1 &&
                    (x2 == x2 &&
                      (x3 == x3 &&
                        (x4 == x4 &&
                          (x5 == x5 &&
                            (x6 == x6 &&
                              (x7 == x7 &&
                                (x8 == x8 &&
                                  (x9 == x9 &&
                                    (x10 == x10 &&
                                      (x11 == x11 &&
                                        (x20 == x20 &&
                                          (bits BinOp.and IntKind.u8
                                                (bits BinOp.or IntKind.u8 x13 (bits BinOp.andNot IntKind.u8 x20 x12))
                                                x20 ==
                                              bits BinOp.and IntKind.u8
                                                (bits BinOp.or IntKind.u8 x13 (bits BinOp.andNot IntKind.u8 x20 x12))
                                                x20 &&
                                            (x14 == x14 &&
                                              (x15 == x15 &&
                                                (x16 == x16 &&
                                                  (x17 == x17 && (x18 == x18 && x19 == x19))))))))))))))))))) then
            true
          else
            bif (bif x1 then x12 else x13) != bif x1 then x12 else x13 then true
            else
              !decide (pr.pk (bif x1 then x12 else x13) x15 x14 x16 x9 ≥ 0) ==
                  decide (pr.pk (bif x1 then x12 else x13) x15 x14 x16 x9 ≥ 0) then
        mk.okRow W a21 n21 c21
      else
        bif
            bif
                !(mk.pI W a21 n21 c21 0 == mk.pI W a21 n21 c21 0 &&
                    (mk.pB W a21 n21 c21 1 == mk.pB W a21 n21 c21 1 &&
                      (mk.pB W a21 n21 c21 2 == mk.pB W a21 n21 c21 2 &&
                        (mk.pB W a21 n21 c21 3 == mk.pB W a21 n21 c21 3 &&
                          (mk.pB W a21 n21 c21 4 == mk.pB W a21 n21 c21 4 &&
                            (mk.pI W a21 n21 c21 5 == mk.pI W a21 n21 c21 5 &&
                              (mk.pI W a21 n21 c21 6 == mk.pI W a21 n21 c21 6 &&
                                (mk.pB W a21 n21 c21 7 == mk.pB W a21 n21 c21 7 &&
                                  (mk.pB W a21 n21 c21 8 == mk.pB W a21 n21 c21 8 &&
                                    (mk.pB W a21 n21 c21 9 == mk.pB W a21 n21 c21 9 &&
                                      (mk.pB W a21 n21 c21 10 == mk.pB W a21 n21 c21 10 &&
                                        (mk.pB W a21 n21 c21 11 == mk.pB W a21 n21 c21 11 &&
                                          (x20 == x20 &&
                                            (bits BinOp.and IntKind.u8
                                                  (bits BinOp.or IntKind.u8 (mk.pI W a21 n21 c21 13)
                                                    (bits BinOp.andNot IntKind.u8 x20 (mk.pI W a21 n21 c21 12)))
                                                  x20 ==
                                                bits BinOp.and IntKind.u8
                                                  (bits BinOp.or IntKind.u8 (mk.pI W a21 n21 c21 13)
                                                    (bits BinOp.andNot IntKind.u8 x20 (mk.pI W a21 n21 c21 12)))
                                                  x20 &&
                                              (mk.pI W a21 n21 c21 14 == mk.pI W a21 n21 c21 14 &&
                                                (mk.pI W a21 n21 c21 15 == mk.pI W a21 n21 c21 15 &&
                                                  (mk.pI W a21 n21 c21 16 == mk.pI W a21 n21 c21 16 &&
                                                    (mk.pI W a21 n21 c21 17 == mk.pI W a21 n21 c21 17 &&
                                                      (mk.pI W a21 n21 c21 18 == mk.pI W a21 n21 c21 18 &&
                                                        mk.pB W a21 n21 c21 19 ==
                                                          mk.pB W a21 n21 c21 19))))))))))))))))))) then
              true
            else
              bif
                  (bif mk.pB W a21 n21 c21 1 then mk.pI W a21 n21 c21 12 else mk.pI W a21 n21 c21 13) !=
                    bif mk.pB W a21 n21 c21 1 then mk.pI W a21 n21 c21 12 else mk.pI W a21 n21 c21 13 then
                true
              else
                !decide
                      (pr.pk (bif mk.pB W a21 n21 c21 1 then mk.pI W a21 n21 c21 12 else mk.pI W a21 n21 c21 13)
                          (mk.pI W a21 n21 c21 15) (mk.pI W a21 n21 c21 14) (mk.pI W a21 n21 c21 16)
                          (mk.pB W a21 n21 c21 9) ≥
                        0) ==
                    decide
                      (pr.pk (bif mk.pB W a21 n21 c21 1 then mk.pI W a21 n21 c21 12 else mk.pI W a21 n21 c21 13)
                          (mk.pI W a21 n21 c21 15) (mk.pI W a21 n21 c21 14) (mk.pI W a21 n21 c21 16)
                          (mk.pB W a21 n21 c21 9) ≥
                        0) then
          mk.okRow W a21 n21 c21
        else mk.okRow W a21 n21 c21 then
  some
    (TV.one
      (SV.bool
        (SB.sym
          (bif decide ((n21 : Int) > 80) then true
          else
            bif
                bif
                    !(x0 == x0 &&
                        (x1 == x1 &&
                          (x2 == x2 &&
                            (x3 == x3 &&
                              (x4 == x4 &&
                                (x5 == x5 &&
                                  (x6 == x6 &&
                                    (x7 == x7 &&
                                      (x8 == x8 &&
                                        (x9 == x9 &&
                                          (x10 == x10 &&
                                            (x11 == x11 &&
                                              (x20 == x20 &&
                                                (bits BinOp.and IntKind.u8
                                                      (bits BinOp.or IntKind.u8 x13
                                                        (bits BinOp.andNot IntKind.u8 x20 x12))
                                                      x20 ==
                                                    bits BinOp.and IntKind.u8
                                                      (bits BinOp.or IntKind.u8 x13
                                                        (bits BinOp.andNot IntKind.u8 x20 x12))
                                                      x20 &&
                                                  (x14 == x14 &&
                                                    (x15 == x15 &&
                                                      (x16 == x16 &&
                                                        (x17 == x17 && (x18 == x18 && x19 == x19))))))))))))))))))) then
                  true
                else
                  bif (bif x1 then x12 else x13) != bif x1 then x12 else x13 then true
                  else
                    !decide (pr.pk (bif x1 then x12 else x13) x15 x14 x16 x9 ≥ 0) ==
                        decide (pr.pk (bif x1 then x12 else x13) x15 x14 x16 x9 ≥ 0) then
              false
            else
              !bif
                    !(mk.pI W a21 n21 c21 0 == mk.pI W a21 n21 c21 0 &&
                        (mk.pB W a21 n21 c21 1 == mk.pB W a21 n21 c21 1 &&
                          (mk.pB W a21 n21 c21 2 == mk.pB W a21 n21 c21 2 &&
                            (mk.pB W a21 n21 c21 3 == mk.pB W a21 n21 c21 3 &&
                              (mk.pB W a21 n21 c21 4 == mk.pB W a21 n21 c21 4 &&
                                (mk.pI W a21 n21 c21 5 == mk.pI W a21 n21 c21 5 &&
                                  (mk.pI W a21 n21 c21 6 == mk.pI W a21 n21 c21 6 &&
                                    (mk.pB W a21 n21 c21 7 == mk.pB W a21 n21 c21 7 &&
                                      (mk.pB W a21 n21 c21 8 == mk.pB W a21 n21 c21 8 &&
                                        (mk.pB W a21 n21 c21 9 == mk.pB W a21 n21 c21 9 &&
                                          (mk.pB W a21 n21 c21 10 == mk.pB W a21 n21 c21 10 &&
                                            (mk.pB W a21 n21 c21 11 == mk.pB W a21 n21 c21 11 &&
                                              (x20 == x20 &&
                                                (bits BinOp.and IntKind.u8
                                                      (bits BinOp.or IntKind.u8 (mk.pI W a21 n21 c21 13)
                                                        (bits BinOp.andNot IntKind.u8 x20 (mk.pI W a21 n21 c21 12)))
                                                      x20 ==
                                                    bits BinOp.and IntKind.u8
                                                      (bits BinOp.or IntKind.u8 (mk.pI W a21 n21 c21 13)
                                                        (bits BinOp.andNot IntKind.u8 x20 (mk.pI W a21 n21 c21 12)))
                                                      x20 &&
                                                  (mk.pI W a21 n21 c21 14 == mk.pI W a21 n21 c21 14 &&
                                                    (mk.pI W a21 n21 c21 15 == mk.pI W a21 n21 c21 15 &&
                                                      (mk.pI W a21 n21 c21 16 == mk.pI W a21 n21 c21 16 &&
                                                        (mk.pI W a21 n21 c21 17 == mk.pI W a21 n21 c21 17 &&
                                                          (mk.pI W a21 n21 c21 18 == mk.pI W a21 n21 c21 18 &&
                                                            mk.pB W a21 n21 c21 19 ==
                                                              mk.pB W a21 n21 c21 19))))))))))))))))))) then
                  true
                else
                  bif
                      (bif mk.pB W a21 n21 c21 1 then mk.pI W a21 n21 c21 12 else mk.pI W a21 n21 c21 13) !=
                        bif mk.pB W a21 n21 c21 1 then mk.pI W a21 n21 c21 12 else mk.pI W a21 n21 c21 13 then
                    true
                  else
                    !decide
                          (pr.pk (bif mk.pB W a21 n21 c21 1 then mk.pI W a21 n21 c21 12 else mk.pI W a21 n21 c21 13)
                              (mk.pI W a21 n21 c21 15) (mk.pI W a21 n21 c21 14) (mk.pI W a21 n21 c21 16)
                              (mk.pB W a21 n21 c21 9) ≥
                            0) ==
                        decide
                          (pr.pk (bif mk.pB W a21 n21 c21 1 then mk.pI W a21 n21 c21 12 else mk.pI W a21 n21 c21 13)
                              (mk.pI W a21 n21 c21 15) (mk.pI W a21 n21 c21 14) (mk.pI W a21 n21 c21 16)
                              (mk.pB W a21 n21 c21 9) ≥
                            0)))))
else none) := by kernel_rfl

theorem walk (W : World) (e : Env) (h : argsOk W e 0 shapes) : okTrue (eval Try.prog W (pc.G W) 6 (argsTV e 0 shapes)) = true := by
  have hr : mk.okRow W (e.a 21) (e.len 21) (e.cap 21) = true := mk.okRow_of h.2.2.1
  refine (nf W (e.n 0) (e.b 1) (e.b 2) (e.b 3) (e.b 4) (e.n 5) (e.n 6) (e.b 7) (e.b 8) (e.b 9) (e.b 10) (e.b 11) (e.n 12) (e.n 13) (e.n 14) (e.n 15) (e.n 16) (e.n 17) (e.n 18) (e.b 19) (e.n 20) (e.a 21) (e.len 21) (e.cap 21)).trans ?_
  simp only [hr, beq_self_eq_true, bne_self_eq_false, Bool.and_self, Bool.and_true, Bool.true_and, cond_true, cond_false, Bool.cond_self, Bool.not_true, Bool.not_false]
  rfl

theorem own : ownKnob Try.prog.godebug = none := by kernel_rfl

theorem lifted (os : Os) (started : os.Started) (H : Type) (enc : TypeId × Value → H) :
    ReturnsInHanded {} Try.checked os 6 .any (Rows.picRaisesSpec.pre6 enc Try.prog Try.f6 Rows.picRaisesRow.domain false) (Rows.picRaisesSpec.post enc Try.prog Try.f6 false true false false) :=
  law_step (C := Try.checked) 3 own started (by kernel_rfl) Try.func6 (by kernel_rfl) (by kernel_rfl) rfl
    (fun ds hd => by
      match ds, hd with
      | [d0, d1, d2], _ => rfl)
    (ChangeSpec.witness6 (enc := enc) (C := Try.checked) false ⟨#[], #[.agg #[.int .i64 0, .bool false, .bool false, .bool false, .bool false, .int .u8 0, .int .u8 0, .bool false, .bool false, .bool false, .bool false, .bool false, .int .u8 0, .int .u8 0, .int .u8 0, .int .u8 0, .int .i64 0, .int .i64 0, .int .i64 0, .bool false], .int .u8 0, .slice none 0 0], []⟩ 8 (by kernel_rfl) (by kernel_rfl) (by kernel_rfl) (by kernel_rfl))
    (fun W base args hv hl _ _ htr => plain_walk (P := Try.prog) (G := fun W => pc.G W) pc.gok shapes (by kernel_rfl) walk W base args hv hl htr)

theorem over : Rows.picRaisesRow.holds Try.pinned (OpenSpec.ofChange Rows.picRaisesSpec) :=
  OpenClaim.holds_of_wide 6 Try.f6 rfl rfl rfl rfl rfl rfl rfl ⟨rfl, rfl, rfl, rfl, rfl⟩ rfl rfl rfl rfl rfl (by kernel_rfl) Try.func6 (by kernel_rfl)
    (of_decide_eq_true (by kernel_rfl)) (by unfold Func.isWrapper; first | (rw [if_pos (by decide +kernel)]; kernel_rfl) | (rw [if_neg (by decide +kernel)]; exact ⟨rfl, rfl⟩))
    (fun os started H enc _ => lifted os started H enc)

theorem proved : Rows.PicRaisesSaid := over
#print axioms proved
end Go.Proofs.Ytndciaoiinhdnaa.picRaises
