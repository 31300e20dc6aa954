/- tstatelaw15.IrqDisables returns true for every input; no condition. -/
import Derived.Test.YtdmpagiankblpaaIrq
namespace Go.Proofs.Ytdmpagiankblpaa.irqDisables
open Go Go.Sx Go.RowKit
set_option maxRecDepth 100000

def shapes : List ASh := [.ints .i64, .agg [.bool, .bool, .bool, .bool, .bool, .bool, .bool, .bool, .bool]]
theorem nf0 (W : World) (a0 : Option Addr) (n0 : Nat) (c0 : Nat) (x1 : Bool) (x2 : Bool) (x3 : Bool) (x4 : Bool) (x5 : Bool) (x6 : Bool) (x7 : Bool) (x8 : Bool) (x9 : Bool) : okTrue (eval Try.prog W (irq.GK 0 W) 6 [.one (.sl a0 n0 c0), .agg [.bool (.sym x1), .bool (.sym x2), .bool (.sym x3), .bool (.sym x4), .bool (.sym x5), .bool (.sym x6), .bool (.sym x7), .bool (.sym x8), .bool (.sym x9)]]) =
  okTrue (bif
    bif decide ((n0 : Int) > 80) then true
    else
      mk.okRow W a0 n0 c0 &&
        decide
          (irq.pkF (mk.cI W a0 n0 c0 0 == 2) (mk.cB W a0 n0 c0 21) (mk.cB W a0 n0 c0 17) (mk.cB W a0 n0 c0 18)
              (mk.cB W a0 n0 c0 22) (bits BinOp.and IntKind.u8 (mk.cI W a0 n0 c0 20) 4 == 0) x7
              (bits BinOp.and IntKind.u8 (mk.cI W a0 n0 c0 20) 2 == 0) x8
              (bits BinOp.and IntKind.u8 (mk.cI W a0 n0 c0 20) 1 == 0) x9 =
            0) then
  some
    (TV.one
      (SV.bool
        (SB.sym
          (bif decide ((n0 : Int) > 80) then true
          else
            mk.cI W a0 n0 c0 0 == mk.cI W a0 n0 c0 0 &&
              (mk.cI W a0 n0 c0 1 == mk.cI W a0 n0 c0 1 &&
                  (mk.cI W a0 n0 c0 2 == mk.cI W a0 n0 c0 2 &&
                    (mk.cI W a0 n0 c0 3 == mk.cI W a0 n0 c0 3 &&
                      (mk.cI W a0 n0 c0 4 == mk.cI W a0 n0 c0 4 &&
                        (mk.cI W a0 n0 c0 5 == mk.cI W a0 n0 c0 5 &&
                          (mk.cI W a0 n0 c0 6 == mk.cI W a0 n0 c0 6 &&
                            (mk.cI W a0 n0 c0 7 == mk.cI W a0 n0 c0 7 &&
                              (mk.cB W a0 n0 c0 8 == mk.cB W a0 n0 c0 8 &&
                                  (mk.cB W a0 n0 c0 9 == mk.cB W a0 n0 c0 9 &&
                                    (mk.cB W a0 n0 c0 10 == mk.cB W a0 n0 c0 10 &&
                                      (mk.cB W a0 n0 c0 11 == mk.cB W a0 n0 c0 11 &&
                                        (mk.cB W a0 n0 c0 12 == mk.cB W a0 n0 c0 12 &&
                                          (mk.cB W a0 n0 c0 13 == mk.cB W a0 n0 c0 13 &&
                                            mk.cB W a0 n0 c0 14 == mk.cB W a0 n0 c0 14))))) &&
                                (mk.cI W a0 n0 c0 15 == mk.cI W a0 n0 c0 15 &&
                                  mk.cI W a0 n0 c0 16 == mk.cI W a0 n0 c0 16)))))))) &&
                (mk.cB W a0 n0 c0 17 == mk.cB W a0 n0 c0 17 &&
                  (mk.cB W a0 n0 c0 18 == mk.cB W a0 n0 c0 18 &&
                    (mk.cI W a0 n0 c0 20 == mk.cI W a0 n0 c0 20 &&
                      (mk.cB W a0 n0 c0 21 == mk.cB W a0 n0 c0 21 &&
                        (mk.cB W a0 n0 c0 22 == mk.cB W a0 n0 c0 22 &&
                          (mk.cB W a0 n0 c0 23 == mk.cB W a0 n0 c0 23 &&
                            (mk.cB W a0 n0 c0 24 == mk.cB W a0 n0 c0 24 &&
                              (mk.cB W a0 n0 c0 25 == mk.cB W a0 n0 c0 25 &&
                                (mk.cB W a0 n0 c0 26 == mk.cB W a0 n0 c0 26 &&
                                  mk.cB W a0 n0 c0 27 == mk.cB W a0 n0 c0 27))))))))))))))
else none) := by kernel_rfl
theorem fin0 (W : World) (a0 : Option Addr) (n0 c0 : Nat) (x1 x2 x3 x4 x5 x6 x7 x8 x9 : Bool) (hr : mk.okRow W a0 n0 c0 = true) (hk : irq.pkF (mk.cI W a0 n0 c0 0 == 2) (mk.cB W a0 n0 c0 21) (mk.cB W a0 n0 c0 17) (mk.cB W a0 n0 c0 18) (mk.cB W a0 n0 c0 22) (bits .and .u8 (mk.cI W a0 n0 c0 20) 4 == 0) x7 (bits .and .u8 (mk.cI W a0 n0 c0 20) 2 == 0) x8 (bits .and .u8 (mk.cI W a0 n0 c0 20) 1 == 0) x9 = 0) :
    okTrue (eval Try.prog W (irq.GK 0 W) 6 [.one (.sl a0 n0 c0), .agg [.bool (.sym x1), .bool (.sym x2), .bool (.sym x3), .bool (.sym x4), .bool (.sym x5), .bool (.sym x6), .bool (.sym x7), .bool (.sym x8), .bool (.sym x9)]]) = true := by
  refine (nf0 W a0 n0 c0 x1 x2 x3 x4 x5 x6 x7 x8 x9).trans ?_
  simp only [hr, hk, decide_true, beq_self_eq_true, Bool.and_self, cond_true, Bool.cond_self]
  rfl
theorem nf1 (W : World) (a0 : Option Addr) (n0 : Nat) (c0 : Nat) (x1 : Bool) (x2 : Bool) (x3 : Bool) (x4 : Bool) (x5 : Bool) (x6 : Bool) (x7 : Bool) (x8 : Bool) (x9 : Bool) : okTrue (eval Try.prog W (irq.GK 1 W) 6 [.one (.sl a0 n0 c0), .agg [.bool (.sym x1), .bool (.sym x2), .bool (.sym x3), .bool (.sym x4), .bool (.sym x5), .bool (.sym x6), .bool (.sym x7), .bool (.sym x8), .bool (.sym x9)]]) =
  okTrue (bif
    bif decide ((n0 : Int) > 80) then true
    else
      mk.okRow W a0 n0 c0 &&
        decide
          (irq.pkF (mk.cI W a0 n0 c0 0 == 2) (mk.cB W a0 n0 c0 21) (mk.cB W a0 n0 c0 17) (mk.cB W a0 n0 c0 18)
              (mk.cB W a0 n0 c0 22) (bits BinOp.and IntKind.u8 (mk.cI W a0 n0 c0 20) 4 == 0) x7
              (bits BinOp.and IntKind.u8 (mk.cI W a0 n0 c0 20) 2 == 0) x8
              (bits BinOp.and IntKind.u8 (mk.cI W a0 n0 c0 20) 1 == 0) x9 =
            1) then
  some
    (TV.one
      (SV.bool
        (SB.sym
          (bif decide ((n0 : Int) > 80) then true
          else
            bif
                irq.pkF (mk.cI W a0 n0 c0 0 == 2) false false false (mk.cB W a0 n0 c0 22)
                    (bits BinOp.and IntKind.u8 (mk.cI W a0 n0 c0 20) 4 == 0) x7
                    (bits BinOp.and IntKind.u8 (mk.cI W a0 n0 c0 20) 2 == 0) x8
                    (bits BinOp.and IntKind.u8 (mk.cI W a0 n0 c0 20) 1 == 0) x9 ==
                  0 then
              mk.cI W a0 n0 c0 1 == mk.cI W a0 n0 c0 1 &&
                (mk.cI W a0 n0 c0 2 == mk.cI W a0 n0 c0 2 &&
                  (mk.cI W a0 n0 c0 3 == mk.cI W a0 n0 c0 3 &&
                    (mk.cI W a0 n0 c0 4 == mk.cI W a0 n0 c0 4 &&
                      (mk.cI W a0 n0 c0 5 == mk.cI W a0 n0 c0 5 &&
                        (mk.cI W a0 n0 c0 6 == mk.cI W a0 n0 c0 6 &&
                          (mk.cI W a0 n0 c0 7 == mk.cI W a0 n0 c0 7 &&
                            (mk.cB W a0 n0 c0 8 == mk.cB W a0 n0 c0 8 &&
                                (mk.cB W a0 n0 c0 9 == mk.cB W a0 n0 c0 9 &&
                                  (mk.cB W a0 n0 c0 10 == mk.cB W a0 n0 c0 10 &&
                                    (mk.cB W a0 n0 c0 11 == mk.cB W a0 n0 c0 11 &&
                                      (mk.cB W a0 n0 c0 12 == mk.cB W a0 n0 c0 12 &&
                                        (mk.cB W a0 n0 c0 13 == mk.cB W a0 n0 c0 13 &&
                                          mk.cB W a0 n0 c0 14 == mk.cB W a0 n0 c0 14))))) &&
                              (mk.cI W a0 n0 c0 15 == mk.cI W a0 n0 c0 15 &&
                                mk.cI W a0 n0 c0 16 == mk.cI W a0 n0 c0 16))))))))
            else false))))
else none) := by kernel_rfl
theorem fin1 (W : World) (a0 : Option Addr) (n0 c0 : Nat) (x1 x2 x3 x4 x5 x6 x7 x8 x9 : Bool) (hr : mk.okRow W a0 n0 c0 = true) (hk : irq.pkF (mk.cI W a0 n0 c0 0 == 2) (mk.cB W a0 n0 c0 21) (mk.cB W a0 n0 c0 17) (mk.cB W a0 n0 c0 18) (mk.cB W a0 n0 c0 22) (bits .and .u8 (mk.cI W a0 n0 c0 20) 4 == 0) x7 (bits .and .u8 (mk.cI W a0 n0 c0 20) 2 == 0) x8 (bits .and .u8 (mk.cI W a0 n0 c0 20) 1 == 0) x9 = 1) :
    okTrue (eval Try.prog W (irq.GK 1 W) 6 [.one (.sl a0 n0 c0), .agg [.bool (.sym x1), .bool (.sym x2), .bool (.sym x3), .bool (.sym x4), .bool (.sym x5), .bool (.sym x6), .bool (.sym x7), .bool (.sym x8), .bool (.sym x9)]]) = true := by
  refine (nf1 W a0 n0 c0 x1 x2 x3 x4 x5 x6 x7 x8 x9).trans ?_
  simp only [hr, hk, irq.pk_off, decide_true, beq_self_eq_true, Bool.and_self, cond_true, cond_false, Bool.cond_self]
  generalize (mk.cI W a0 n0 c0 0 == 2) = on
  generalize mk.cB W a0 n0 c0 21 = trap
  cases decide ((n0 : Int) > 80) <;> cases on <;> cases trap <;> rfl
theorem nf2 (W : World) (a0 : Option Addr) (n0 : Nat) (c0 : Nat) (x1 : Bool) (x2 : Bool) (x3 : Bool) (x4 : Bool) (x5 : Bool) (x6 : Bool) (x7 : Bool) (x8 : Bool) (x9 : Bool) : okTrue (eval Try.prog W (irq.GK 2 W) 6 [.one (.sl a0 n0 c0), .agg [.bool (.sym x1), .bool (.sym x2), .bool (.sym x3), .bool (.sym x4), .bool (.sym x5), .bool (.sym x6), .bool (.sym x7), .bool (.sym x8), .bool (.sym x9)]]) =
  okTrue (bif
    bif decide ((n0 : Int) > 80) then true
    else
      mk.okRow W a0 n0 c0 &&
        decide
          (irq.pkF (mk.cI W a0 n0 c0 0 == 2) (mk.cB W a0 n0 c0 21) (mk.cB W a0 n0 c0 17) (mk.cB W a0 n0 c0 18)
              (mk.cB W a0 n0 c0 22) (bits BinOp.and IntKind.u8 (mk.cI W a0 n0 c0 20) 4 == 0) x7
              (bits BinOp.and IntKind.u8 (mk.cI W a0 n0 c0 20) 2 == 0) x8
              (bits BinOp.and IntKind.u8 (mk.cI W a0 n0 c0 20) 1 == 0) x9 =
            2) then
  some
    (TV.one
      (SV.bool
        (SB.sym
          (bif decide ((n0 : Int) > 80) then true
          else
            bif
                irq.pkF (mk.cI W a0 n0 c0 0 == 2) (mk.cB W a0 n0 c0 21) false false false
                    (bits BinOp.and IntKind.u8 (mk.cI W a0 n0 c0 20) 4 == 0) x7
                    (bits BinOp.and IntKind.u8 (mk.cI W a0 n0 c0 20) 2 == 0) x8
                    (bits BinOp.and IntKind.u8 (mk.cI W a0 n0 c0 20) 1 == 0) x9 ==
                  0 then
              mk.cI W a0 n0 c0 1 == mk.cI W a0 n0 c0 1 &&
                (mk.cI W a0 n0 c0 2 == mk.cI W a0 n0 c0 2 &&
                  (mk.cI W a0 n0 c0 3 == mk.cI W a0 n0 c0 3 &&
                    (mk.cI W a0 n0 c0 4 == mk.cI W a0 n0 c0 4 &&
                      (mk.cI W a0 n0 c0 5 == mk.cI W a0 n0 c0 5 &&
                        (mk.cI W a0 n0 c0 6 == mk.cI W a0 n0 c0 6 &&
                          (mk.cI W a0 n0 c0 7 == mk.cI W a0 n0 c0 7 &&
                            (mk.cB W a0 n0 c0 8 == mk.cB W a0 n0 c0 8 &&
                                (mk.cB W a0 n0 c0 9 == mk.cB W a0 n0 c0 9 &&
                                  (mk.cB W a0 n0 c0 10 == mk.cB W a0 n0 c0 10 &&
                                    (mk.cB W a0 n0 c0 11 == mk.cB W a0 n0 c0 11 &&
                                      (mk.cB W a0 n0 c0 12 == mk.cB W a0 n0 c0 12 &&
                                        (mk.cB W a0 n0 c0 13 == mk.cB W a0 n0 c0 13 &&
                                          mk.cB W a0 n0 c0 14 == mk.cB W a0 n0 c0 14))))) &&
                              (mk.cI W a0 n0 c0 15 == mk.cI W a0 n0 c0 15 &&
                                mk.cI W a0 n0 c0 16 == mk.cI W a0 n0 c0 16))))))))
            else
              bif
                  irq.pkF (mk.cI W a0 n0 c0 0 == 2) (mk.cB W a0 n0 c0 21) false false false
                      (bits BinOp.and IntKind.u8 (mk.cI W a0 n0 c0 20) 4 == 0) x7
                      (bits BinOp.and IntKind.u8 (mk.cI W a0 n0 c0 20) 2 == 0) x8
                      (bits BinOp.and IntKind.u8 (mk.cI W a0 n0 c0 20) 1 == 0) x9 ==
                    1 then
                mk.cI W a0 n0 c0 1 == mk.cI W a0 n0 c0 1 &&
                  (mk.cI W a0 n0 c0 2 == mk.cI W a0 n0 c0 2 &&
                    (mk.cI W a0 n0 c0 3 == mk.cI W a0 n0 c0 3 &&
                      (mk.cI W a0 n0 c0 4 == mk.cI W a0 n0 c0 4 &&
                        (mk.cI W a0 n0 c0 5 == mk.cI W a0 n0 c0 5 &&
                          (mk.cI W a0 n0 c0 6 == mk.cI W a0 n0 c0 6 &&
                            (mk.cI W a0 n0 c0 7 == mk.cI W a0 n0 c0 7 &&
                              (mk.cB W a0 n0 c0 8 == mk.cB W a0 n0 c0 8 &&
                                  (mk.cB W a0 n0 c0 9 == mk.cB W a0 n0 c0 9 &&
                                    (mk.cB W a0 n0 c0 10 == mk.cB W a0 n0 c0 10 &&
                                      (mk.cB W a0 n0 c0 11 == mk.cB W a0 n0 c0 11 &&
                                        (mk.cB W a0 n0 c0 12 == mk.cB W a0 n0 c0 12 &&
                                          (mk.cB W a0 n0 c0 13 == mk.cB W a0 n0 c0 13 &&
                                            mk.cB W a0 n0 c0 14 == mk.cB W a0 n0 c0 14))))) &&
                                (mk.cI W a0 n0 c0 15 == mk.cI W a0 n0 c0 15 &&
                                  mk.cI W a0 n0 c0 16 == mk.cI W a0 n0 c0 16))))))))
              else false))))
else none) := by kernel_rfl
theorem fin2 (W : World) (a0 : Option Addr) (n0 c0 : Nat) (x1 x2 x3 x4 x5 x6 x7 x8 x9 : Bool) (hr : mk.okRow W a0 n0 c0 = true) (hk : irq.pkF (mk.cI W a0 n0 c0 0 == 2) (mk.cB W a0 n0 c0 21) (mk.cB W a0 n0 c0 17) (mk.cB W a0 n0 c0 18) (mk.cB W a0 n0 c0 22) (bits .and .u8 (mk.cI W a0 n0 c0 20) 4 == 0) x7 (bits .and .u8 (mk.cI W a0 n0 c0 20) 2 == 0) x8 (bits .and .u8 (mk.cI W a0 n0 c0 20) 1 == 0) x9 = 2) :
    okTrue (eval Try.prog W (irq.GK 2 W) 6 [.one (.sl a0 n0 c0), .agg [.bool (.sym x1), .bool (.sym x2), .bool (.sym x3), .bool (.sym x4), .bool (.sym x5), .bool (.sym x6), .bool (.sym x7), .bool (.sym x8), .bool (.sym x9)]]) = true := by
  refine (nf2 W a0 n0 c0 x1 x2 x3 x4 x5 x6 x7 x8 x9).trans ?_
  simp only [hr, hk, irq.pk_off, decide_true, beq_self_eq_true, Bool.and_self, cond_true, Bool.cond_self]
  generalize (mk.cI W a0 n0 c0 0 == 2) = on
  generalize mk.cB W a0 n0 c0 21 = trap
  cases decide ((n0 : Int) > 80) <;> cases on <;> cases trap <;> rfl
theorem nf3 (W : World) (a0 : Option Addr) (n0 : Nat) (c0 : Nat) (x1 : Bool) (x2 : Bool) (x3 : Bool) (x4 : Bool) (x5 : Bool) (x6 : Bool) (x7 : Bool) (x8 : Bool) (x9 : Bool) : okTrue (eval Try.prog W (irq.GK 3 W) 6 [.one (.sl a0 n0 c0), .agg [.bool (.sym x1), .bool (.sym x2), .bool (.sym x3), .bool (.sym x4), .bool (.sym x5), .bool (.sym x6), .bool (.sym x7), .bool (.sym x8), .bool (.sym x9)]]) =
  okTrue (bif
    bif decide ((n0 : Int) > 80) then true
    else
      mk.okRow W a0 n0 c0 &&
        decide
          (irq.pkF (mk.cI W a0 n0 c0 0 == 2) (mk.cB W a0 n0 c0 21) (mk.cB W a0 n0 c0 17) (mk.cB W a0 n0 c0 18)
              (mk.cB W a0 n0 c0 22) (bits BinOp.and IntKind.u8 (mk.cI W a0 n0 c0 20) 4 == 0) x7
              (bits BinOp.and IntKind.u8 (mk.cI W a0 n0 c0 20) 2 == 0) x8
              (bits BinOp.and IntKind.u8 (mk.cI W a0 n0 c0 20) 1 == 0) x9 =
            3) then
  some
    (TV.one
      (SV.bool
        (SB.sym
          (bif decide ((n0 : Int) > 80) then true
          else
            bif
                irq.pkF (mk.cI W a0 n0 c0 0 == 2) (mk.cB W a0 n0 c0 21) false false (mk.cB W a0 n0 c0 22)
                    (bits BinOp.and IntKind.u8 (mk.cI W a0 n0 c0 20) 4 == 0) x7
                    (bits BinOp.and IntKind.u8 (mk.cI W a0 n0 c0 20) 2 == 0) x8
                    (bits BinOp.and IntKind.u8 (mk.cI W a0 n0 c0 20) 1 == 0) x9 ==
                  0 then
              mk.cI W a0 n0 c0 1 == mk.cI W a0 n0 c0 1 &&
                (mk.cI W a0 n0 c0 2 == mk.cI W a0 n0 c0 2 &&
                  (mk.cI W a0 n0 c0 3 == mk.cI W a0 n0 c0 3 &&
                    (mk.cI W a0 n0 c0 4 == mk.cI W a0 n0 c0 4 &&
                      (mk.cI W a0 n0 c0 5 == mk.cI W a0 n0 c0 5 &&
                        (mk.cI W a0 n0 c0 6 == mk.cI W a0 n0 c0 6 &&
                          (mk.cI W a0 n0 c0 7 == mk.cI W a0 n0 c0 7 &&
                            (mk.cB W a0 n0 c0 8 == mk.cB W a0 n0 c0 8 &&
                                (mk.cB W a0 n0 c0 9 == mk.cB W a0 n0 c0 9 &&
                                  (mk.cB W a0 n0 c0 10 == mk.cB W a0 n0 c0 10 &&
                                    (mk.cB W a0 n0 c0 11 == mk.cB W a0 n0 c0 11 &&
                                      (mk.cB W a0 n0 c0 12 == mk.cB W a0 n0 c0 12 &&
                                        (mk.cB W a0 n0 c0 13 == mk.cB W a0 n0 c0 13 &&
                                          mk.cB W a0 n0 c0 14 == mk.cB W a0 n0 c0 14))))) &&
                              (mk.cI W a0 n0 c0 15 == mk.cI W a0 n0 c0 15 &&
                                mk.cI W a0 n0 c0 16 == mk.cI W a0 n0 c0 16))))))))
            else
              bif
                  irq.pkF (mk.cI W a0 n0 c0 0 == 2) (mk.cB W a0 n0 c0 21) false false (mk.cB W a0 n0 c0 22)
                      (bits BinOp.and IntKind.u8 (mk.cI W a0 n0 c0 20) 4 == 0) x7
                      (bits BinOp.and IntKind.u8 (mk.cI W a0 n0 c0 20) 2 == 0) x8
                      (bits BinOp.and IntKind.u8 (mk.cI W a0 n0 c0 20) 1 == 0) x9 ==
                    1 then
                mk.cI W a0 n0 c0 1 == mk.cI W a0 n0 c0 1 &&
                  (mk.cI W a0 n0 c0 2 == mk.cI W a0 n0 c0 2 &&
                    (mk.cI W a0 n0 c0 3 == mk.cI W a0 n0 c0 3 &&
                      (mk.cI W a0 n0 c0 4 == mk.cI W a0 n0 c0 4 &&
                        (mk.cI W a0 n0 c0 5 == mk.cI W a0 n0 c0 5 &&
                          (mk.cI W a0 n0 c0 6 == mk.cI W a0 n0 c0 6 &&
                            (mk.cI W a0 n0 c0 7 == mk.cI W a0 n0 c0 7 &&
                              (mk.cB W a0 n0 c0 8 == mk.cB W a0 n0 c0 8 &&
                                  (mk.cB W a0 n0 c0 9 == mk.cB W a0 n0 c0 9 &&
                                    (mk.cB W a0 n0 c0 10 == mk.cB W a0 n0 c0 10 &&
                                      (mk.cB W a0 n0 c0 11 == mk.cB W a0 n0 c0 11 &&
                                        (mk.cB W a0 n0 c0 12 == mk.cB W a0 n0 c0 12 &&
                                          (mk.cB W a0 n0 c0 13 == mk.cB W a0 n0 c0 13 &&
                                            mk.cB W a0 n0 c0 14 == mk.cB W a0 n0 c0 14))))) &&
                                (mk.cI W a0 n0 c0 15 == mk.cI W a0 n0 c0 15 &&
                                  mk.cI W a0 n0 c0 16 == mk.cI W a0 n0 c0 16))))))))
              else false))))
else none) := by kernel_rfl
theorem fin3 (W : World) (a0 : Option Addr) (n0 c0 : Nat) (x1 x2 x3 x4 x5 x6 x7 x8 x9 : Bool) (hr : mk.okRow W a0 n0 c0 = true) (hk : irq.pkF (mk.cI W a0 n0 c0 0 == 2) (mk.cB W a0 n0 c0 21) (mk.cB W a0 n0 c0 17) (mk.cB W a0 n0 c0 18) (mk.cB W a0 n0 c0 22) (bits .and .u8 (mk.cI W a0 n0 c0 20) 4 == 0) x7 (bits .and .u8 (mk.cI W a0 n0 c0 20) 2 == 0) x8 (bits .and .u8 (mk.cI W a0 n0 c0 20) 1 == 0) x9 = 3) :
    okTrue (eval Try.prog W (irq.GK 3 W) 6 [.one (.sl a0 n0 c0), .agg [.bool (.sym x1), .bool (.sym x2), .bool (.sym x3), .bool (.sym x4), .bool (.sym x5), .bool (.sym x6), .bool (.sym x7), .bool (.sym x8), .bool (.sym x9)]]) = true := by
  refine (nf3 W a0 n0 c0 x1 x2 x3 x4 x5 x6 x7 x8 x9).trans ?_
  simp only [hr, hk, irq.pk_off, decide_true, beq_self_eq_true, Bool.and_self, cond_true, Bool.cond_self]
  generalize (mk.cI W a0 n0 c0 0 == 2) = on
  generalize mk.cB W a0 n0 c0 21 = trap
  cases decide ((n0 : Int) > 80) <;> cases on <;> cases trap <;> rfl
theorem nf4 (W : World) (a0 : Option Addr) (n0 : Nat) (c0 : Nat) (x1 : Bool) (x2 : Bool) (x3 : Bool) (x4 : Bool) (x5 : Bool) (x6 : Bool) (x7 : Bool) (x8 : Bool) (x9 : Bool) : okTrue (eval Try.prog W (irq.GK 4 W) 6 [.one (.sl a0 n0 c0), .agg [.bool (.sym x1), .bool (.sym x2), .bool (.sym x3), .bool (.sym x4), .bool (.sym x5), .bool (.sym x6), .bool (.sym x7), .bool (.sym x8), .bool (.sym x9)]]) =
  okTrue (bif
    bif decide ((n0 : Int) > 80) then true
    else
      mk.okRow W a0 n0 c0 &&
        decide
          (irq.pkF (mk.cI W a0 n0 c0 0 == 2) (mk.cB W a0 n0 c0 21) (mk.cB W a0 n0 c0 17) (mk.cB W a0 n0 c0 18)
              (mk.cB W a0 n0 c0 22) (bits BinOp.and IntKind.u8 (mk.cI W a0 n0 c0 20) 4 == 0) x7
              (bits BinOp.and IntKind.u8 (mk.cI W a0 n0 c0 20) 2 == 0) x8
              (bits BinOp.and IntKind.u8 (mk.cI W a0 n0 c0 20) 1 == 0) x9 =
            4) then
  some
    (TV.one
      (SV.bool
        (SB.sym
          (bif decide ((n0 : Int) > 80) then true
          else
            bif
                irq.pkF (mk.cI W a0 n0 c0 0 == 2) (mk.cB W a0 n0 c0 21) false false (mk.cB W a0 n0 c0 22)
                    (bits BinOp.and IntKind.u8 (mk.cI W a0 n0 c0 20) 4 == 0) x7
                    (bits BinOp.and IntKind.u8 (mk.cI W a0 n0 c0 20) 2 == 0) x8
                    (bits BinOp.and IntKind.u8 (mk.cI W a0 n0 c0 20) 1 == 0) x9 ==
                  0 then
              mk.cI W a0 n0 c0 1 == mk.cI W a0 n0 c0 1 &&
                (mk.cI W a0 n0 c0 2 == mk.cI W a0 n0 c0 2 &&
                  (mk.cI W a0 n0 c0 3 == mk.cI W a0 n0 c0 3 &&
                    (mk.cI W a0 n0 c0 4 == mk.cI W a0 n0 c0 4 &&
                      (mk.cI W a0 n0 c0 5 == mk.cI W a0 n0 c0 5 &&
                        (mk.cI W a0 n0 c0 6 == mk.cI W a0 n0 c0 6 &&
                          (mk.cI W a0 n0 c0 7 == mk.cI W a0 n0 c0 7 &&
                            (mk.cB W a0 n0 c0 8 == mk.cB W a0 n0 c0 8 &&
                                (mk.cB W a0 n0 c0 9 == mk.cB W a0 n0 c0 9 &&
                                  (mk.cB W a0 n0 c0 10 == mk.cB W a0 n0 c0 10 &&
                                    (mk.cB W a0 n0 c0 11 == mk.cB W a0 n0 c0 11 &&
                                      (mk.cB W a0 n0 c0 12 == mk.cB W a0 n0 c0 12 &&
                                        (mk.cB W a0 n0 c0 13 == mk.cB W a0 n0 c0 13 &&
                                          mk.cB W a0 n0 c0 14 == mk.cB W a0 n0 c0 14))))) &&
                              (mk.cI W a0 n0 c0 15 == mk.cI W a0 n0 c0 15 &&
                                mk.cI W a0 n0 c0 16 == mk.cI W a0 n0 c0 16))))))))
            else
              bif
                  irq.pkF (mk.cI W a0 n0 c0 0 == 2) (mk.cB W a0 n0 c0 21) false false (mk.cB W a0 n0 c0 22)
                      (bits BinOp.and IntKind.u8 (mk.cI W a0 n0 c0 20) 4 == 0) x7
                      (bits BinOp.and IntKind.u8 (mk.cI W a0 n0 c0 20) 2 == 0) x8
                      (bits BinOp.and IntKind.u8 (mk.cI W a0 n0 c0 20) 1 == 0) x9 ==
                    1 then
                mk.cI W a0 n0 c0 1 == mk.cI W a0 n0 c0 1 &&
                  (mk.cI W a0 n0 c0 2 == mk.cI W a0 n0 c0 2 &&
                    (mk.cI W a0 n0 c0 3 == mk.cI W a0 n0 c0 3 &&
                      (mk.cI W a0 n0 c0 4 == mk.cI W a0 n0 c0 4 &&
                        (mk.cI W a0 n0 c0 5 == mk.cI W a0 n0 c0 5 &&
                          (mk.cI W a0 n0 c0 6 == mk.cI W a0 n0 c0 6 &&
                            (mk.cI W a0 n0 c0 7 == mk.cI W a0 n0 c0 7 &&
                              (mk.cB W a0 n0 c0 8 == mk.cB W a0 n0 c0 8 &&
                                  (mk.cB W a0 n0 c0 9 == mk.cB W a0 n0 c0 9 &&
                                    (mk.cB W a0 n0 c0 10 == mk.cB W a0 n0 c0 10 &&
                                      (mk.cB W a0 n0 c0 11 == mk.cB W a0 n0 c0 11 &&
                                        (mk.cB W a0 n0 c0 12 == mk.cB W a0 n0 c0 12 &&
                                          (mk.cB W a0 n0 c0 13 == mk.cB W a0 n0 c0 13 &&
                                            mk.cB W a0 n0 c0 14 == mk.cB W a0 n0 c0 14))))) &&
                                (mk.cI W a0 n0 c0 15 == mk.cI W a0 n0 c0 15 &&
                                  mk.cI W a0 n0 c0 16 == mk.cI W a0 n0 c0 16))))))))
              else false))))
else none) := by kernel_rfl
theorem fin4 (W : World) (a0 : Option Addr) (n0 c0 : Nat) (x1 x2 x3 x4 x5 x6 x7 x8 x9 : Bool) (hr : mk.okRow W a0 n0 c0 = true) (hk : irq.pkF (mk.cI W a0 n0 c0 0 == 2) (mk.cB W a0 n0 c0 21) (mk.cB W a0 n0 c0 17) (mk.cB W a0 n0 c0 18) (mk.cB W a0 n0 c0 22) (bits .and .u8 (mk.cI W a0 n0 c0 20) 4 == 0) x7 (bits .and .u8 (mk.cI W a0 n0 c0 20) 2 == 0) x8 (bits .and .u8 (mk.cI W a0 n0 c0 20) 1 == 0) x9 = 4) :
    okTrue (eval Try.prog W (irq.GK 4 W) 6 [.one (.sl a0 n0 c0), .agg [.bool (.sym x1), .bool (.sym x2), .bool (.sym x3), .bool (.sym x4), .bool (.sym x5), .bool (.sym x6), .bool (.sym x7), .bool (.sym x8), .bool (.sym x9)]]) = true := by
  refine (nf4 W a0 n0 c0 x1 x2 x3 x4 x5 x6 x7 x8 x9).trans ?_
  simp only [hr, hk, irq.pk_off, decide_true, beq_self_eq_true, Bool.and_self, cond_true, Bool.cond_self]
  generalize (mk.cI W a0 n0 c0 0 == 2) = on
  generalize mk.cB W a0 n0 c0 21 = trap
  cases decide ((n0 : Int) > 80) <;> cases on <;> cases trap <;> rfl
theorem nf5 (W : World) (a0 : Option Addr) (n0 : Nat) (c0 : Nat) (x1 : Bool) (x2 : Bool) (x3 : Bool) (x4 : Bool) (x5 : Bool) (x6 : Bool) (x7 : Bool) (x8 : Bool) (x9 : Bool) : okTrue (eval Try.prog W (irq.GK 5 W) 6 [.one (.sl a0 n0 c0), .agg [.bool (.sym x1), .bool (.sym x2), .bool (.sym x3), .bool (.sym x4), .bool (.sym x5), .bool (.sym x6), .bool (.sym x7), .bool (.sym x8), .bool (.sym x9)]]) =
  okTrue (bif
    bif decide ((n0 : Int) > 80) then true
    else
      mk.okRow W a0 n0 c0 &&
        decide
          (irq.pkF (mk.cI W a0 n0 c0 0 == 2) (mk.cB W a0 n0 c0 21) (mk.cB W a0 n0 c0 17) (mk.cB W a0 n0 c0 18)
              (mk.cB W a0 n0 c0 22) (bits BinOp.and IntKind.u8 (mk.cI W a0 n0 c0 20) 4 == 0) x7
              (bits BinOp.and IntKind.u8 (mk.cI W a0 n0 c0 20) 2 == 0) x8
              (bits BinOp.and IntKind.u8 (mk.cI W a0 n0 c0 20) 1 == 0) x9 =
            5) then
  some
    (TV.one
      (SV.bool
        (SB.sym
          (bif decide ((n0 : Int) > 80) then true
          else
            bif
                irq.pkF (mk.cI W a0 n0 c0 0 == 2) (mk.cB W a0 n0 c0 21) false false (mk.cB W a0 n0 c0 22)
                    (bits BinOp.and IntKind.u8 (mk.cI W a0 n0 c0 20) 4 == 0) x7
                    (bits BinOp.and IntKind.u8 (mk.cI W a0 n0 c0 20) 2 == 0) x8
                    (bits BinOp.and IntKind.u8 (mk.cI W a0 n0 c0 20) 1 == 0) x9 ==
                  0 then
              mk.cI W a0 n0 c0 1 == mk.cI W a0 n0 c0 1 &&
                (mk.cI W a0 n0 c0 2 == mk.cI W a0 n0 c0 2 &&
                  (mk.cI W a0 n0 c0 3 == mk.cI W a0 n0 c0 3 &&
                    (mk.cI W a0 n0 c0 4 == mk.cI W a0 n0 c0 4 &&
                      (mk.cI W a0 n0 c0 5 == mk.cI W a0 n0 c0 5 &&
                        (mk.cI W a0 n0 c0 6 == mk.cI W a0 n0 c0 6 &&
                          (mk.cI W a0 n0 c0 7 == mk.cI W a0 n0 c0 7 &&
                            (mk.cB W a0 n0 c0 8 == mk.cB W a0 n0 c0 8 &&
                                (mk.cB W a0 n0 c0 9 == mk.cB W a0 n0 c0 9 &&
                                  (mk.cB W a0 n0 c0 10 == mk.cB W a0 n0 c0 10 &&
                                    (mk.cB W a0 n0 c0 11 == mk.cB W a0 n0 c0 11 &&
                                      (mk.cB W a0 n0 c0 12 == mk.cB W a0 n0 c0 12 &&
                                        (mk.cB W a0 n0 c0 13 == mk.cB W a0 n0 c0 13 &&
                                          mk.cB W a0 n0 c0 14 == mk.cB W a0 n0 c0 14))))) &&
                              (mk.cI W a0 n0 c0 15 == mk.cI W a0 n0 c0 15 &&
                                mk.cI W a0 n0 c0 16 == mk.cI W a0 n0 c0 16))))))))
            else
              bif
                  irq.pkF (mk.cI W a0 n0 c0 0 == 2) (mk.cB W a0 n0 c0 21) false false (mk.cB W a0 n0 c0 22)
                      (bits BinOp.and IntKind.u8 (mk.cI W a0 n0 c0 20) 4 == 0) x7
                      (bits BinOp.and IntKind.u8 (mk.cI W a0 n0 c0 20) 2 == 0) x8
                      (bits BinOp.and IntKind.u8 (mk.cI W a0 n0 c0 20) 1 == 0) x9 ==
                    1 then
                mk.cI W a0 n0 c0 1 == mk.cI W a0 n0 c0 1 &&
                  (mk.cI W a0 n0 c0 2 == mk.cI W a0 n0 c0 2 &&
                    (mk.cI W a0 n0 c0 3 == mk.cI W a0 n0 c0 3 &&
                      (mk.cI W a0 n0 c0 4 == mk.cI W a0 n0 c0 4 &&
                        (mk.cI W a0 n0 c0 5 == mk.cI W a0 n0 c0 5 &&
                          (mk.cI W a0 n0 c0 6 == mk.cI W a0 n0 c0 6 &&
                            (mk.cI W a0 n0 c0 7 == mk.cI W a0 n0 c0 7 &&
                              (mk.cB W a0 n0 c0 8 == mk.cB W a0 n0 c0 8 &&
                                  (mk.cB W a0 n0 c0 9 == mk.cB W a0 n0 c0 9 &&
                                    (mk.cB W a0 n0 c0 10 == mk.cB W a0 n0 c0 10 &&
                                      (mk.cB W a0 n0 c0 11 == mk.cB W a0 n0 c0 11 &&
                                        (mk.cB W a0 n0 c0 12 == mk.cB W a0 n0 c0 12 &&
                                          (mk.cB W a0 n0 c0 13 == mk.cB W a0 n0 c0 13 &&
                                            mk.cB W a0 n0 c0 14 == mk.cB W a0 n0 c0 14))))) &&
                                (mk.cI W a0 n0 c0 15 == mk.cI W a0 n0 c0 15 &&
                                  mk.cI W a0 n0 c0 16 == mk.cI W a0 n0 c0 16))))))))
              else false))))
else none) := by kernel_rfl
theorem fin5 (W : World) (a0 : Option Addr) (n0 c0 : Nat) (x1 x2 x3 x4 x5 x6 x7 x8 x9 : Bool) (hr : mk.okRow W a0 n0 c0 = true) (hk : irq.pkF (mk.cI W a0 n0 c0 0 == 2) (mk.cB W a0 n0 c0 21) (mk.cB W a0 n0 c0 17) (mk.cB W a0 n0 c0 18) (mk.cB W a0 n0 c0 22) (bits .and .u8 (mk.cI W a0 n0 c0 20) 4 == 0) x7 (bits .and .u8 (mk.cI W a0 n0 c0 20) 2 == 0) x8 (bits .and .u8 (mk.cI W a0 n0 c0 20) 1 == 0) x9 = 5) :
    okTrue (eval Try.prog W (irq.GK 5 W) 6 [.one (.sl a0 n0 c0), .agg [.bool (.sym x1), .bool (.sym x2), .bool (.sym x3), .bool (.sym x4), .bool (.sym x5), .bool (.sym x6), .bool (.sym x7), .bool (.sym x8), .bool (.sym x9)]]) = true := by
  refine (nf5 W a0 n0 c0 x1 x2 x3 x4 x5 x6 x7 x8 x9).trans ?_
  simp only [hr, hk, irq.pk_off, decide_true, beq_self_eq_true, Bool.and_self, cond_true, Bool.cond_self]
  generalize (mk.cI W a0 n0 c0 0 == 2) = on
  generalize mk.cB W a0 n0 c0 21 = trap
  cases decide ((n0 : Int) > 80) <;> cases on <;> cases trap <;> rfl

theorem calls (W : World) (e : Env) (h : argsOk W e 0 shapes) : Calls Try.prog 6 ((argsTV e 0 shapes).map (TV.den fun _ => 0)).toArray W fun en W' => en = .returned (.bool true) ∧ Below W.heap.size W W' := by
  have hr : mk.okRow W (e.a 0) (e.len 0) (e.cap 0) = true := mk.okRow_of h.1
  rcases irq.pkF_range (mk.cI W (e.a 0) (e.len 0) (e.cap 0) 0 == 2) (mk.cB W (e.a 0) (e.len 0) (e.cap 0) 21) (mk.cB W (e.a 0) (e.len 0) (e.cap 0) 17) (mk.cB W (e.a 0) (e.len 0) (e.cap 0) 18) (mk.cB W (e.a 0) (e.len 0) (e.cap 0) 22) (bits .and .u8 (mk.cI W (e.a 0) (e.len 0) (e.cap 0) 20) 4 == 0) (e.b 7) (bits .and .u8 (mk.cI W (e.a 0) (e.len 0) (e.cap 0) 20) 2 == 0) (e.b 8) (bits .and .u8 (mk.cI W (e.a 0) (e.len 0) (e.cap 0) 20) 1 == 0) (e.b 9) with hk | hk | hk | hk | hk | hk
  · exact law_calls (irq.gokK 0 W) (fin0 W (e.a 0) (e.len 0) (e.cap 0) (e.b 1) (e.b 2) (e.b 3) (e.b 4) (e.b 5) (e.b 6) (e.b 7) (e.b 8) (e.b 9) hr hk)
  · exact law_calls (irq.gokK 1 W) (fin1 W (e.a 0) (e.len 0) (e.cap 0) (e.b 1) (e.b 2) (e.b 3) (e.b 4) (e.b 5) (e.b 6) (e.b 7) (e.b 8) (e.b 9) hr hk)
  · exact law_calls (irq.gokK 2 W) (fin2 W (e.a 0) (e.len 0) (e.cap 0) (e.b 1) (e.b 2) (e.b 3) (e.b 4) (e.b 5) (e.b 6) (e.b 7) (e.b 8) (e.b 9) hr hk)
  · exact law_calls (irq.gokK 3 W) (fin3 W (e.a 0) (e.len 0) (e.cap 0) (e.b 1) (e.b 2) (e.b 3) (e.b 4) (e.b 5) (e.b 6) (e.b 7) (e.b 8) (e.b 9) hr hk)
  · exact law_calls (irq.gokK 4 W) (fin4 W (e.a 0) (e.len 0) (e.cap 0) (e.b 1) (e.b 2) (e.b 3) (e.b 4) (e.b 5) (e.b 6) (e.b 7) (e.b 8) (e.b 9) hr hk)
  · exact law_calls (irq.gokK 5 W) (fin5 W (e.a 0) (e.len 0) (e.cap 0) (e.b 1) (e.b 2) (e.b 3) (e.b 4) (e.b 5) (e.b 6) (e.b 7) (e.b 8) (e.b 9) hr hk)

theorem own : ownKnob Try.prog.godebug = none := by kernel_rfl

theorem lifted (os : Os) (started : os.Started) (H : Type) (enc : TypeId × Value → H) :
    ReturnsInHanded {} Try.checked os 6 .any (Rows.irqDisablesSpec.pre6 enc Try.prog Try.f6 Rows.irqDisablesRow.domain false) (Rows.irqDisablesSpec.post enc Try.prog Try.f6 false true false false) :=
  law_step (C := Try.checked) 2 own started (by kernel_rfl) Try.func6 (by kernel_rfl) (by kernel_rfl) rfl
    (fun ds hd => by
      match ds, hd with
      | [d0, d1], _ => rfl)
    (ChangeSpec.witness6 (enc := enc) (C := Try.checked) false ⟨#[], #[.slice none 0 0, .agg #[.bool false, .bool false, .bool false, .bool false, .bool false, .bool false, .bool false, .bool false, .bool false]], []⟩ 8 (by kernel_rfl) (by kernel_rfl) (by kernel_rfl) (by kernel_rfl))
    (fun W base args hv hl _ _ htr => shape_walk (P := Try.prog) shapes (by kernel_rfl) calls W base args hv hl htr)

theorem over : Rows.irqDisablesRow.holds Try.pinned (OpenSpec.ofChange Rows.irqDisablesSpec) :=
  OpenClaim.holds_of_wide 6 Try.f6 rfl rfl rfl rfl rfl rfl rfl ⟨rfl, rfl, rfl, rfl, rfl⟩ rfl rfl rfl rfl rfl (by kernel_rfl) Try.func6 (by kernel_rfl)
    (of_decide_eq_true (by kernel_rfl)) (by unfold Func.isWrapper; first | (rw [if_pos (by decide +kernel)]; kernel_rfl) | (rw [if_neg (by decide +kernel)]; exact ⟨rfl, rfl⟩))
    (fun os started H enc _ => lifted os started H enc)

theorem proved : Rows.IrqDisablesSaid := over
#print axioms proved
end Go.Proofs.Ytdmpagiankblpaa.irqDisables
