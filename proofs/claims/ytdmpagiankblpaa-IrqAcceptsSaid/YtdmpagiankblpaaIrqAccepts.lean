/- tstatelaw15.IrqAccepts returns true for every input; no condition. -/
import Derived.Test.YtdmpagiankblpaaIrq
namespace Go.Proofs.Ytdmpagiankblpaa.irqAccepts
open Go Go.Sx Go.RowKit
set_option maxRecDepth 100000

def shapes : List ASh := [.agg [.int .i64, .int .u8, .int .u8, .int .u8, .int .u8, .int .u8, .int .u8, .int .u8, .bool, .bool, .bool, .bool, .bool, .bool, .bool, .int .u16, .int .u16, .bool, .bool, .bool, .int .u8, .bool, .bool, .bool, .bool, .bool, .bool, .bool], .one (.int .i64), .ints .i64]
theorem nf (W : World) (x0 : Int) (x1 : Int) (x2 : Int) (x3 : Int) (x4 : Int) (x5 : Int) (x6 : Int) (x7 : Int) (x8 : Bool) (x9 : Bool) (x10 : Bool) (x11 : Bool) (x12 : Bool) (x13 : Bool) (x14 : Bool) (x15 : Int) (x16 : Int) (x17 : Bool) (x18 : Bool) (x19 : Bool) (x20 : Int) (x21 : Bool) (x22 : Bool) (x23 : Bool) (x24 : Bool) (x25 : Bool) (x26 : Bool) (x27 : Bool) (x28 : Int) (a29 : Option Addr) (n29 : Nat) (c29 : Nat) : okTrue (eval Try.prog W (irq.G W) 8 [.agg [.int .i64 (.sym x0), .int .u8 (.sym x1), .int .u8 (.sym x2), .int .u8 (.sym x3), .int .u8 (.sym x4), .int .u8 (.sym x5), .int .u8 (.sym x6), .int .u8 (.sym x7), .bool (.sym x8), .bool (.sym x9), .bool (.sym x10), .bool (.sym x11), .bool (.sym x12), .bool (.sym x13), .bool (.sym x14), .int .u16 (.sym x15), .int .u16 (.sym x16), .bool (.sym x17), .bool (.sym x18), .bool (.sym x19), .int .u8 (.sym x20), .bool (.sym x21), .bool (.sym x22), .bool (.sym x23), .bool (.sym x24), .bool (.sym x25), .bool (.sym x26), .bool (.sym x27)], .one (.int .i64 (.sym x28)), .one (.sl a29 n29 c29)]) =
  okTrue (bif bif decide ((n29 : Int) > 80) then true else mk.okRow W a29 n29 c29 then
  some
    (TV.one
      (SV.bool
        (SB.sym
          (bif decide ((n29 : Int) > 80) then true
          else
            bif
                ((bif bif decide (x28 < 1) then true else decide (x28 > 5) then x0 else x0) ==
                    bif bif decide (x28 < 1) then true else decide (x28 > 5) then x0 else x0) &&
                  (((bif bif decide (x28 < 1) then true else decide (x28 > 5) then x1 else x1) ==
                        bif bif decide (x28 < 1) then true else decide (x28 > 5) then x1 else x1) &&
                      (((bif bif decide (x28 < 1) then true else decide (x28 > 5) then x2 else x2) ==
                          bif bif decide (x28 < 1) then true else decide (x28 > 5) then x2 else x2) &&
                        (((bif bif decide (x28 < 1) then true else decide (x28 > 5) then x3 else x3) ==
                            bif bif decide (x28 < 1) then true else decide (x28 > 5) then x3 else x3) &&
                          (((bif bif decide (x28 < 1) then true else decide (x28 > 5) then x4 else x4) ==
                              bif bif decide (x28 < 1) then true else decide (x28 > 5) then x4 else x4) &&
                            (((bif bif decide (x28 < 1) then true else decide (x28 > 5) then x5 else x5) ==
                                bif bif decide (x28 < 1) then true else decide (x28 > 5) then x5 else x5) &&
                              (((bif bif decide (x28 < 1) then true else decide (x28 > 5) then x6 else x6) ==
                                  bif bif decide (x28 < 1) then true else decide (x28 > 5) then x6 else x6) &&
                                (((bif bif decide (x28 < 1) then true else decide (x28 > 5) then x7 else x7) ==
                                    bif bif decide (x28 < 1) then true else decide (x28 > 5) then x7 else x7) &&
                                  (((bif bif decide (x28 < 1) then true else decide (x28 > 5) then x8 else x8) ==
                                        bif bif decide (x28 < 1) then true else decide (x28 > 5) then x8 else x8) &&
                                      (((bif bif decide (x28 < 1) then true else decide (x28 > 5) then x9 else x9) ==
                                          bif bif decide (x28 < 1) then true else decide (x28 > 5) then x9 else x9) &&
                                        (((bif bif decide (x28 < 1) then true else decide (x28 > 5) then x10
                                            else x10) ==
                                            bif bif decide (x28 < 1) then true else decide (x28 > 5) then x10
                                            else x10) &&
                                          (((bif bif decide (x28 < 1) then true else decide (x28 > 5) then x11
                                              else x11) ==
                                              bif bif decide (x28 < 1) then true else decide (x28 > 5) then x11
                                              else x11) &&
                                            (((bif bif decide (x28 < 1) then true else decide (x28 > 5) then x12
                                                else x12) ==
                                                bif bif decide (x28 < 1) then true else decide (x28 > 5) then x12
                                                else x12) &&
                                              (((bif bif decide (x28 < 1) then true else decide (x28 > 5) then x13
                                                  else x13) ==
                                                  bif bif decide (x28 < 1) then true else decide (x28 > 5) then x13
                                                  else x13) &&
                                                (bif bif decide (x28 < 1) then true else decide (x28 > 5) then x14
                                                  else x14) ==
                                                  bif bif decide (x28 < 1) then true else decide (x28 > 5) then x14
                                                  else x14))))) &&
                                    (((bif bif decide (x28 < 1) then true else decide (x28 > 5) then x15 else x15) ==
                                        bif bif decide (x28 < 1) then true else decide (x28 > 5) then x15 else x15) &&
                                      (bif bif decide (x28 < 1) then true else decide (x28 > 5) then x16 else x16) ==
                                        bif bif decide (x28 < 1) then true else decide (x28 > 5) then x16
                                        else x16)))))))) &&
                    (((bif bif decide (x28 < 1) then true else decide (x28 > 5) then x17 else false) ==
                        bif bif decide (x28 < 1) then true else decide (x28 > 5) then x17 else false) &&
                      (((bif bif decide (x28 < 1) then true else decide (x28 > 5) then x18 else false) ==
                          bif bif decide (x28 < 1) then true else decide (x28 > 5) then x18 else false) &&
                        (((bif bif decide (x28 < 1) then true else decide (x28 > 5) then x19 else false) ==
                            bif bif decide (x28 < 1) then true else decide (x28 > 5) then x19 else false) &&
                          (((bif bif decide (x28 < 1) then true else decide (x28 > 5) then x20 else x20) ==
                              bif bif decide (x28 < 1) then true else decide (x28 > 5) then x20 else x20) &&
                            (((bif bif decide (x28 < 1) then true else decide (x28 > 5) then x21
                                else bif x28 == 1 then false else x21) ==
                                bif bif decide (x28 < 1) then true else decide (x28 > 5) then x21
                                else bif x28 == 1 then false else x21) &&
                              (((bif bif decide (x28 < 1) then true else decide (x28 > 5) then x22
                                  else bif x28 == 1 then x22 else bif x28 == 2 then false else x22) ==
                                  bif bif decide (x28 < 1) then true else decide (x28 > 5) then x22
                                  else bif x28 == 2 then false else x22) &&
                                (((bif bif decide (x28 < 1) then true else decide (x28 > 5) then x23 else x23) ==
                                    bif bif decide (x28 < 1) then true else decide (x28 > 5) then x23 else x23) &&
                                  (((bif bif decide (x28 < 1) then true else decide (x28 > 5) then x24 else x24) ==
                                      bif bif decide (x28 < 1) then true else decide (x28 > 5) then x24 else x24) &&
                                    (((bif bif decide (x28 < 1) then true else decide (x28 > 5) then x25
                                        else bif x28 == 1 then true else x25) ==
                                        bif bif decide (x28 < 1) then true else decide (x28 > 5) then x25
                                        else bif x28 == 1 then true else x25) &&
                                      (((bif bif decide (x28 < 1) then true else decide (x28 > 5) then x26
                                          else bif x28 == 1 then x17 else x26) ==
                                          bif bif decide (x28 < 1) then true else decide (x28 > 5) then x26
                                          else bif x28 == 1 then x17 else x26) &&
                                        (bif bif decide (x28 < 1) then true else decide (x28 > 5) then x27 else x27) ==
                                          bif bif decide (x28 < 1) then true else decide (x28 > 5) then x27
                                          else x27))))))))))) then
              bif
                  ((bif
                          bif decide (IntKind.i64.wrap ((IntKind.u64.wrap x28).tmod 7) < 1) then true
                          else decide (IntKind.i64.wrap ((IntKind.u64.wrap x28).tmod 7) > 5) then
                        mk.cI W a29 n29 c29 0
                      else mk.cI W a29 n29 c29 0) ==
                      bif
                          bif decide (IntKind.i64.wrap ((IntKind.u64.wrap x28).tmod 7) < 1) then true
                          else decide (IntKind.i64.wrap ((IntKind.u64.wrap x28).tmod 7) > 5) then
                        mk.cI W a29 n29 c29 0
                      else mk.cI W a29 n29 c29 0) &&
                    (((bif
                              bif decide (IntKind.i64.wrap ((IntKind.u64.wrap x28).tmod 7) < 1) then true
                              else decide (IntKind.i64.wrap ((IntKind.u64.wrap x28).tmod 7) > 5) then
                            mk.cI W a29 n29 c29 1
                          else mk.cI W a29 n29 c29 1) ==
                          bif
                              bif decide (IntKind.i64.wrap ((IntKind.u64.wrap x28).tmod 7) < 1) then true
                              else decide (IntKind.i64.wrap ((IntKind.u64.wrap x28).tmod 7) > 5) then
                            mk.cI W a29 n29 c29 1
                          else mk.cI W a29 n29 c29 1) &&
                        (((bif
                                bif decide (IntKind.i64.wrap ((IntKind.u64.wrap x28).tmod 7) < 1) then true
                                else decide (IntKind.i64.wrap ((IntKind.u64.wrap x28).tmod 7) > 5) then
                              mk.cI W a29 n29 c29 2
                            else mk.cI W a29 n29 c29 2) ==
                            bif
                                bif decide (IntKind.i64.wrap ((IntKind.u64.wrap x28).tmod 7) < 1) then true
                                else decide (IntKind.i64.wrap ((IntKind.u64.wrap x28).tmod 7) > 5) then
                              mk.cI W a29 n29 c29 2
                            else mk.cI W a29 n29 c29 2) &&
                          (((bif
                                  bif decide (IntKind.i64.wrap ((IntKind.u64.wrap x28).tmod 7) < 1) then true
                                  else decide (IntKind.i64.wrap ((IntKind.u64.wrap x28).tmod 7) > 5) then
                                mk.cI W a29 n29 c29 3
                              else mk.cI W a29 n29 c29 3) ==
                              bif
                                  bif decide (IntKind.i64.wrap ((IntKind.u64.wrap x28).tmod 7) < 1) then true
                                  else decide (IntKind.i64.wrap ((IntKind.u64.wrap x28).tmod 7) > 5) then
                                mk.cI W a29 n29 c29 3
                              else mk.cI W a29 n29 c29 3) &&
                            (((bif
                                    bif decide (IntKind.i64.wrap ((IntKind.u64.wrap x28).tmod 7) < 1) then true
                                    else decide (IntKind.i64.wrap ((IntKind.u64.wrap x28).tmod 7) > 5) then
                                  mk.cI W a29 n29 c29 4
                                else mk.cI W a29 n29 c29 4) ==
                                bif
                                    bif decide (IntKind.i64.wrap ((IntKind.u64.wrap x28).tmod 7) < 1) then true
                                    else decide (IntKind.i64.wrap ((IntKind.u64.wrap x28).tmod 7) > 5) then
                                  mk.cI W a29 n29 c29 4
                                else mk.cI W a29 n29 c29 4) &&
                              (((bif
                                      bif decide (IntKind.i64.wrap ((IntKind.u64.wrap x28).tmod 7) < 1) then true
                                      else decide (IntKind.i64.wrap ((IntKind.u64.wrap x28).tmod 7) > 5) then
                                    mk.cI W a29 n29 c29 5
                                  else mk.cI W a29 n29 c29 5) ==
                                  bif
                                      bif decide (IntKind.i64.wrap ((IntKind.u64.wrap x28).tmod 7) < 1) then true
                                      else decide (IntKind.i64.wrap ((IntKind.u64.wrap x28).tmod 7) > 5) then
                                    mk.cI W a29 n29 c29 5
                                  else mk.cI W a29 n29 c29 5) &&
                                (((bif
                                        bif decide (IntKind.i64.wrap ((IntKind.u64.wrap x28).tmod 7) < 1) then true
                                        else decide (IntKind.i64.wrap ((IntKind.u64.wrap x28).tmod 7) > 5) then
                                      mk.cI W a29 n29 c29 6
                                    else mk.cI W a29 n29 c29 6) ==
                                    bif
                                        bif decide (IntKind.i64.wrap ((IntKind.u64.wrap x28).tmod 7) < 1) then true
                                        else decide (IntKind.i64.wrap ((IntKind.u64.wrap x28).tmod 7) > 5) then
                                      mk.cI W a29 n29 c29 6
                                    else mk.cI W a29 n29 c29 6) &&
                                  (((bif
                                          bif decide (IntKind.i64.wrap ((IntKind.u64.wrap x28).tmod 7) < 1) then true
                                          else decide (IntKind.i64.wrap ((IntKind.u64.wrap x28).tmod 7) > 5) then
                                        mk.cI W a29 n29 c29 7
                                      else mk.cI W a29 n29 c29 7) ==
                                      bif
                                          bif decide (IntKind.i64.wrap ((IntKind.u64.wrap x28).tmod 7) < 1) then true
                                          else decide (IntKind.i64.wrap ((IntKind.u64.wrap x28).tmod 7) > 5) then
                                        mk.cI W a29 n29 c29 7
                                      else mk.cI W a29 n29 c29 7) &&
                                    (((bif
                                              bif decide (IntKind.i64.wrap ((IntKind.u64.wrap x28).tmod 7) < 1) then
                                                true
                                              else decide (IntKind.i64.wrap ((IntKind.u64.wrap x28).tmod 7) > 5) then
                                            mk.cB W a29 n29 c29 8
                                          else mk.cB W a29 n29 c29 8) ==
                                          bif
                                              bif decide (IntKind.i64.wrap ((IntKind.u64.wrap x28).tmod 7) < 1) then
                                                true
                                              else decide (IntKind.i64.wrap ((IntKind.u64.wrap x28).tmod 7) > 5) then
                                            mk.cB W a29 n29 c29 8
                                          else mk.cB W a29 n29 c29 8) &&
                                        (((bif
                                                bif decide (IntKind.i64.wrap ((IntKind.u64.wrap x28).tmod 7) < 1) then
                                                  true
                                                else decide (IntKind.i64.wrap ((IntKind.u64.wrap x28).tmod 7) > 5) then
                                              mk.cB W a29 n29 c29 9
                                            else mk.cB W a29 n29 c29 9) ==
                                            bif
                                                bif decide (IntKind.i64.wrap ((IntKind.u64.wrap x28).tmod 7) < 1) then
                                                  true
                                                else decide (IntKind.i64.wrap ((IntKind.u64.wrap x28).tmod 7) > 5) then
                                              mk.cB W a29 n29 c29 9
                                            else mk.cB W a29 n29 c29 9) &&
                                          (((bif
                                                  bif decide (IntKind.i64.wrap ((IntKind.u64.wrap x28).tmod 7) < 1) then
                                                    true
                                                  else
                                                    decide (IntKind.i64.wrap ((IntKind.u64.wrap x28).tmod 7) > 5) then
                                                mk.cB W a29 n29 c29 10
                                              else mk.cB W a29 n29 c29 10) ==
                                              bif
                                                  bif decide (IntKind.i64.wrap ((IntKind.u64.wrap x28).tmod 7) < 1) then
                                                    true
                                                  else
                                                    decide (IntKind.i64.wrap ((IntKind.u64.wrap x28).tmod 7) > 5) then
                                                mk.cB W a29 n29 c29 10
                                              else mk.cB W a29 n29 c29 10) &&
                                            (((bif
                                                    bif
                                                        decide
                                                          (IntKind.i64.wrap ((IntKind.u64.wrap x28).tmod 7) < 1) then
                                                      true
                                                    else
                                                      decide (IntKind.i64.wrap ((IntKind.u64.wrap x28).tmod 7) > 5) then
                                                  mk.cB W a29 n29 c29 11
                                                else mk.cB W a29 n29 c29 11) ==
                                                bif
                                                    bif
                                                        decide
                                                          (IntKind.i64.wrap ((IntKind.u64.wrap x28).tmod 7) < 1) then
                                                      true
                                                    else
                                                      decide (IntKind.i64.wrap ((IntKind.u64.wrap x28).tmod 7) > 5) then
                                                  mk.cB W a29 n29 c29 11
                                                else mk.cB W a29 n29 c29 11) &&
                                              (((bif
                                                      bif
                                                          decide
                                                            (IntKind.i64.wrap ((IntKind.u64.wrap x28).tmod 7) < 1) then
                                                        true
                                                      else
                                                        decide
                                                          (IntKind.i64.wrap ((IntKind.u64.wrap x28).tmod 7) > 5) then
                                                    mk.cB W a29 n29 c29 12
                                                  else mk.cB W a29 n29 c29 12) ==
                                                  bif
                                                      bif
                                                          decide
                                                            (IntKind.i64.wrap ((IntKind.u64.wrap x28).tmod 7) < 1) then
                                                        true
                                                      else
                                                        decide
                                                          (IntKind.i64.wrap ((IntKind.u64.wrap x28).tmod 7) > 5) then
                                                    mk.cB W a29 n29 c29 12
                                                  else mk.cB W a29 n29 c29 12) &&
                                                (((bif
                                                        bif
                                                            decide
                                                              (IntKind.i64.wrap ((IntKind.u64.wrap x28).tmod 7) <
                                                                1) then
                                                          true
                                                        else
                                                          decide
                                                            (IntKind.i64.wrap ((IntKind.u64.wrap x28).tmod 7) > 5) then
                                                      mk.cB W a29 n29 c29 13
                                                    else mk.cB W a29 n29 c29 13) ==
                                                    bif
                                                        bif
                                                            decide
                                                              (IntKind.i64.wrap ((IntKind.u64.wrap x28).tmod 7) <
                                                                1) then
                                                          true
                                                        else
                                                          decide
                                                            (IntKind.i64.wrap ((IntKind.u64.wrap x28).tmod 7) > 5) then
                                                      mk.cB W a29 n29 c29 13
                                                    else mk.cB W a29 n29 c29 13) &&
                                                  (bif
                                                        bif
                                                            decide
                                                              (IntKind.i64.wrap ((IntKind.u64.wrap x28).tmod 7) <
                                                                1) then
                                                          true
                                                        else
                                                          decide
                                                            (IntKind.i64.wrap ((IntKind.u64.wrap x28).tmod 7) > 5) then
                                                      mk.cB W a29 n29 c29 14
                                                    else mk.cB W a29 n29 c29 14) ==
                                                    bif
                                                        bif
                                                            decide
                                                              (IntKind.i64.wrap ((IntKind.u64.wrap x28).tmod 7) <
                                                                1) then
                                                          true
                                                        else
                                                          decide
                                                            (IntKind.i64.wrap ((IntKind.u64.wrap x28).tmod 7) > 5) then
                                                      mk.cB W a29 n29 c29 14
                                                    else mk.cB W a29 n29 c29 14))))) &&
                                      (((bif
                                              bif decide (IntKind.i64.wrap ((IntKind.u64.wrap x28).tmod 7) < 1) then
                                                true
                                              else decide (IntKind.i64.wrap ((IntKind.u64.wrap x28).tmod 7) > 5) then
                                            mk.cI W a29 n29 c29 15
                                          else mk.cI W a29 n29 c29 15) ==
                                          bif
                                              bif decide (IntKind.i64.wrap ((IntKind.u64.wrap x28).tmod 7) < 1) then
                                                true
                                              else decide (IntKind.i64.wrap ((IntKind.u64.wrap x28).tmod 7) > 5) then
                                            mk.cI W a29 n29 c29 15
                                          else mk.cI W a29 n29 c29 15) &&
                                        (bif
                                              bif decide (IntKind.i64.wrap ((IntKind.u64.wrap x28).tmod 7) < 1) then
                                                true
                                              else decide (IntKind.i64.wrap ((IntKind.u64.wrap x28).tmod 7) > 5) then
                                            mk.cI W a29 n29 c29 16
                                          else mk.cI W a29 n29 c29 16) ==
                                          bif
                                              bif decide (IntKind.i64.wrap ((IntKind.u64.wrap x28).tmod 7) < 1) then
                                                true
                                              else decide (IntKind.i64.wrap ((IntKind.u64.wrap x28).tmod 7) > 5) then
                                            mk.cI W a29 n29 c29 16
                                          else mk.cI W a29 n29 c29 16)))))))) &&
                      (((bif
                              bif decide (IntKind.i64.wrap ((IntKind.u64.wrap x28).tmod 7) < 1) then true
                              else decide (IntKind.i64.wrap ((IntKind.u64.wrap x28).tmod 7) > 5) then
                            mk.cB W a29 n29 c29 17
                          else false) ==
                          bif
                              bif decide (IntKind.i64.wrap ((IntKind.u64.wrap x28).tmod 7) < 1) then true
                              else decide (IntKind.i64.wrap ((IntKind.u64.wrap x28).tmod 7) > 5) then
                            mk.cB W a29 n29 c29 17
                          else false) &&
                        (((bif
                                bif decide (IntKind.i64.wrap ((IntKind.u64.wrap x28).tmod 7) < 1) then true
                                else decide (IntKind.i64.wrap ((IntKind.u64.wrap x28).tmod 7) > 5) then
                              mk.cB W a29 n29 c29 18
                            else false) ==
                            bif
                                bif decide (IntKind.i64.wrap ((IntKind.u64.wrap x28).tmod 7) < 1) then true
                                else decide (IntKind.i64.wrap ((IntKind.u64.wrap x28).tmod 7) > 5) then
                              mk.cB W a29 n29 c29 18
                            else false) &&
                          (((bif
                                  bif decide (IntKind.i64.wrap ((IntKind.u64.wrap x28).tmod 7) < 1) then true
                                  else decide (IntKind.i64.wrap ((IntKind.u64.wrap x28).tmod 7) > 5) then
                                mk.cI W a29 n29 c29 20
                              else mk.cI W a29 n29 c29 20) ==
                              bif
                                  bif decide (IntKind.i64.wrap ((IntKind.u64.wrap x28).tmod 7) < 1) then true
                                  else decide (IntKind.i64.wrap ((IntKind.u64.wrap x28).tmod 7) > 5) then
                                mk.cI W a29 n29 c29 20
                              else mk.cI W a29 n29 c29 20) &&
                            (((bif
                                    bif decide (IntKind.i64.wrap ((IntKind.u64.wrap x28).tmod 7) < 1) then true
                                    else decide (IntKind.i64.wrap ((IntKind.u64.wrap x28).tmod 7) > 5) then
                                  mk.cB W a29 n29 c29 21
                                else
                                  bif IntKind.i64.wrap ((IntKind.u64.wrap x28).tmod 7) == 1 then false
                                  else mk.cB W a29 n29 c29 21) ==
                                bif
                                    bif decide (IntKind.i64.wrap ((IntKind.u64.wrap x28).tmod 7) < 1) then true
                                    else decide (IntKind.i64.wrap ((IntKind.u64.wrap x28).tmod 7) > 5) then
                                  mk.cB W a29 n29 c29 21
                                else
                                  bif IntKind.i64.wrap ((IntKind.u64.wrap x28).tmod 7) == 1 then false
                                  else mk.cB W a29 n29 c29 21) &&
                              (((bif
                                      bif decide (IntKind.i64.wrap ((IntKind.u64.wrap x28).tmod 7) < 1) then true
                                      else decide (IntKind.i64.wrap ((IntKind.u64.wrap x28).tmod 7) > 5) then
                                    mk.cB W a29 n29 c29 22
                                  else
                                    bif IntKind.i64.wrap ((IntKind.u64.wrap x28).tmod 7) == 1 then
                                      mk.cB W a29 n29 c29 22
                                    else
                                      bif IntKind.i64.wrap ((IntKind.u64.wrap x28).tmod 7) == 2 then false
                                      else mk.cB W a29 n29 c29 22) ==
                                  bif
                                      bif decide (IntKind.i64.wrap ((IntKind.u64.wrap x28).tmod 7) < 1) then true
                                      else decide (IntKind.i64.wrap ((IntKind.u64.wrap x28).tmod 7) > 5) then
                                    mk.cB W a29 n29 c29 22
                                  else
                                    bif IntKind.i64.wrap ((IntKind.u64.wrap x28).tmod 7) == 2 then false
                                    else mk.cB W a29 n29 c29 22) &&
                                (((bif
                                        bif decide (IntKind.i64.wrap ((IntKind.u64.wrap x28).tmod 7) < 1) then true
                                        else decide (IntKind.i64.wrap ((IntKind.u64.wrap x28).tmod 7) > 5) then
                                      mk.cB W a29 n29 c29 23
                                    else mk.cB W a29 n29 c29 23) ==
                                    bif
                                        bif decide (IntKind.i64.wrap ((IntKind.u64.wrap x28).tmod 7) < 1) then true
                                        else decide (IntKind.i64.wrap ((IntKind.u64.wrap x28).tmod 7) > 5) then
                                      mk.cB W a29 n29 c29 23
                                    else mk.cB W a29 n29 c29 23) &&
                                  (((bif
                                          bif decide (IntKind.i64.wrap ((IntKind.u64.wrap x28).tmod 7) < 1) then true
                                          else decide (IntKind.i64.wrap ((IntKind.u64.wrap x28).tmod 7) > 5) then
                                        mk.cB W a29 n29 c29 24
                                      else mk.cB W a29 n29 c29 24) ==
                                      bif
                                          bif decide (IntKind.i64.wrap ((IntKind.u64.wrap x28).tmod 7) < 1) then true
                                          else decide (IntKind.i64.wrap ((IntKind.u64.wrap x28).tmod 7) > 5) then
                                        mk.cB W a29 n29 c29 24
                                      else mk.cB W a29 n29 c29 24) &&
                                    (((bif
                                            bif decide (IntKind.i64.wrap ((IntKind.u64.wrap x28).tmod 7) < 1) then true
                                            else decide (IntKind.i64.wrap ((IntKind.u64.wrap x28).tmod 7) > 5) then
                                          mk.cB W a29 n29 c29 25
                                        else
                                          bif IntKind.i64.wrap ((IntKind.u64.wrap x28).tmod 7) == 1 then true
                                          else mk.cB W a29 n29 c29 25) ==
                                        bif
                                            bif decide (IntKind.i64.wrap ((IntKind.u64.wrap x28).tmod 7) < 1) then true
                                            else decide (IntKind.i64.wrap ((IntKind.u64.wrap x28).tmod 7) > 5) then
                                          mk.cB W a29 n29 c29 25
                                        else
                                          bif IntKind.i64.wrap ((IntKind.u64.wrap x28).tmod 7) == 1 then true
                                          else mk.cB W a29 n29 c29 25) &&
                                      (((bif
                                              bif decide (IntKind.i64.wrap ((IntKind.u64.wrap x28).tmod 7) < 1) then
                                                true
                                              else decide (IntKind.i64.wrap ((IntKind.u64.wrap x28).tmod 7) > 5) then
                                            mk.cB W a29 n29 c29 26
                                          else
                                            bif IntKind.i64.wrap ((IntKind.u64.wrap x28).tmod 7) == 1 then
                                              mk.cB W a29 n29 c29 17
                                            else mk.cB W a29 n29 c29 26) ==
                                          bif
                                              bif decide (IntKind.i64.wrap ((IntKind.u64.wrap x28).tmod 7) < 1) then
                                                true
                                              else decide (IntKind.i64.wrap ((IntKind.u64.wrap x28).tmod 7) > 5) then
                                            mk.cB W a29 n29 c29 26
                                          else
                                            bif IntKind.i64.wrap ((IntKind.u64.wrap x28).tmod 7) == 1 then
                                              mk.cB W a29 n29 c29 17
                                            else mk.cB W a29 n29 c29 26) &&
                                        (bif
                                              bif decide (IntKind.i64.wrap ((IntKind.u64.wrap x28).tmod 7) < 1) then
                                                true
                                              else decide (IntKind.i64.wrap ((IntKind.u64.wrap x28).tmod 7) > 5) then
                                            mk.cB W a29 n29 c29 27
                                          else mk.cB W a29 n29 c29 27) ==
                                          bif
                                              bif decide (IntKind.i64.wrap ((IntKind.u64.wrap x28).tmod 7) < 1) then
                                                true
                                              else decide (IntKind.i64.wrap ((IntKind.u64.wrap x28).tmod 7) > 5) then
                                            mk.cB W a29 n29 c29 27
                                          else mk.cB W a29 n29 c29 27)))))))))) then
                bif
                    (bif x28 == 1 then (36 : Int)
                      else bif x28 == 2 then (60 : Int) else bif x28 == 3 then (52 : Int) else bif x28 == 4 then (44 : Int) else (0 : Int)) ==
                      bif x28 == 1 then (36 : Int)
                      else bif x28 == 2 then (60 : Int) else bif x28 == 3 then (52 : Int) else bif x28 == 4 then (44 : Int) else (0 : Int) then
                  bif
                      (bif IntKind.i64.wrap ((IntKind.u64.wrap x28).tmod 7) == 1 then (36 : Int)
                        else
                          bif IntKind.i64.wrap ((IntKind.u64.wrap x28).tmod 7) == 2 then (60 : Int)
                          else
                            bif IntKind.i64.wrap ((IntKind.u64.wrap x28).tmod 7) == 3 then (52 : Int)
                            else bif IntKind.i64.wrap ((IntKind.u64.wrap x28).tmod 7) == 4 then (44 : Int) else (0 : Int)) ==
                        bif IntKind.i64.wrap ((IntKind.u64.wrap x28).tmod 7) == 1 then (36 : Int)
                        else
                          bif IntKind.i64.wrap ((IntKind.u64.wrap x28).tmod 7) == 2 then (60 : Int)
                          else
                            bif IntKind.i64.wrap ((IntKind.u64.wrap x28).tmod 7) == 3 then (52 : Int)
                            else bif IntKind.i64.wrap ((IntKind.u64.wrap x28).tmod 7) == 4 then (44 : Int) else (0 : Int) then
                    bif
                        x0 == x0 &&
                          (x1 == x1 &&
                              (x2 == x2 &&
                                (x3 == x3 &&
                                  (x4 == x4 &&
                                    (x5 == x5 &&
                                      (x6 == x6 &&
                                        (x7 == x7 &&
                                          (x8 == x8 &&
                                              (x9 == x9 &&
                                                (x10 == x10 &&
                                                  (x11 == x11 && (x12 == x12 && (x13 == x13 && x14 == x14))))) &&
                                            x15 == x15))))))) &&
                            (bif x0 == 2 then (7 : Int) else (0 : Int)) == bif x0 == 2 then (7 : Int) else (0 : Int)) then
                      mk.cI W a29 n29 c29 0 == mk.cI W a29 n29 c29 0 &&
                        (mk.cI W a29 n29 c29 1 == mk.cI W a29 n29 c29 1 &&
                            (mk.cI W a29 n29 c29 2 == mk.cI W a29 n29 c29 2 &&
                              (mk.cI W a29 n29 c29 3 == mk.cI W a29 n29 c29 3 &&
                                (mk.cI W a29 n29 c29 4 == mk.cI W a29 n29 c29 4 &&
                                  (mk.cI W a29 n29 c29 5 == mk.cI W a29 n29 c29 5 &&
                                    (mk.cI W a29 n29 c29 6 == mk.cI W a29 n29 c29 6 &&
                                      (mk.cI W a29 n29 c29 7 == mk.cI W a29 n29 c29 7 &&
                                        (mk.cB W a29 n29 c29 8 == mk.cB W a29 n29 c29 8 &&
                                            (mk.cB W a29 n29 c29 9 == mk.cB W a29 n29 c29 9 &&
                                              (mk.cB W a29 n29 c29 10 == mk.cB W a29 n29 c29 10 &&
                                                (mk.cB W a29 n29 c29 11 == mk.cB W a29 n29 c29 11 &&
                                                  (mk.cB W a29 n29 c29 12 == mk.cB W a29 n29 c29 12 &&
                                                    (mk.cB W a29 n29 c29 13 == mk.cB W a29 n29 c29 13 &&
                                                      mk.cB W a29 n29 c29 14 == mk.cB W a29 n29 c29 14))))) &&
                                          mk.cI W a29 n29 c29 15 == mk.cI W a29 n29 c29 15))))))) &&
                          (bif mk.cI W a29 n29 c29 0 == 2 then (7 : Int) else (0 : Int)) ==
                            bif mk.cI W a29 n29 c29 0 == 2 then (7 : Int) else (0 : Int))
                    else false
                  else false
                else false
              else false
            else false))))
else none) := by kernel_rfl

theorem walk (W : World) (e : Env) (h : argsOk W e 0 shapes) : okTrue (eval Try.prog W (irq.G W) 8 (argsTV e 0 shapes)) = true := by
  have hr : mk.okRow W (e.a 29) (e.len 29) (e.cap 29) = true := mk.okRow_of h.2.2.1
  refine (nf W (e.n 0) (e.n 1) (e.n 2) (e.n 3) (e.n 4) (e.n 5) (e.n 6) (e.n 7) (e.b 8) (e.b 9) (e.b 10) (e.b 11) (e.b 12) (e.b 13) (e.b 14) (e.n 15) (e.n 16) (e.b 17) (e.b 18) (e.b 19) (e.n 20) (e.b 21) (e.b 22) (e.b 23) (e.b 24) (e.b 25) (e.b 26) (e.b 27) (e.n 28) (e.a 29) (e.len 29) (e.cap 29)).trans ?_
  simp only [hr, irq.acc, beq_self_eq_true, Bool.and_self, cond_true, Bool.cond_self]
  rfl

theorem own : ownKnob Try.prog.godebug = none := by kernel_rfl

theorem lifted (os : Os) (started : os.Started) (H : Type) (enc : TypeId × Value → H) :
    ReturnsInHanded {} Try.checked os 8 .any (Rows.irqAcceptsSpec.pre6 enc Try.prog Try.f8 Rows.irqAcceptsRow.domain false) (Rows.irqAcceptsSpec.post enc Try.prog Try.f8 false true false false) :=
  law_step (C := Try.checked) 3 own started (by kernel_rfl) Try.func8 (by kernel_rfl) (by kernel_rfl) rfl
    (fun ds hd => by
      match ds, hd with
      | [d0, d1, d2], _ => rfl)
    (ChangeSpec.witness6 (enc := enc) (C := Try.checked) false ⟨#[], #[.agg #[.int .i64 0, .int .u8 0, .int .u8 0, .int .u8 0, .int .u8 0, .int .u8 0, .int .u8 0, .int .u8 0, .bool false, .bool false, .bool false, .bool false, .bool false, .bool false, .bool false, .int .u16 0, .int .u16 0, .bool false, .bool false, .bool false, .int .u8 0, .bool false, .bool false, .bool false, .bool false, .bool false, .bool false, .bool false], .int .i64 0, .slice none 0 0], []⟩ 8 (by kernel_rfl) (by kernel_rfl) (by kernel_rfl) (by kernel_rfl))
    (fun W base args hv hl _ _ htr => plain_walk (P := Try.prog) (G := fun W => irq.G W) irq.gok shapes (by kernel_rfl) walk W base args hv hl htr)

theorem over : Rows.irqAcceptsRow.holds Try.pinned (OpenSpec.ofChange Rows.irqAcceptsSpec) :=
  OpenClaim.holds_of_wide 8 Try.f8 rfl rfl rfl rfl rfl rfl rfl ⟨rfl, rfl, rfl, rfl, rfl⟩ rfl rfl rfl rfl rfl (by kernel_rfl) Try.func8 (by kernel_rfl)
    (of_decide_eq_true (by kernel_rfl)) (by unfold Func.isWrapper; first | (rw [if_pos (by decide +kernel)]; kernel_rfl) | (rw [if_neg (by decide +kernel)]; exact ⟨rfl, rfl⟩))
    (fun os started H enc _ => lifted os started H enc)

theorem proved : Rows.IrqAcceptsSaid := over
#print axioms proved
end Go.Proofs.Ytdmpagiankblpaa.irqAccepts
