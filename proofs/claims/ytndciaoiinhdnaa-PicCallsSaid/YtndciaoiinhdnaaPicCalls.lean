/- tstatelaw22.PicCalls returns true for every input; no condition. -/
import Derived.Test.YtndciaoiinhdnaaPicB
namespace Go.Proofs.Ytndciaoiinhdnaa.picCalls
open Go Go.Sx Go.RowKit
set_option maxRecDepth 100000

def shapes : List ASh := [.ints .i64, .one (.int .u8), .one (.int .u8)]
theorem nf (W : World) (a0 : Option Addr) (n0 : Nat) (c0 : Nat) (x1 : Int) (x2 : Int) : okTrue (eval Try.prog W (pc.G W) 4 [.one (.sl a0 n0 c0), .one (.int .u8 (.sym x1)), .one (.int .u8 (.sym x2))]) =
  okTrue (bif
    bif decide ((n0 : Int) > 80) then true
    else
      mk.okRow W a0 n0 c0 &&
        ((bif
              decide
                (pr.pk (bif mk.pB W a0 n0 c0 1 then mk.pI W a0 n0 c0 12 else mk.pI W a0 n0 c0 13) (mk.pI W a0 n0 c0 15)
                    (mk.pI W a0 n0 c0 14) (mk.pI W a0 n0 c0 16) (mk.pB W a0 n0 c0 9) <
                  0) then
            true
          else
            decide
                (0 ≤
                  pr.pk (bif mk.pB W a0 n0 c0 1 then mk.pI W a0 n0 c0 12 else mk.pI W a0 n0 c0 13) (mk.pI W a0 n0 c0 15)
                    (mk.pI W a0 n0 c0 14) (mk.pI W a0 n0 c0 16) (mk.pB W a0 n0 c0 9)) &&
              decide
                (0 ≤
                  pr.pk (bif mk.pB W a0 n0 c0 1 then mk.pI W a0 n0 c0 12 else mk.pI W a0 n0 c0 13) (mk.pI W a0 n0 c0 15)
                    (mk.pI W a0 n0 c0 14) (mk.pI W a0 n0 c0 16) (mk.pB W a0 n0 c0 9))) &&
          ((bif
                bif
                    bif
                        bif
                            decide
                              (pr.pk (bif mk.pB W a0 n0 c0 1 then mk.pI W a0 n0 c0 12 else mk.pI W a0 n0 c0 13)
                                  (mk.pI W a0 n0 c0 15) (mk.pI W a0 n0 c0 14) (mk.pI W a0 n0 c0 16)
                                  (mk.pB W a0 n0 c0 9) <
                                0) then
                          mk.pB W a0 n0 c0 2
                        else mk.pB W a0 n0 c0 2 then
                      bif
                          decide
                            (pr.pk (bif mk.pB W a0 n0 c0 1 then mk.pI W a0 n0 c0 12 else mk.pI W a0 n0 c0 13)
                                (mk.pI W a0 n0 c0 15) (mk.pI W a0 n0 c0 14) (mk.pI W a0 n0 c0 16) (mk.pB W a0 n0 c0 9) <
                              0) then
                        mk.pB W a0 n0 c0 7
                      else mk.pB W a0 n0 c0 7
                    else
                      bif
                          decide
                            (pr.pk (bif mk.pB W a0 n0 c0 1 then mk.pI W a0 n0 c0 12 else mk.pI W a0 n0 c0 13)
                                (mk.pI W a0 n0 c0 15) (mk.pI W a0 n0 c0 14) (mk.pI W a0 n0 c0 16) (mk.pB W a0 n0 c0 9) <
                              0) then
                        mk.pB W a0 n0 c0 7
                      else mk.pB W a0 n0 c0 7 then
                  !bif
                        bif
                            decide
                              (pr.pk (bif mk.pB W a0 n0 c0 1 then mk.pI W a0 n0 c0 12 else mk.pI W a0 n0 c0 13)
                                  (mk.pI W a0 n0 c0 15) (mk.pI W a0 n0 c0 14) (mk.pI W a0 n0 c0 16)
                                  (mk.pB W a0 n0 c0 9) <
                                0) then
                          mk.pB W a0 n0 c0 2
                        else mk.pB W a0 n0 c0 2 then
                      bif
                          decide
                            (pr.pk (bif mk.pB W a0 n0 c0 1 then mk.pI W a0 n0 c0 12 else mk.pI W a0 n0 c0 13)
                                (mk.pI W a0 n0 c0 15) (mk.pI W a0 n0 c0 14) (mk.pI W a0 n0 c0 16) (mk.pB W a0 n0 c0 9) <
                              0) then
                        decide
                          (pr.pk (bif mk.pB W a0 n0 c0 1 then mk.pI W a0 n0 c0 12 else mk.pI W a0 n0 c0 13)
                              (mk.pI W a0 n0 c0 15) (mk.pI W a0 n0 c0 14) (mk.pI W a0 n0 c0 16) (mk.pB W a0 n0 c0 9) <
                            0)
                      else
                        decide
                          (pr.pk (bif mk.pB W a0 n0 c0 1 then mk.pI W a0 n0 c0 12 else mk.pI W a0 n0 c0 13)
                              (mk.pI W a0 n0 c0 15) (mk.pI W a0 n0 c0 14) (mk.pI W a0 n0 c0 16) (mk.pB W a0 n0 c0 9) <
                            0)
                    else
                      bif
                          decide
                            (pr.pk (bif mk.pB W a0 n0 c0 1 then mk.pI W a0 n0 c0 12 else mk.pI W a0 n0 c0 13)
                                (mk.pI W a0 n0 c0 15) (mk.pI W a0 n0 c0 14) (mk.pI W a0 n0 c0 16) (mk.pB W a0 n0 c0 9) <
                              0) then
                        decide
                          (pr.pk (bif mk.pB W a0 n0 c0 1 then mk.pI W a0 n0 c0 12 else mk.pI W a0 n0 c0 13)
                              (mk.pI W a0 n0 c0 15) (mk.pI W a0 n0 c0 14) (mk.pI W a0 n0 c0 16) (mk.pB W a0 n0 c0 9) <
                            0)
                      else
                        decide
                          (pr.pk (bif mk.pB W a0 n0 c0 1 then mk.pI W a0 n0 c0 12 else mk.pI W a0 n0 c0 13)
                              (mk.pI W a0 n0 c0 15) (mk.pI W a0 n0 c0 14) (mk.pI W a0 n0 c0 16) (mk.pB W a0 n0 c0 9) <
                            0)
                else false then
              decide
                (0 ≤
                  bits BinOp.and IntKind.i64
                    (bif
                        bif
                            decide
                              (pr.pk (bif mk.pB W a0 n0 c0 1 then mk.pI W a0 n0 c0 12 else mk.pI W a0 n0 c0 13)
                                  (mk.pI W a0 n0 c0 15) (mk.pI W a0 n0 c0 14) (mk.pI W a0 n0 c0 16)
                                  (mk.pB W a0 n0 c0 9) <
                                0) then
                          mk.pB W a0 n0 c0 2
                        else mk.pB W a0 n0 c0 2 then
                      bif
                          decide
                            (pr.pk (bif mk.pB W a0 n0 c0 1 then mk.pI W a0 n0 c0 12 else mk.pI W a0 n0 c0 13)
                                (mk.pI W a0 n0 c0 15) (mk.pI W a0 n0 c0 14) (mk.pI W a0 n0 c0 16) (mk.pB W a0 n0 c0 9) <
                              0) then
                        (7 : Int)
                      else
                        pr.pk (bif mk.pB W a0 n0 c0 1 then mk.pI W a0 n0 c0 12 else mk.pI W a0 n0 c0 13)
                          (mk.pI W a0 n0 c0 15) (mk.pI W a0 n0 c0 14) (mk.pI W a0 n0 c0 16) (mk.pB W a0 n0 c0 9)
                    else
                      bif
                          decide
                            (pr.pk (bif mk.pB W a0 n0 c0 1 then mk.pI W a0 n0 c0 12 else mk.pI W a0 n0 c0 13)
                                (mk.pI W a0 n0 c0 15) (mk.pI W a0 n0 c0 14) (mk.pI W a0 n0 c0 16) (mk.pB W a0 n0 c0 9) <
                              0) then
                        (7 : Int)
                      else
                        pr.pk (bif mk.pB W a0 n0 c0 1 then mk.pI W a0 n0 c0 12 else mk.pI W a0 n0 c0 13)
                          (mk.pI W a0 n0 c0 15) (mk.pI W a0 n0 c0 14) (mk.pI W a0 n0 c0 16) (mk.pB W a0 n0 c0 9))
                    7)
            else true) &&
            ((bif
                  bif
                      decide
                        (pr.pk (bif mk.pB W a0 n0 c0 1 then mk.pI W a0 n0 c0 12 else mk.pI W a0 n0 c0 13)
                            (mk.pI W a0 n0 c0 15) (mk.pI W a0 n0 c0 14) (mk.pI W a0 n0 c0 16) (mk.pB W a0 n0 c0 9) ≥
                          0) then
                    !mk.pB W a0 n0 c0 7
                  else false then
                decide
                  (0 ≤
                    pr.pk (bif mk.pB W a0 n0 c0 1 then mk.pI W a0 n0 c0 12 else mk.pI W a0 n0 c0 13)
                      (mk.pI W a0 n0 c0 15) (mk.pI W a0 n0 c0 14) (mk.pI W a0 n0 c0 16) (mk.pB W a0 n0 c0 9))
              else true) &&
              bif
                  bif
                      decide
                        (pr.pk (bif mk.pB W a0 n0 c0 1 then mk.pI W a0 n0 c0 12 else mk.pI W a0 n0 c0 13)
                            (mk.pI W a0 n0 c0 15) (mk.pI W a0 n0 c0 14) (mk.pI W a0 n0 c0 16) (mk.pB W a0 n0 c0 9) ≥
                          0) then
                    mk.pB W a0 n0 c0 7
                  else false then
                decide
                  (0 ≤
                    pr.pk (bif mk.pB W a0 n0 c0 1 then mk.pI W a0 n0 c0 12 else mk.pI W a0 n0 c0 13)
                      (mk.pI W a0 n0 c0 15) (mk.pI W a0 n0 c0 14) (mk.pI W a0 n0 c0 16) (mk.pB W a0 n0 c0 9))
              else true))) then
  some
    (TV.one
      (SV.bool
        (SB.sym
          (bif decide ((n0 : Int) > 80) then true
          else
            bif
                gadd IntKind.i64
                    (gmul IntKind.i64
                      (IntKind.i64.wrap
                        (bif
                            bif
                                bif
                                    bif
                                        decide
                                          (pr.pk
                                              (bif mk.pB W a0 n0 c0 1 then mk.pI W a0 n0 c0 12 else mk.pI W a0 n0 c0 13)
                                              (mk.pI W a0 n0 c0 15) (mk.pI W a0 n0 c0 14) (mk.pI W a0 n0 c0 16)
                                              (mk.pB W a0 n0 c0 9) <
                                            0) then
                                      mk.pB W a0 n0 c0 2
                                    else mk.pB W a0 n0 c0 2 then
                                  bif
                                      decide
                                        (pr.pk
                                            (bif mk.pB W a0 n0 c0 1 then mk.pI W a0 n0 c0 12 else mk.pI W a0 n0 c0 13)
                                            (mk.pI W a0 n0 c0 15) (mk.pI W a0 n0 c0 14) (mk.pI W a0 n0 c0 16)
                                            (mk.pB W a0 n0 c0 9) <
                                          0) then
                                    mk.pB W a0 n0 c0 7
                                  else mk.pB W a0 n0 c0 7
                                else
                                  bif
                                      decide
                                        (pr.pk
                                            (bif mk.pB W a0 n0 c0 1 then mk.pI W a0 n0 c0 12 else mk.pI W a0 n0 c0 13)
                                            (mk.pI W a0 n0 c0 15) (mk.pI W a0 n0 c0 14) (mk.pI W a0 n0 c0 16)
                                            (mk.pB W a0 n0 c0 9) <
                                          0) then
                                    mk.pB W a0 n0 c0 7
                                  else mk.pB W a0 n0 c0 7 then
                              !bif
                                    bif
                                        decide
                                          (pr.pk
                                              (bif mk.pB W a0 n0 c0 1 then mk.pI W a0 n0 c0 12 else mk.pI W a0 n0 c0 13)
                                              (mk.pI W a0 n0 c0 15) (mk.pI W a0 n0 c0 14) (mk.pI W a0 n0 c0 16)
                                              (mk.pB W a0 n0 c0 9) <
                                            0) then
                                      mk.pB W a0 n0 c0 2
                                    else mk.pB W a0 n0 c0 2 then
                                  bif
                                      decide
                                        (pr.pk
                                            (bif mk.pB W a0 n0 c0 1 then mk.pI W a0 n0 c0 12 else mk.pI W a0 n0 c0 13)
                                            (mk.pI W a0 n0 c0 15) (mk.pI W a0 n0 c0 14) (mk.pI W a0 n0 c0 16)
                                            (mk.pB W a0 n0 c0 9) <
                                          0) then
                                    decide
                                      (pr.pk (bif mk.pB W a0 n0 c0 1 then mk.pI W a0 n0 c0 12 else mk.pI W a0 n0 c0 13)
                                          (mk.pI W a0 n0 c0 15) (mk.pI W a0 n0 c0 14) (mk.pI W a0 n0 c0 16)
                                          (mk.pB W a0 n0 c0 9) <
                                        0)
                                  else
                                    decide
                                      (pr.pk (bif mk.pB W a0 n0 c0 1 then mk.pI W a0 n0 c0 12 else mk.pI W a0 n0 c0 13)
                                          (mk.pI W a0 n0 c0 15) (mk.pI W a0 n0 c0 14) (mk.pI W a0 n0 c0 16)
                                          (mk.pB W a0 n0 c0 9) <
                                        0)
                                else
                                  bif
                                      decide
                                        (pr.pk
                                            (bif mk.pB W a0 n0 c0 1 then mk.pI W a0 n0 c0 12 else mk.pI W a0 n0 c0 13)
                                            (mk.pI W a0 n0 c0 15) (mk.pI W a0 n0 c0 14) (mk.pI W a0 n0 c0 16)
                                            (mk.pB W a0 n0 c0 9) <
                                          0) then
                                    decide
                                      (pr.pk (bif mk.pB W a0 n0 c0 1 then mk.pI W a0 n0 c0 12 else mk.pI W a0 n0 c0 13)
                                          (mk.pI W a0 n0 c0 15) (mk.pI W a0 n0 c0 14) (mk.pI W a0 n0 c0 16)
                                          (mk.pB W a0 n0 c0 9) <
                                        0)
                                  else
                                    decide
                                      (pr.pk (bif mk.pB W a0 n0 c0 1 then mk.pI W a0 n0 c0 12 else mk.pI W a0 n0 c0 13)
                                          (mk.pI W a0 n0 c0 15) (mk.pI W a0 n0 c0 14) (mk.pI W a0 n0 c0 16)
                                          (mk.pB W a0 n0 c0 9) <
                                        0)
                            else false then
                          bif
                              bif
                                  decide
                                    (pr.pk (bif mk.pB W a0 n0 c0 1 then mk.pI W a0 n0 c0 12 else mk.pI W a0 n0 c0 13)
                                        (mk.pI W a0 n0 c0 15) (mk.pI W a0 n0 c0 14) (mk.pI W a0 n0 c0 16)
                                        (mk.pB W a0 n0 c0 9) <
                                      0) then
                                mk.pB W a0 n0 c0 2
                              else mk.pB W a0 n0 c0 2 then
                            bif
                                decide
                                  (pr.pk (bif mk.pB W a0 n0 c0 1 then mk.pI W a0 n0 c0 12 else mk.pI W a0 n0 c0 13)
                                      (mk.pI W a0 n0 c0 15) (mk.pI W a0 n0 c0 14) (mk.pI W a0 n0 c0 16)
                                      (mk.pB W a0 n0 c0 9) <
                                    0) then
                              mk.pI W a0 n0 c0 6
                            else mk.pI W a0 n0 c0 6
                          else
                            bif
                                decide
                                  (pr.pk (bif mk.pB W a0 n0 c0 1 then mk.pI W a0 n0 c0 12 else mk.pI W a0 n0 c0 13)
                                      (mk.pI W a0 n0 c0 15) (mk.pI W a0 n0 c0 14) (mk.pI W a0 n0 c0 16)
                                      (mk.pB W a0 n0 c0 9) <
                                    0) then
                              mk.pI W a0 n0 c0 6
                            else mk.pI W a0 n0 c0 6
                        else
                          bif
                              bif
                                  decide
                                    (pr.pk (bif mk.pB W a0 n0 c0 1 then mk.pI W a0 n0 c0 12 else mk.pI W a0 n0 c0 13)
                                        (mk.pI W a0 n0 c0 15) (mk.pI W a0 n0 c0 14) (mk.pI W a0 n0 c0 16)
                                        (mk.pB W a0 n0 c0 9) <
                                      0) then
                                mk.pB W a0 n0 c0 2
                              else mk.pB W a0 n0 c0 2 then
                            bif
                                decide
                                  (pr.pk (bif mk.pB W a0 n0 c0 1 then mk.pI W a0 n0 c0 12 else mk.pI W a0 n0 c0 13)
                                      (mk.pI W a0 n0 c0 15) (mk.pI W a0 n0 c0 14) (mk.pI W a0 n0 c0 16)
                                      (mk.pB W a0 n0 c0 9) <
                                    0) then
                              mk.pI W a0 n0 c0 6
                            else mk.pI W a0 n0 c0 6
                          else
                            bif
                                decide
                                  (pr.pk (bif mk.pB W a0 n0 c0 1 then mk.pI W a0 n0 c0 12 else mk.pI W a0 n0 c0 13)
                                      (mk.pI W a0 n0 c0 15) (mk.pI W a0 n0 c0 14) (mk.pI W a0 n0 c0 16)
                                      (mk.pB W a0 n0 c0 9) <
                                    0) then
                              mk.pI W a0 n0 c0 6
                            else mk.pI W a0 n0 c0 6))
                      256)
                    (IntKind.i64.wrap
                      (bif
                          bif
                              decide
                                (pr.pk (bif mk.pB W a0 n0 c0 1 then mk.pI W a0 n0 c0 12 else mk.pI W a0 n0 c0 13)
                                    (mk.pI W a0 n0 c0 15) (mk.pI W a0 n0 c0 14) (mk.pI W a0 n0 c0 16)
                                    (mk.pB W a0 n0 c0 9) <
                                  0) then
                            mk.pB W a0 n0 c0 2
                          else mk.pB W a0 n0 c0 2 then
                        gadd IntKind.u8
                          (bits BinOp.and IntKind.u8
                            (bif
                                decide
                                  (pr.pk (bif mk.pB W a0 n0 c0 1 then mk.pI W a0 n0 c0 12 else mk.pI W a0 n0 c0 13)
                                      (mk.pI W a0 n0 c0 15) (mk.pI W a0 n0 c0 14) (mk.pI W a0 n0 c0 16)
                                      (mk.pB W a0 n0 c0 9) <
                                    0) then
                              mk.pI W a0 n0 c0 5
                            else mk.pI W a0 n0 c0 5)
                            224)
                          (IntKind.u8.wrap
                            (gmul IntKind.i64 4
                              (bits BinOp.and IntKind.i64
                                (bif
                                    decide
                                      (pr.pk (bif mk.pB W a0 n0 c0 1 then mk.pI W a0 n0 c0 12 else mk.pI W a0 n0 c0 13)
                                          (mk.pI W a0 n0 c0 15) (mk.pI W a0 n0 c0 14) (mk.pI W a0 n0 c0 16)
                                          (mk.pB W a0 n0 c0 9) <
                                        0) then
                                  (7 : Int)
                                else
                                  pr.pk (bif mk.pB W a0 n0 c0 1 then mk.pI W a0 n0 c0 12 else mk.pI W a0 n0 c0 13)
                                    (mk.pI W a0 n0 c0 15) (mk.pI W a0 n0 c0 14) (mk.pI W a0 n0 c0 16)
                                    (mk.pB W a0 n0 c0 9))
                                7)))
                      else
                        gadd IntKind.u8
                          (bits BinOp.and IntKind.u8
                            (bif
                                decide
                                  (pr.pk (bif mk.pB W a0 n0 c0 1 then mk.pI W a0 n0 c0 12 else mk.pI W a0 n0 c0 13)
                                      (mk.pI W a0 n0 c0 15) (mk.pI W a0 n0 c0 14) (mk.pI W a0 n0 c0 16)
                                      (mk.pB W a0 n0 c0 9) <
                                    0) then
                              mk.pI W a0 n0 c0 5
                            else mk.pI W a0 n0 c0 5)
                            192)
                          (IntKind.u8.wrap
                            (gmul IntKind.i64 8
                              (bits BinOp.and IntKind.i64
                                (bif
                                    decide
                                      (pr.pk (bif mk.pB W a0 n0 c0 1 then mk.pI W a0 n0 c0 12 else mk.pI W a0 n0 c0 13)
                                          (mk.pI W a0 n0 c0 15) (mk.pI W a0 n0 c0 14) (mk.pI W a0 n0 c0 16)
                                          (mk.pB W a0 n0 c0 9) <
                                        0) then
                                  (7 : Int)
                                else
                                  pr.pk (bif mk.pB W a0 n0 c0 1 then mk.pI W a0 n0 c0 12 else mk.pI W a0 n0 c0 13)
                                    (mk.pI W a0 n0 c0 15) (mk.pI W a0 n0 c0 14) (mk.pI W a0 n0 c0 16)
                                    (mk.pB W a0 n0 c0 9))
                                7))))) ==
                  bif mk.pB W a0 n0 c0 2 then
                    gadd IntKind.i64
                      (gadd IntKind.i64 (gmul IntKind.i64 (IntKind.i64.wrap (mk.pI W a0 n0 c0 6)) 256)
                        (IntKind.i64.wrap (bits BinOp.and IntKind.u8 (mk.pI W a0 n0 c0 5) 224)))
                      (gmul IntKind.i64 4
                        (bif
                            decide
                              (pr.pk (bif mk.pB W a0 n0 c0 1 then mk.pI W a0 n0 c0 12 else mk.pI W a0 n0 c0 13)
                                  (mk.pI W a0 n0 c0 15) (mk.pI W a0 n0 c0 14) (mk.pI W a0 n0 c0 16)
                                  (mk.pB W a0 n0 c0 9) <
                                0) then
                          (7 : Int)
                        else
                          pr.pk (bif mk.pB W a0 n0 c0 1 then mk.pI W a0 n0 c0 12 else mk.pI W a0 n0 c0 13)
                            (mk.pI W a0 n0 c0 15) (mk.pI W a0 n0 c0 14) (mk.pI W a0 n0 c0 16) (mk.pB W a0 n0 c0 9)))
                  else
                    gadd IntKind.i64
                      (gadd IntKind.i64 (gmul IntKind.i64 (IntKind.i64.wrap (mk.pI W a0 n0 c0 6)) 256)
                        (IntKind.i64.wrap (bits BinOp.and IntKind.u8 (mk.pI W a0 n0 c0 5) 192)))
                      (gmul IntKind.i64 8
                        (bif
                            decide
                              (pr.pk (bif mk.pB W a0 n0 c0 1 then mk.pI W a0 n0 c0 12 else mk.pI W a0 n0 c0 13)
                                  (mk.pI W a0 n0 c0 15) (mk.pI W a0 n0 c0 14) (mk.pI W a0 n0 c0 16)
                                  (mk.pB W a0 n0 c0 9) <
                                0) then
                          (7 : Int)
                        else
                          pr.pk (bif mk.pB W a0 n0 c0 1 then mk.pI W a0 n0 c0 12 else mk.pI W a0 n0 c0 13)
                            (mk.pI W a0 n0 c0 15) (mk.pI W a0 n0 c0 14) (mk.pI W a0 n0 c0 16)
                            (mk.pB W a0 n0 c0 9))) then
              (bif
                    bif
                        bif
                            bif
                                decide
                                  (pr.pk (bif mk.pB W a0 n0 c0 1 then mk.pI W a0 n0 c0 12 else mk.pI W a0 n0 c0 13)
                                      (mk.pI W a0 n0 c0 15) (mk.pI W a0 n0 c0 14) (mk.pI W a0 n0 c0 16)
                                      (mk.pB W a0 n0 c0 9) <
                                    0) then
                              mk.pB W a0 n0 c0 2
                            else mk.pB W a0 n0 c0 2 then
                          bif
                              decide
                                (pr.pk (bif mk.pB W a0 n0 c0 1 then mk.pI W a0 n0 c0 12 else mk.pI W a0 n0 c0 13)
                                    (mk.pI W a0 n0 c0 15) (mk.pI W a0 n0 c0 14) (mk.pI W a0 n0 c0 16)
                                    (mk.pB W a0 n0 c0 9) <
                                  0) then
                            mk.pB W a0 n0 c0 7
                          else mk.pB W a0 n0 c0 7
                        else
                          bif
                              decide
                                (pr.pk (bif mk.pB W a0 n0 c0 1 then mk.pI W a0 n0 c0 12 else mk.pI W a0 n0 c0 13)
                                    (mk.pI W a0 n0 c0 15) (mk.pI W a0 n0 c0 14) (mk.pI W a0 n0 c0 16)
                                    (mk.pB W a0 n0 c0 9) <
                                  0) then
                            mk.pB W a0 n0 c0 7
                          else mk.pB W a0 n0 c0 7 then
                      !bif
                            bif
                                decide
                                  (pr.pk (bif mk.pB W a0 n0 c0 1 then mk.pI W a0 n0 c0 12 else mk.pI W a0 n0 c0 13)
                                      (mk.pI W a0 n0 c0 15) (mk.pI W a0 n0 c0 14) (mk.pI W a0 n0 c0 16)
                                      (mk.pB W a0 n0 c0 9) <
                                    0) then
                              mk.pB W a0 n0 c0 2
                            else mk.pB W a0 n0 c0 2 then
                          bif
                              decide
                                (pr.pk (bif mk.pB W a0 n0 c0 1 then mk.pI W a0 n0 c0 12 else mk.pI W a0 n0 c0 13)
                                    (mk.pI W a0 n0 c0 15) (mk.pI W a0 n0 c0 14) (mk.pI W a0 n0 c0 16)
                                    (mk.pB W a0 n0 c0 9) <
                                  0) then
                            decide
                              (pr.pk (bif mk.pB W a0 n0 c0 1 then mk.pI W a0 n0 c0 12 else mk.pI W a0 n0 c0 13)
                                  (mk.pI W a0 n0 c0 15) (mk.pI W a0 n0 c0 14) (mk.pI W a0 n0 c0 16)
                                  (mk.pB W a0 n0 c0 9) <
                                0)
                          else
                            decide
                              (pr.pk (bif mk.pB W a0 n0 c0 1 then mk.pI W a0 n0 c0 12 else mk.pI W a0 n0 c0 13)
                                  (mk.pI W a0 n0 c0 15) (mk.pI W a0 n0 c0 14) (mk.pI W a0 n0 c0 16)
                                  (mk.pB W a0 n0 c0 9) <
                                0)
                        else
                          bif
                              decide
                                (pr.pk (bif mk.pB W a0 n0 c0 1 then mk.pI W a0 n0 c0 12 else mk.pI W a0 n0 c0 13)
                                    (mk.pI W a0 n0 c0 15) (mk.pI W a0 n0 c0 14) (mk.pI W a0 n0 c0 16)
                                    (mk.pB W a0 n0 c0 9) <
                                  0) then
                            decide
                              (pr.pk (bif mk.pB W a0 n0 c0 1 then mk.pI W a0 n0 c0 12 else mk.pI W a0 n0 c0 13)
                                  (mk.pI W a0 n0 c0 15) (mk.pI W a0 n0 c0 14) (mk.pI W a0 n0 c0 16)
                                  (mk.pB W a0 n0 c0 9) <
                                0)
                          else
                            decide
                              (pr.pk (bif mk.pB W a0 n0 c0 1 then mk.pI W a0 n0 c0 12 else mk.pI W a0 n0 c0 13)
                                  (mk.pI W a0 n0 c0 15) (mk.pI W a0 n0 c0 14) (mk.pI W a0 n0 c0 16)
                                  (mk.pB W a0 n0 c0 9) <
                                0)
                    else false then
                  bits BinOp.andNot IntKind.u8
                    (bif
                        bif
                            decide
                              (pr.pk (bif mk.pB W a0 n0 c0 1 then mk.pI W a0 n0 c0 12 else mk.pI W a0 n0 c0 13)
                                  (mk.pI W a0 n0 c0 15) (mk.pI W a0 n0 c0 14) (mk.pI W a0 n0 c0 16)
                                  (mk.pB W a0 n0 c0 9) <
                                0) then
                          mk.pB W a0 n0 c0 2
                        else mk.pB W a0 n0 c0 2 then
                      bif
                          decide
                            (pr.pk (bif mk.pB W a0 n0 c0 1 then mk.pI W a0 n0 c0 12 else mk.pI W a0 n0 c0 13)
                                (mk.pI W a0 n0 c0 15) (mk.pI W a0 n0 c0 14) (mk.pI W a0 n0 c0 16) (mk.pB W a0 n0 c0 9) <
                              0) then
                        mk.pI W a0 n0 c0 14
                      else
                        bits BinOp.or IntKind.u8 (mk.pI W a0 n0 c0 14)
                          (gshl IntKind.u8 1
                            (pr.pk (bif mk.pB W a0 n0 c0 1 then mk.pI W a0 n0 c0 12 else mk.pI W a0 n0 c0 13)
                              (mk.pI W a0 n0 c0 15) (mk.pI W a0 n0 c0 14) (mk.pI W a0 n0 c0 16) (mk.pB W a0 n0 c0 9)))
                    else
                      bif
                          decide
                            (pr.pk (bif mk.pB W a0 n0 c0 1 then mk.pI W a0 n0 c0 12 else mk.pI W a0 n0 c0 13)
                                (mk.pI W a0 n0 c0 15) (mk.pI W a0 n0 c0 14) (mk.pI W a0 n0 c0 16) (mk.pB W a0 n0 c0 9) <
                              0) then
                        mk.pI W a0 n0 c0 14
                      else
                        bits BinOp.or IntKind.u8 (mk.pI W a0 n0 c0 14)
                          (gshl IntKind.u8 1
                            (pr.pk (bif mk.pB W a0 n0 c0 1 then mk.pI W a0 n0 c0 12 else mk.pI W a0 n0 c0 13)
                              (mk.pI W a0 n0 c0 15) (mk.pI W a0 n0 c0 14) (mk.pI W a0 n0 c0 16) (mk.pB W a0 n0 c0 9))))
                    (gshl IntKind.u8 1
                      (bits BinOp.and IntKind.i64
                        (bif
                            bif
                                decide
                                  (pr.pk (bif mk.pB W a0 n0 c0 1 then mk.pI W a0 n0 c0 12 else mk.pI W a0 n0 c0 13)
                                      (mk.pI W a0 n0 c0 15) (mk.pI W a0 n0 c0 14) (mk.pI W a0 n0 c0 16)
                                      (mk.pB W a0 n0 c0 9) <
                                    0) then
                              mk.pB W a0 n0 c0 2
                            else mk.pB W a0 n0 c0 2 then
                          bif
                              decide
                                (pr.pk (bif mk.pB W a0 n0 c0 1 then mk.pI W a0 n0 c0 12 else mk.pI W a0 n0 c0 13)
                                    (mk.pI W a0 n0 c0 15) (mk.pI W a0 n0 c0 14) (mk.pI W a0 n0 c0 16)
                                    (mk.pB W a0 n0 c0 9) <
                                  0) then
                            (7 : Int)
                          else
                            pr.pk (bif mk.pB W a0 n0 c0 1 then mk.pI W a0 n0 c0 12 else mk.pI W a0 n0 c0 13)
                              (mk.pI W a0 n0 c0 15) (mk.pI W a0 n0 c0 14) (mk.pI W a0 n0 c0 16) (mk.pB W a0 n0 c0 9)
                        else
                          bif
                              decide
                                (pr.pk (bif mk.pB W a0 n0 c0 1 then mk.pI W a0 n0 c0 12 else mk.pI W a0 n0 c0 13)
                                    (mk.pI W a0 n0 c0 15) (mk.pI W a0 n0 c0 14) (mk.pI W a0 n0 c0 16)
                                    (mk.pB W a0 n0 c0 9) <
                                  0) then
                            (7 : Int)
                          else
                            pr.pk (bif mk.pB W a0 n0 c0 1 then mk.pI W a0 n0 c0 12 else mk.pI W a0 n0 c0 13)
                              (mk.pI W a0 n0 c0 15) (mk.pI W a0 n0 c0 14) (mk.pI W a0 n0 c0 16) (mk.pB W a0 n0 c0 9))
                        7))
                else
                  bif
                      bif
                          decide
                            (pr.pk (bif mk.pB W a0 n0 c0 1 then mk.pI W a0 n0 c0 12 else mk.pI W a0 n0 c0 13)
                                (mk.pI W a0 n0 c0 15) (mk.pI W a0 n0 c0 14) (mk.pI W a0 n0 c0 16) (mk.pB W a0 n0 c0 9) <
                              0) then
                        mk.pB W a0 n0 c0 2
                      else mk.pB W a0 n0 c0 2 then
                    bif
                        decide
                          (pr.pk (bif mk.pB W a0 n0 c0 1 then mk.pI W a0 n0 c0 12 else mk.pI W a0 n0 c0 13)
                              (mk.pI W a0 n0 c0 15) (mk.pI W a0 n0 c0 14) (mk.pI W a0 n0 c0 16) (mk.pB W a0 n0 c0 9) <
                            0) then
                      mk.pI W a0 n0 c0 14
                    else
                      bits BinOp.or IntKind.u8 (mk.pI W a0 n0 c0 14)
                        (gshl IntKind.u8 1
                          (pr.pk (bif mk.pB W a0 n0 c0 1 then mk.pI W a0 n0 c0 12 else mk.pI W a0 n0 c0 13)
                            (mk.pI W a0 n0 c0 15) (mk.pI W a0 n0 c0 14) (mk.pI W a0 n0 c0 16) (mk.pB W a0 n0 c0 9)))
                  else
                    bif
                        decide
                          (pr.pk (bif mk.pB W a0 n0 c0 1 then mk.pI W a0 n0 c0 12 else mk.pI W a0 n0 c0 13)
                              (mk.pI W a0 n0 c0 15) (mk.pI W a0 n0 c0 14) (mk.pI W a0 n0 c0 16) (mk.pB W a0 n0 c0 9) <
                            0) then
                      mk.pI W a0 n0 c0 14
                    else
                      bits BinOp.or IntKind.u8 (mk.pI W a0 n0 c0 14)
                        (gshl IntKind.u8 1
                          (pr.pk (bif mk.pB W a0 n0 c0 1 then mk.pI W a0 n0 c0 12 else mk.pI W a0 n0 c0 13)
                            (mk.pI W a0 n0 c0 15) (mk.pI W a0 n0 c0 14) (mk.pI W a0 n0 c0 16) (mk.pB W a0 n0 c0 9)))) ==
                bif
                    bif
                        decide
                          (pr.pk (bif mk.pB W a0 n0 c0 1 then mk.pI W a0 n0 c0 12 else mk.pI W a0 n0 c0 13)
                              (mk.pI W a0 n0 c0 15) (mk.pI W a0 n0 c0 14) (mk.pI W a0 n0 c0 16) (mk.pB W a0 n0 c0 9) ≥
                            0) then
                      mk.pB W a0 n0 c0 7
                    else false then
                  bits BinOp.andNot IntKind.u8
                    (bif
                        bif
                            decide
                              (pr.pk (bif mk.pB W a0 n0 c0 1 then mk.pI W a0 n0 c0 12 else mk.pI W a0 n0 c0 13)
                                  (mk.pI W a0 n0 c0 15) (mk.pI W a0 n0 c0 14) (mk.pI W a0 n0 c0 16)
                                  (mk.pB W a0 n0 c0 9) ≥
                                0) then
                          !mk.pB W a0 n0 c0 7
                        else false then
                      bits BinOp.or IntKind.u8 (mk.pI W a0 n0 c0 14)
                        (gshl IntKind.u8 1
                          (pr.pk (bif mk.pB W a0 n0 c0 1 then mk.pI W a0 n0 c0 12 else mk.pI W a0 n0 c0 13)
                            (mk.pI W a0 n0 c0 15) (mk.pI W a0 n0 c0 14) (mk.pI W a0 n0 c0 16) (mk.pB W a0 n0 c0 9)))
                    else mk.pI W a0 n0 c0 14)
                    (gshl IntKind.u8 1
                      (pr.pk (bif mk.pB W a0 n0 c0 1 then mk.pI W a0 n0 c0 12 else mk.pI W a0 n0 c0 13)
                        (mk.pI W a0 n0 c0 15) (mk.pI W a0 n0 c0 14) (mk.pI W a0 n0 c0 16) (mk.pB W a0 n0 c0 9)))
                else
                  bif
                      bif
                          decide
                            (pr.pk (bif mk.pB W a0 n0 c0 1 then mk.pI W a0 n0 c0 12 else mk.pI W a0 n0 c0 13)
                                (mk.pI W a0 n0 c0 15) (mk.pI W a0 n0 c0 14) (mk.pI W a0 n0 c0 16) (mk.pB W a0 n0 c0 9) ≥
                              0) then
                        !mk.pB W a0 n0 c0 7
                      else false then
                    bits BinOp.or IntKind.u8 (mk.pI W a0 n0 c0 14)
                      (gshl IntKind.u8 1
                        (pr.pk (bif mk.pB W a0 n0 c0 1 then mk.pI W a0 n0 c0 12 else mk.pI W a0 n0 c0 13)
                          (mk.pI W a0 n0 c0 15) (mk.pI W a0 n0 c0 14) (mk.pI W a0 n0 c0 16) (mk.pB W a0 n0 c0 9)))
                  else mk.pI W a0 n0 c0 14
            else false))))
else none) := by kernel_rfl

theorem b224 : ∀ {v : Int}, IntKind.u8.min ≤ v ∧ v ≤ IntKind.u8.max → 0 ≤ bits .and .u8 v 224 ∧ bits .and .u8 v 224 ≤ 224 := fun h => by
  have := all_u8 (p := fun v => decide (0 ≤ bits .and .u8 v 224) && decide (bits .and .u8 v 224 ≤ 224)) (by kernel_rfl) h
  simpa only [Bool.and_eq_true, decide_eq_true_eq] using this
theorem b192 : ∀ {v : Int}, IntKind.u8.min ≤ v ∧ v ≤ IntKind.u8.max → 0 ≤ bits .and .u8 v 192 ∧ bits .and .u8 v 192 ≤ 192 := fun h => by
  have := all_u8 (p := fun v => decide (0 ≤ bits .and .u8 v 192) && decide (bits .and .u8 v 192 ≤ 192)) (by kernel_rfl) h
  simpa only [Bool.and_eq_true, decide_eq_true_eq] using this
theorem ar {m L p6 k : Int} (h6 : 0 ≤ p6 ∧ p6 ≤ 255) (hL : 0 ≤ L) (hk : 0 ≤ k) (hm : 0 ≤ m * k) (hs : L + m * k ≤ 255) :
    gadd .i64 (gmul .i64 (IntKind.i64.wrap p6) 256) (IntKind.i64.wrap (gadd .u8 L (IntKind.u8.wrap (gmul .i64 m k)))) = gadd .i64 (gadd .i64 (gmul .i64 (IntKind.i64.wrap p6) 256) (IntKind.i64.wrap L)) (gmul .i64 m k) := by
  unfold gadd gmul
  generalize m * k = q at *
  simp only [IntKind.wrap_i64, IntKind.wrap_u8]
  omega
theorem or_andNot (x b : Int) : bits .andNot .u8 (bits .or .u8 x b) b = bits .andNot .u8 x b := by
  have e1 : ∀ u v : Int, bits .andNot .u8 u v = IntKind.u8.wrap (((BitVec.ofInt 8 u &&& ~~~ BitVec.ofInt 8 v).toNat : Nat) : Int) := fun _ _ => rfl
  have e2 : bits .or .u8 x b = IntKind.u8.wrap (((BitVec.ofInt 8 x ||| BitVec.ofInt 8 b).toNat : Nat) : Int) := rfl
  rw [e1, e1, e2, pr.ofInt_u8]
  have : (BitVec.ofInt 8 x ||| BitVec.ofInt 8 b) &&& ~~~ BitVec.ofInt 8 b = BitVec.ofInt 8 x &&& ~~~ BitVec.ofInt 8 b := by
    apply BitVec.eq_of_getLsbD_eq
    intro i hi
    simp only [BitVec.getLsbD_and, BitVec.getLsbD_or, BitVec.getLsbD_not]
    cases (BitVec.ofInt 8 x).getLsbD i <;> cases (BitVec.ofInt 8 b).getLsbD i <;> simp
  rw [this]
theorem fin (n0 : Nat) (K p5 p6 p14 : Int) (b2 b7 : Bool) (hK : K = -1 ∨ (0 ≤ K ∧ K ≤ 7)) (h5 : 0 ≤ p5 ∧ p5 ≤ 255) (h6 : 0 ≤ p6 ∧ p6 ≤ 255) : okTrue (bif bif decide ((n0 : Int) > 80) then true else true && ((bif decide (K < 0) then true else decide (0 ≤ K) && decide (0 ≤ K)) && ((bif bif bif bif decide (K < 0) then b2 else b2 then bif decide (K < 0) then b7 else b7 else bif decide (K < 0) then b7 else b7 then !bif bif decide (K < 0) then b2 else b2 then bif decide (K < 0) then decide (K < 0) else decide (K < 0) else bif decide (K < 0) then decide (K < 0) else decide (K < 0) else false then decide (0 ≤ bits BinOp.and IntKind.i64 (bif bif decide (K < 0) then b2 else b2 then bif decide (K < 0) then (7 : Int) else K else bif decide (K < 0) then (7 : Int) else K) 7) else true) && ((bif bif decide (K ≥ 0) then !b7 else false then decide (0 ≤ K) else true) && bif bif decide (K ≥ 0) then b7 else false then decide (0 ≤ K) else true))) then some (TV.one (SV.bool (SB.sym (bif decide ((n0 : Int) > 80) then true else bif gadd IntKind.i64 (gmul IntKind.i64 (IntKind.i64.wrap (bif bif bif bif decide (K < 0) then b2 else b2 then bif decide (K < 0) then b7 else b7 else bif decide (K < 0) then b7 else b7 then !bif bif decide (K < 0) then b2 else b2 then bif decide (K < 0) then decide (K < 0) else decide (K < 0) else bif decide (K < 0) then decide (K < 0) else decide (K < 0) else false then bif bif decide (K < 0) then b2 else b2 then bif decide (K < 0) then p6 else p6 else bif decide (K < 0) then p6 else p6 else bif bif decide (K < 0) then b2 else b2 then bif decide (K < 0) then p6 else p6 else bif decide (K < 0) then p6 else p6)) 256) (IntKind.i64.wrap (bif bif decide (K < 0) then b2 else b2 then gadd IntKind.u8 (bits BinOp.and IntKind.u8 (bif decide (K < 0) then p5 else p5) 224) (IntKind.u8.wrap (gmul IntKind.i64 4 (bits BinOp.and IntKind.i64 (bif decide (K < 0) then (7 : Int) else K) 7))) else gadd IntKind.u8 (bits BinOp.and IntKind.u8 (bif decide (K < 0) then p5 else p5) 192) (IntKind.u8.wrap (gmul IntKind.i64 8 (bits BinOp.and IntKind.i64 (bif decide (K < 0) then (7 : Int) else K) 7))))) == bif b2 then gadd IntKind.i64 (gadd IntKind.i64 (gmul IntKind.i64 (IntKind.i64.wrap p6) 256) (IntKind.i64.wrap (bits BinOp.and IntKind.u8 p5 224))) (gmul IntKind.i64 4 (bif decide (K < 0) then (7 : Int) else K)) else gadd IntKind.i64 (gadd IntKind.i64 (gmul IntKind.i64 (IntKind.i64.wrap p6) 256) (IntKind.i64.wrap (bits BinOp.and IntKind.u8 p5 192))) (gmul IntKind.i64 8 (bif decide (K < 0) then (7 : Int) else K)) then (bif bif bif bif decide (K < 0) then b2 else b2 then bif decide (K < 0) then b7 else b7 else bif decide (K < 0) then b7 else b7 then !bif bif decide (K < 0) then b2 else b2 then bif decide (K < 0) then decide (K < 0) else decide (K < 0) else bif decide (K < 0) then decide (K < 0) else decide (K < 0) else false then bits BinOp.andNot IntKind.u8 (bif bif decide (K < 0) then b2 else b2 then bif decide (K < 0) then p14 else bits BinOp.or IntKind.u8 p14 (gshl IntKind.u8 1 K) else bif decide (K < 0) then p14 else bits BinOp.or IntKind.u8 p14 (gshl IntKind.u8 1 K)) (gshl IntKind.u8 1 (bits BinOp.and IntKind.i64 (bif bif decide (K < 0) then b2 else b2 then bif decide (K < 0) then (7 : Int) else K else bif decide (K < 0) then (7 : Int) else K) 7)) else bif bif decide (K < 0) then b2 else b2 then bif decide (K < 0) then p14 else bits BinOp.or IntKind.u8 p14 (gshl IntKind.u8 1 K) else bif decide (K < 0) then p14 else bits BinOp.or IntKind.u8 p14 (gshl IntKind.u8 1 K)) == bif bif decide (K ≥ 0) then b7 else false then bits BinOp.andNot IntKind.u8 (bif bif decide (K ≥ 0) then !b7 else false then bits BinOp.or IntKind.u8 p14 (gshl IntKind.u8 1 K) else p14) (gshl IntKind.u8 1 K) else bif bif decide (K ≥ 0) then !b7 else false then bits BinOp.or IntKind.u8 p14 (gshl IntKind.u8 1 K) else p14 else false)))) else none) = true := by
  have l224 := b224 (v := p5) h5
  have l192 := b192 (v := p5) h5
  have s7 : bits .and .i64 7 7 = 7 := by rw [pr.m7]; rfl
  rcases hK with hK | hK
  · have hD : decide (K < 0) = true := decide_eq_true (by omega)
    have hE : decide (K ≥ 0) = false := decide_eq_false (by omega)
    have a4 := ar (m := 4) (k := 7) h6 l224.1 (by decide) (by decide) (by omega)
    have a8 := ar (m := 8) (k := 7) h6 l192.1 (by decide) (by decide) (by omega)
    cases b2 <;> cases b7 <;> simp only [hD, hE, cond_true, cond_false, Bool.cond_self, Bool.not_true, Bool.not_false, s7, a4, a8, beq_self_eq_true, Bool.and_self, okTrue]
    all_goals rfl
  · have hD : decide (K < 0) = false := decide_eq_false (by omega)
    have hE : decide (K ≥ 0) = true := decide_eq_true (by omega)
    have hE2 : decide (0 ≤ K) = true := decide_eq_true hK.1
    have sK : bits .and .i64 K 7 = K := by rw [pr.m7]; omega
    have a4 := ar (m := 4) (k := K) h6 l224.1 hK.1 (by omega) (by omega)
    have a8 := ar (m := 8) (k := K) h6 l192.1 hK.1 (by omega) (by omega)
    cases b2 <;> cases b7 <;> simp only [hD, hE, hE2, cond_true, cond_false, Bool.cond_self, Bool.not_true, Bool.not_false, sK, a4, a8, or_andNot, beq_self_eq_true, Bool.and_self, okTrue]
    all_goals rfl
theorem walk (W : World) (e : Env) (h : argsOk W e 0 shapes) : okTrue (eval Try.prog W (pc.G W) 4 (argsTV e 0 shapes)) = true := by
  have hr : mk.okRow W (e.a 0) (e.len 0) (e.cap 0) = true := mk.okRow_of h.1
  refine (nf W (e.a 0) (e.len 0) (e.cap 0) (e.n 1) (e.n 2)).trans ?_
  rw [hr]
  refine fin (e.len 0) _ _ _ _ _ _ ?_ (mk.pI_low W _ _ _) (mk.pI_high W _ _ _)
  rcases (pr.pk_facts (bif mk.pB W (e.a 0) (e.len 0) (e.cap 0) 1 then mk.pI W (e.a 0) (e.len 0) (e.cap 0) 12 else mk.pI W (e.a 0) (e.len 0) (e.cap 0) 13) (mk.pI W (e.a 0) (e.len 0) (e.cap 0) 15) (mk.pI W (e.a 0) (e.len 0) (e.cap 0) 14) (mk.pI W (e.a 0) (e.len 0) (e.cap 0) 16) (mk.pB W (e.a 0) (e.len 0) (e.cap 0) 9)).1 with hk | hk
  · exact .inl hk
  · exact .inr ⟨hk.1, hk.2.1⟩

theorem own : ownKnob Try.prog.godebug = none := by kernel_rfl

theorem lifted (os : Os) (started : os.Started) (H : Type) (enc : TypeId × Value → H) :
    ReturnsInHanded {} Try.checked os 4 .any (Rows.picCallsSpec.pre6 enc Try.prog Try.f4 Rows.picCallsRow.domain false) (Rows.picCallsSpec.post enc Try.prog Try.f4 false true false false) :=
  law_step (C := Try.checked) 3 own started (by kernel_rfl) Try.func4 (by kernel_rfl) (by kernel_rfl) rfl
    (fun ds hd => by
      match ds, hd with
      | [d0, d1, d2], _ => rfl)
    (ChangeSpec.witness6 (enc := enc) (C := Try.checked) false ⟨#[], #[.slice none 0 0, .int .u8 0, .int .u8 0], []⟩ 8 (by kernel_rfl) (by kernel_rfl) (by kernel_rfl) (by kernel_rfl))
    (fun W base args hv hl _ _ htr => plain_walk (P := Try.prog) (G := fun W => pc.G W) pc.gok shapes (by kernel_rfl) walk W base args hv hl htr)

theorem over : Rows.picCallsRow.holds Try.pinned (OpenSpec.ofChange Rows.picCallsSpec) :=
  OpenClaim.holds_of_wide 4 Try.f4 rfl rfl rfl rfl rfl rfl rfl ⟨rfl, rfl, rfl, rfl, rfl⟩ rfl rfl rfl rfl rfl (by kernel_rfl) Try.func4 (by kernel_rfl)
    (of_decide_eq_true (by kernel_rfl)) (by unfold Func.isWrapper; first | (rw [if_pos (by decide +kernel)]; kernel_rfl) | (rw [if_neg (by decide +kernel)]; exact ⟨rfl, rfl⟩))
    (fun os started H enc _ => lifted os started H enc)

theorem proved : Rows.PicCallsSaid := over
#print axioms proved
end Go.Proofs.Ytndciaoiinhdnaa.picCalls
