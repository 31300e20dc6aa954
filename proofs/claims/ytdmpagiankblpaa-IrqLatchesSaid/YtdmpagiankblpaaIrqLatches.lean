/- tstatelaw15.IrqLatches returns true for every input; no condition. -/
import Derived.Test.YtdmpagiankblpaaIrq
namespace Go.Proofs.Ytdmpagiankblpaa.irqLatches
open Go Go.Sx Go.RowKit
set_option maxRecDepth 100000

def shapes : List ASh := [.agg [.int .i64, .int .u8, .int .u8, .int .u8, .int .u8, .int .u8, .int .u8, .int .u8, .bool, .bool, .bool, .bool, .bool, .bool, .bool, .int .u16, .int .u16, .bool, .bool, .bool, .int .u8, .bool, .bool, .bool, .bool, .bool, .bool, .bool], .agg [.bool, .bool, .bool, .bool, .bool, .bool, .bool, .bool, .bool], .ints .i64]
theorem nf (W : World) (x0 : Int) (x1 : Int) (x2 : Int) (x3 : Int) (x4 : Int) (x5 : Int) (x6 : Int) (x7 : Int) (x8 : Bool) (x9 : Bool) (x10 : Bool) (x11 : Bool) (x12 : Bool) (x13 : Bool) (x14 : Bool) (x15 : Int) (x16 : Int) (x17 : Bool) (x18 : Bool) (x19 : Bool) (x20 : Int) (x21 : Bool) (x22 : Bool) (x23 : Bool) (x24 : Bool) (x25 : Bool) (x26 : Bool) (x27 : Bool) (x28 : Bool) (x29 : Bool) (x30 : Bool) (x31 : Bool) (x32 : Bool) (x33 : Bool) (x34 : Bool) (x35 : Bool) (x36 : Bool) (a37 : Option Addr) (n37 : Nat) (c37 : Nat) : okTrue (eval Try.prog W (irq.G W) 3 [.agg [.int .i64 (.sym x0), .int .u8 (.sym x1), .int .u8 (.sym x2), .int .u8 (.sym x3), .int .u8 (.sym x4), .int .u8 (.sym x5), .int .u8 (.sym x6), .int .u8 (.sym x7), .bool (.sym x8), .bool (.sym x9), .bool (.sym x10), .bool (.sym x11), .bool (.sym x12), .bool (.sym x13), .bool (.sym x14), .int .u16 (.sym x15), .int .u16 (.sym x16), .bool (.sym x17), .bool (.sym x18), .bool (.sym x19), .int .u8 (.sym x20), .bool (.sym x21), .bool (.sym x22), .bool (.sym x23), .bool (.sym x24), .bool (.sym x25), .bool (.sym x26), .bool (.sym x27)], .agg [.bool (.sym x28), .bool (.sym x29), .bool (.sym x30), .bool (.sym x31), .bool (.sym x32), .bool (.sym x33), .bool (.sym x34), .bool (.sym x35), .bool (.sym x36)], .one (.sl a37 n37 c37)]) =
  okTrue (bif
    bif decide ((n37 : Int) > 80) then true
    else mk.okRow W a37 n37 c37 && (mk.okRow W a37 n37 c37 && mk.inB 0 (mk.cN W a37 n37)) then
  some
    (TV.one
      (SV.bool
        (SB.sym
          (bif decide ((n37 : Int) > 80) then true
          else
            bif
                ((bif x0 != 2 then x0 else x0) == bif !x0 == 2 then x0 else x0) &&
                  (((bif x0 != 2 then x1 else x1) == bif !x0 == 2 then x1 else x1) &&
                      (((bif x0 != 2 then x2 else x2) == bif !x0 == 2 then x2 else x2) &&
                        (((bif x0 != 2 then x3 else x3) == bif !x0 == 2 then x3 else x3) &&
                          (((bif x0 != 2 then x4 else x4) == bif !x0 == 2 then x4 else x4) &&
                            (((bif x0 != 2 then x5 else x5) == bif !x0 == 2 then x5 else x5) &&
                              (((bif x0 != 2 then x6 else x6) == bif !x0 == 2 then x6 else x6) &&
                                (((bif x0 != 2 then x7 else x7) == bif !x0 == 2 then x7 else x7) &&
                                  (((bif x0 != 2 then x8 else x8) == bif !x0 == 2 then x8 else x8) &&
                                      (((bif x0 != 2 then x9 else x9) == bif !x0 == 2 then x9 else x9) &&
                                        (((bif x0 != 2 then x10 else x10) == bif !x0 == 2 then x10 else x10) &&
                                          (((bif x0 != 2 then x11 else x11) == bif !x0 == 2 then x11 else x11) &&
                                            (((bif x0 != 2 then x12 else x12) == bif !x0 == 2 then x12 else x12) &&
                                              (((bif x0 != 2 then x13 else x13) == bif !x0 == 2 then x13 else x13) &&
                                                (bif x0 != 2 then x14 else x14) ==
                                                  bif !x0 == 2 then x14 else x14))))) &&
                                    (((bif x0 != 2 then x15 else x15) == bif !x0 == 2 then x15 else x15) &&
                                      (bif x0 != 2 then x16 else x16) == bif !x0 == 2 then x16 else x16)))))))) &&
                    (((bif x0 != 2 then x17 else x17) == bif !x0 == 2 then x17 else x17) &&
                      (((bif x0 != 2 then x18 else x18) == bif !x0 == 2 then x18 else x18) &&
                        (((bif x0 != 2 then x19 else x19) == bif !x0 == 2 then x19 else x19) &&
                          (((bif x0 != 2 then x20 else x20) == bif !x0 == 2 then x20 else x20) &&
                            (((bif x0 != 2 then x21 else bif x32 then bif x21 then true else !x23 else false) ==
                                bif !x0 == 2 then x21 else bif x32 then bif x21 then true else !x23 else false) &&
                              (((bif x0 != 2 then x22 else bif x22 then true else bif x33 then !x24 else false) ==
                                  bif !x0 == 2 then x22 else bif x22 then true else bif x33 then !x24 else false) &&
                                (((bif x0 != 2 then x23 else x32) == bif !x0 == 2 then x23 else x32) &&
                                  (((bif x0 != 2 then x24 else x33) == bif !x0 == 2 then x24 else x33) &&
                                    (((bif x0 != 2 then x25 else x25) == bif !x0 == 2 then x25 else x25) &&
                                      (((bif x0 != 2 then x26 else x26) == bif !x0 == 2 then x26 else x26) &&
                                        (bif x0 != 2 then x27 else x27) ==
                                          bif !x0 == 2 then x27 else x27))))))))))) then
              ((bif mk.cI W a37 n37 c37 0 != 2 then mk.cI W a37 n37 c37 0 else mk.cI W a37 n37 c37 0) ==
                  bif !mk.cI W a37 n37 c37 0 == 2 then mk.cI W a37 n37 c37 0 else mk.cI W a37 n37 c37 0) &&
                (((bif mk.cI W a37 n37 c37 0 != 2 then mk.cI W a37 n37 c37 1 else mk.cI W a37 n37 c37 1) ==
                      bif !mk.cI W a37 n37 c37 0 == 2 then mk.cI W a37 n37 c37 1 else mk.cI W a37 n37 c37 1) &&
                    (((bif mk.cI W a37 n37 c37 0 != 2 then mk.cI W a37 n37 c37 2 else mk.cI W a37 n37 c37 2) ==
                        bif !mk.cI W a37 n37 c37 0 == 2 then mk.cI W a37 n37 c37 2 else mk.cI W a37 n37 c37 2) &&
                      (((bif mk.cI W a37 n37 c37 0 != 2 then mk.cI W a37 n37 c37 3 else mk.cI W a37 n37 c37 3) ==
                          bif !mk.cI W a37 n37 c37 0 == 2 then mk.cI W a37 n37 c37 3 else mk.cI W a37 n37 c37 3) &&
                        (((bif mk.cI W a37 n37 c37 0 != 2 then mk.cI W a37 n37 c37 4 else mk.cI W a37 n37 c37 4) ==
                            bif !mk.cI W a37 n37 c37 0 == 2 then mk.cI W a37 n37 c37 4 else mk.cI W a37 n37 c37 4) &&
                          (((bif mk.cI W a37 n37 c37 0 != 2 then mk.cI W a37 n37 c37 5 else mk.cI W a37 n37 c37 5) ==
                              bif !mk.cI W a37 n37 c37 0 == 2 then mk.cI W a37 n37 c37 5 else mk.cI W a37 n37 c37 5) &&
                            (((bif mk.cI W a37 n37 c37 0 != 2 then mk.cI W a37 n37 c37 6 else mk.cI W a37 n37 c37 6) ==
                                bif !mk.cI W a37 n37 c37 0 == 2 then mk.cI W a37 n37 c37 6
                                else mk.cI W a37 n37 c37 6) &&
                              (((bif mk.cI W a37 n37 c37 0 != 2 then mk.cI W a37 n37 c37 7
                                  else mk.cI W a37 n37 c37 7) ==
                                  bif !mk.cI W a37 n37 c37 0 == 2 then mk.cI W a37 n37 c37 7
                                  else mk.cI W a37 n37 c37 7) &&
                                (((bif mk.cI W a37 n37 c37 0 != 2 then mk.cB W a37 n37 c37 8
                                      else mk.cB W a37 n37 c37 8) ==
                                      bif !mk.cI W a37 n37 c37 0 == 2 then mk.cB W a37 n37 c37 8
                                      else mk.cB W a37 n37 c37 8) &&
                                    (((bif mk.cI W a37 n37 c37 0 != 2 then mk.cB W a37 n37 c37 9
                                        else mk.cB W a37 n37 c37 9) ==
                                        bif !mk.cI W a37 n37 c37 0 == 2 then mk.cB W a37 n37 c37 9
                                        else mk.cB W a37 n37 c37 9) &&
                                      (((bif mk.cI W a37 n37 c37 0 != 2 then mk.cB W a37 n37 c37 10
                                          else mk.cB W a37 n37 c37 10) ==
                                          bif !mk.cI W a37 n37 c37 0 == 2 then mk.cB W a37 n37 c37 10
                                          else mk.cB W a37 n37 c37 10) &&
                                        (((bif mk.cI W a37 n37 c37 0 != 2 then mk.cB W a37 n37 c37 11
                                            else mk.cB W a37 n37 c37 11) ==
                                            bif !mk.cI W a37 n37 c37 0 == 2 then mk.cB W a37 n37 c37 11
                                            else mk.cB W a37 n37 c37 11) &&
                                          (((bif mk.cI W a37 n37 c37 0 != 2 then mk.cB W a37 n37 c37 12
                                              else mk.cB W a37 n37 c37 12) ==
                                              bif !mk.cI W a37 n37 c37 0 == 2 then mk.cB W a37 n37 c37 12
                                              else mk.cB W a37 n37 c37 12) &&
                                            (((bif mk.cI W a37 n37 c37 0 != 2 then mk.cB W a37 n37 c37 13
                                                else mk.cB W a37 n37 c37 13) ==
                                                bif !mk.cI W a37 n37 c37 0 == 2 then mk.cB W a37 n37 c37 13
                                                else mk.cB W a37 n37 c37 13) &&
                                              (bif mk.cI W a37 n37 c37 0 != 2 then mk.cB W a37 n37 c37 14
                                                else mk.cB W a37 n37 c37 14) ==
                                                bif !mk.cI W a37 n37 c37 0 == 2 then mk.cB W a37 n37 c37 14
                                                else mk.cB W a37 n37 c37 14))))) &&
                                  (((bif mk.cI W a37 n37 c37 0 != 2 then mk.cI W a37 n37 c37 15
                                      else mk.cI W a37 n37 c37 15) ==
                                      bif !mk.cI W a37 n37 c37 0 == 2 then mk.cI W a37 n37 c37 15
                                      else mk.cI W a37 n37 c37 15) &&
                                    (bif mk.cI W a37 n37 c37 0 != 2 then mk.cI W a37 n37 c37 16
                                      else mk.cI W a37 n37 c37 16) ==
                                      bif !mk.cI W a37 n37 c37 0 == 2 then mk.cI W a37 n37 c37 16
                                      else mk.cI W a37 n37 c37 16)))))))) &&
                  (((bif mk.cI W a37 n37 c37 0 != 2 then mk.cB W a37 n37 c37 17 else mk.cB W a37 n37 c37 17) ==
                      bif !mk.cI W a37 n37 c37 0 == 2 then mk.cB W a37 n37 c37 17 else mk.cB W a37 n37 c37 17) &&
                    (((bif mk.cI W a37 n37 c37 0 != 2 then mk.cB W a37 n37 c37 18 else mk.cB W a37 n37 c37 18) ==
                        bif !mk.cI W a37 n37 c37 0 == 2 then mk.cB W a37 n37 c37 18 else mk.cB W a37 n37 c37 18) &&
                      (((bif mk.cI W a37 n37 c37 0 != 2 then mk.cI W a37 n37 c37 20 else mk.cI W a37 n37 c37 20) ==
                          bif !mk.cI W a37 n37 c37 0 == 2 then mk.cI W a37 n37 c37 20 else mk.cI W a37 n37 c37 20) &&
                        (((bif mk.cI W a37 n37 c37 0 != 2 then mk.cB W a37 n37 c37 21
                            else
                              bif (gshr IntKind.i64 (mk.nxt W a37 n37 (mk.cN W a37 n37) 512) 3).tmod 8 == 1 then
                                bif mk.cB W a37 n37 c37 21 then true else !mk.cB W a37 n37 c37 23
                              else false) ==
                            bif !mk.cI W a37 n37 c37 0 == 2 then mk.cB W a37 n37 c37 21
                            else
                              bif (gshr IntKind.i64 (mk.nxt W a37 n37 (mk.cN W a37 n37) 512) 3).tmod 8 == 1 then
                                bif mk.cB W a37 n37 c37 21 then true else !mk.cB W a37 n37 c37 23
                              else false) &&
                          (((bif mk.cI W a37 n37 c37 0 != 2 then mk.cB W a37 n37 c37 22
                              else
                                bif mk.cB W a37 n37 c37 22 then true
                                else
                                  bif bits BinOp.and IntKind.i64 (mk.nxt W a37 n37 (mk.cN W a37 n37) 512) 64 != 0 then
                                    !mk.cB W a37 n37 c37 24
                                  else false) ==
                              bif !mk.cI W a37 n37 c37 0 == 2 then mk.cB W a37 n37 c37 22
                              else
                                bif mk.cB W a37 n37 c37 22 then true
                                else
                                  bif bits BinOp.and IntKind.i64 (mk.nxt W a37 n37 (mk.cN W a37 n37) 512) 64 != 0 then
                                    !mk.cB W a37 n37 c37 24
                                  else false) &&
                            (((bif mk.cI W a37 n37 c37 0 != 2 then mk.cB W a37 n37 c37 23
                                else (gshr IntKind.i64 (mk.nxt W a37 n37 (mk.cN W a37 n37) 512) 3).tmod 8 == 1) ==
                                bif !mk.cI W a37 n37 c37 0 == 2 then mk.cB W a37 n37 c37 23
                                else (gshr IntKind.i64 (mk.nxt W a37 n37 (mk.cN W a37 n37) 512) 3).tmod 8 == 1) &&
                              (((bif mk.cI W a37 n37 c37 0 != 2 then mk.cB W a37 n37 c37 24
                                  else bits BinOp.and IntKind.i64 (mk.nxt W a37 n37 (mk.cN W a37 n37) 512) 64 != 0) ==
                                  bif !mk.cI W a37 n37 c37 0 == 2 then mk.cB W a37 n37 c37 24
                                  else bits BinOp.and IntKind.i64 (mk.nxt W a37 n37 (mk.cN W a37 n37) 512) 64 != 0) &&
                                (((bif mk.cI W a37 n37 c37 0 != 2 then mk.cB W a37 n37 c37 25
                                    else mk.cB W a37 n37 c37 25) ==
                                    bif !mk.cI W a37 n37 c37 0 == 2 then mk.cB W a37 n37 c37 25
                                    else mk.cB W a37 n37 c37 25) &&
                                  (((bif mk.cI W a37 n37 c37 0 != 2 then mk.cB W a37 n37 c37 26
                                      else mk.cB W a37 n37 c37 26) ==
                                      bif !mk.cI W a37 n37 c37 0 == 2 then mk.cB W a37 n37 c37 26
                                      else mk.cB W a37 n37 c37 26) &&
                                    (bif mk.cI W a37 n37 c37 0 != 2 then mk.cB W a37 n37 c37 27
                                      else mk.cB W a37 n37 c37 27) ==
                                      bif !mk.cI W a37 n37 c37 0 == 2 then mk.cB W a37 n37 c37 27
                                      else mk.cB W a37 n37 c37 27))))))))))
            else false))))
else none) := by kernel_rfl

theorem walk (W : World) (e : Env) (h : argsOk W e 0 shapes) : okTrue (eval Try.prog W (irq.G W) 3 (argsTV e 0 shapes)) = true := by
  have hr : mk.okRow W (e.a 37) (e.len 37) (e.cap 37) = true := mk.okRow_of h.2.2.1
  refine (nf W (e.n 0) (e.n 1) (e.n 2) (e.n 3) (e.n 4) (e.n 5) (e.n 6) (e.n 7) (e.b 8) (e.b 9) (e.b 10) (e.b 11) (e.b 12) (e.b 13) (e.b 14) (e.n 15) (e.n 16) (e.b 17) (e.b 18) (e.b 19) (e.n 20) (e.b 21) (e.b 22) (e.b 23) (e.b 24) (e.b 25) (e.b 26) (e.b 27) (e.b 28) (e.b 29) (e.b 30) (e.b 31) (e.b 32) (e.b 33) (e.b 34) (e.b 35) (e.b 36) (e.a 37) (e.len 37) (e.cap 37)).trans ?_
  simp only [hr, mk.cN_in W (e.a 37) (e.len 37) (m := 0) (by decide) (by decide), bne, beq_self_eq_true, Bool.and_self, cond_true, Bool.cond_self]
  rfl

theorem own : ownKnob Try.prog.godebug = none := by kernel_rfl

theorem lifted (os : Os) (started : os.Started) (H : Type) (enc : TypeId × Value → H) :
    ReturnsInHanded {} Try.checked os 3 .any (Rows.irqLatchesSpec.pre6 enc Try.prog Try.f3 Rows.irqLatchesRow.domain false) (Rows.irqLatchesSpec.post enc Try.prog Try.f3 false true false false) :=
  law_step (C := Try.checked) 3 own started (by kernel_rfl) Try.func3 (by kernel_rfl) (by kernel_rfl) rfl
    (fun ds hd => by
      match ds, hd with
      | [d0, d1, d2], _ => rfl)
    (ChangeSpec.witness6 (enc := enc) (C := Try.checked) false ⟨#[], #[.agg #[.int .i64 0, .int .u8 0, .int .u8 0, .int .u8 0, .int .u8 0, .int .u8 0, .int .u8 0, .int .u8 0, .bool false, .bool false, .bool false, .bool false, .bool false, .bool false, .bool false, .int .u16 0, .int .u16 0, .bool false, .bool false, .bool false, .int .u8 0, .bool false, .bool false, .bool false, .bool false, .bool false, .bool false, .bool false], .agg #[.bool false, .bool false, .bool false, .bool false, .bool false, .bool false, .bool false, .bool false, .bool false], .slice none 0 0], []⟩ 8 (by kernel_rfl) (by kernel_rfl) (by kernel_rfl) (by kernel_rfl))
    (fun W base args hv hl _ _ htr => plain_walk (P := Try.prog) (G := fun W => irq.G W) irq.gok shapes (by kernel_rfl) walk W base args hv hl htr)

theorem over : Rows.irqLatchesRow.holds Try.pinned (OpenSpec.ofChange Rows.irqLatchesSpec) :=
  OpenClaim.holds_of_wide 3 Try.f3 rfl rfl rfl rfl rfl rfl rfl ⟨rfl, rfl, rfl, rfl, rfl⟩ rfl rfl rfl rfl rfl (by kernel_rfl) Try.func3 (by kernel_rfl)
    (of_decide_eq_true (by kernel_rfl)) (by unfold Func.isWrapper; first | (rw [if_pos (by decide +kernel)]; kernel_rfl) | (rw [if_neg (by decide +kernel)]; exact ⟨rfl, rfl⟩))
    (fun os started H enc _ => lifted os started H enc)

theorem proved : Rows.IrqLatchesSaid := over
#print axioms proved
end Go.Proofs.Ytdmpagiankblpaa.irqLatches
