/- tstatelaw15.IrqPicks returns true for every input; no condition. -/
import Derived.Test.YtdmpagiankblpaaIrq
namespace Go.Proofs.Ytdmpagiankblpaa.irqPicks
open Go Go.Sx Go.RowKit
set_option maxRecDepth 100000

def shapes : List ASh := [.agg [.int .i64, .int .u8, .int .u8, .int .u8, .int .u8, .int .u8, .int .u8, .int .u8, .bool, .bool, .bool, .bool, .bool, .bool, .bool, .int .u16, .int .u16, .bool, .bool, .bool, .int .u8, .bool, .bool, .bool, .bool, .bool, .bool, .bool], .agg [.bool, .bool, .bool, .bool, .bool, .bool, .bool, .bool, .bool], .ints .i64]
theorem nf (W : World) (x0 : Int) (x1 : Int) (x2 : Int) (x3 : Int) (x4 : Int) (x5 : Int) (x6 : Int) (x7 : Int) (x8 : Bool) (x9 : Bool) (x10 : Bool) (x11 : Bool) (x12 : Bool) (x13 : Bool) (x14 : Bool) (x15 : Int) (x16 : Int) (x17 : Bool) (x18 : Bool) (x19 : Bool) (x20 : Int) (x21 : Bool) (x22 : Bool) (x23 : Bool) (x24 : Bool) (x25 : Bool) (x26 : Bool) (x27 : Bool) (x28 : Bool) (x29 : Bool) (x30 : Bool) (x31 : Bool) (x32 : Bool) (x33 : Bool) (x34 : Bool) (x35 : Bool) (x36 : Bool) (a37 : Option Addr) (n37 : Nat) (c37 : Nat) : okTrue (eval Try.prog W (irq.G W) 4 [.agg [.int .i64 (.sym x0), .int .u8 (.sym x1), .int .u8 (.sym x2), .int .u8 (.sym x3), .int .u8 (.sym x4), .int .u8 (.sym x5), .int .u8 (.sym x6), .int .u8 (.sym x7), .bool (.sym x8), .bool (.sym x9), .bool (.sym x10), .bool (.sym x11), .bool (.sym x12), .bool (.sym x13), .bool (.sym x14), .int .u16 (.sym x15), .int .u16 (.sym x16), .bool (.sym x17), .bool (.sym x18), .bool (.sym x19), .int .u8 (.sym x20), .bool (.sym x21), .bool (.sym x22), .bool (.sym x23), .bool (.sym x24), .bool (.sym x25), .bool (.sym x26), .bool (.sym x27)], .agg [.bool (.sym x28), .bool (.sym x29), .bool (.sym x30), .bool (.sym x31), .bool (.sym x32), .bool (.sym x33), .bool (.sym x34), .bool (.sym x35), .bool (.sym x36)], .one (.sl a37 n37 c37)]) =
  okTrue (bif
    bif decide ((n37 : Int) > 80) then true
    else mk.okRow W a37 n37 c37 && (mk.okRow W a37 n37 c37 && mk.inB 0 (mk.cN W a37 n37)) then
  some
    (TV.one
      (SV.bool
        (SB.sym
          (bif decide ((n37 : Int) > 80) then true
          else
            bif
                irq.pkF (x0 == 2) x21 x17 x18 x22 (bits BinOp.and IntKind.u8 x20 4 == 0) x34
                    (bits BinOp.and IntKind.u8 x20 2 == 0) x35 (bits BinOp.and IntKind.u8 x20 1 == 0) x36 ==
                  irq.pkF (x0 == 2) x21 x17 x18 x22 (bits BinOp.and IntKind.u8 x20 4 == 0) x34
                    (bits BinOp.and IntKind.u8 x20 2 == 0) x35 (bits BinOp.and IntKind.u8 x20 1 == 0) x36 then
              bif
                  irq.pkF (mk.cI W a37 n37 c37 0 == 2) (mk.cB W a37 n37 c37 21) (mk.cB W a37 n37 c37 17)
                      (mk.cB W a37 n37 c37 18) (mk.cB W a37 n37 c37 22)
                      (bits BinOp.and IntKind.u8 (mk.cI W a37 n37 c37 20) 4 == 0)
                      (bits BinOp.and IntKind.i64 (mk.nxt W a37 n37 (mk.cN W a37 n37) 512) 128 != 0)
                      (bits BinOp.and IntKind.u8 (mk.cI W a37 n37 c37 20) 2 == 0)
                      (bits BinOp.and IntKind.i64 (mk.nxt W a37 n37 (mk.cN W a37 n37) 512) 256 != 0)
                      (bits BinOp.and IntKind.u8 (mk.cI W a37 n37 c37 20) 1 == 0)
                      ((mk.nxt W a37 n37 (mk.cN W a37 n37) 512).tmod 3 == 0) ==
                    irq.pkF (mk.cI W a37 n37 c37 0 == 2) (mk.cB W a37 n37 c37 21) (mk.cB W a37 n37 c37 17)
                      (mk.cB W a37 n37 c37 18) (mk.cB W a37 n37 c37 22)
                      (bits BinOp.and IntKind.u8 (mk.cI W a37 n37 c37 20) 4 == 0)
                      (bits BinOp.and IntKind.i64 (mk.nxt W a37 n37 (mk.cN W a37 n37) 512) 128 != 0)
                      (bits BinOp.and IntKind.u8 (mk.cI W a37 n37 c37 20) 2 == 0)
                      (bits BinOp.and IntKind.i64 (mk.nxt W a37 n37 (mk.cN W a37 n37) 512) 256 != 0)
                      (bits BinOp.and IntKind.u8 (mk.cI W a37 n37 c37 20) 1 == 0)
                      ((mk.nxt W a37 n37 (mk.cN W a37 n37) 512).tmod 3 == 0) then
                irq.pkF (mk.cI W a37 n37 c37 0 == 2) (mk.cB W a37 n37 c37 21) (mk.cB W a37 n37 c37 17)
                    (mk.cB W a37 n37 c37 18) (mk.cB W a37 n37 c37 22)
                    (bits BinOp.and IntKind.u8 (mk.cI W a37 n37 c37 20) 4 == 0) x34
                    (bits BinOp.and IntKind.u8 (mk.cI W a37 n37 c37 20) 2 == 0) x35
                    (bits BinOp.and IntKind.u8 (mk.cI W a37 n37 c37 20) 1 == 0) x36 ==
                  irq.pkF (mk.cI W a37 n37 c37 0 == 2) (mk.cB W a37 n37 c37 21) (mk.cB W a37 n37 c37 17)
                    (mk.cB W a37 n37 c37 18) (mk.cB W a37 n37 c37 22)
                    (bits BinOp.and IntKind.u8 (mk.cI W a37 n37 c37 20) 4 == 0) x34
                    (bits BinOp.and IntKind.u8 (mk.cI W a37 n37 c37 20) 2 == 0) x35
                    (bits BinOp.and IntKind.u8 (mk.cI W a37 n37 c37 20) 1 == 0) x36
              else false
            else false))))
else none) := by kernel_rfl

theorem walk (W : World) (e : Env) (h : argsOk W e 0 shapes) : okTrue (eval Try.prog W (irq.G W) 4 (argsTV e 0 shapes)) = true := by
  have hr : mk.okRow W (e.a 37) (e.len 37) (e.cap 37) = true := mk.okRow_of h.2.2.1
  refine (nf W (e.n 0) (e.n 1) (e.n 2) (e.n 3) (e.n 4) (e.n 5) (e.n 6) (e.n 7) (e.b 8) (e.b 9) (e.b 10) (e.b 11) (e.b 12) (e.b 13) (e.b 14) (e.n 15) (e.n 16) (e.b 17) (e.b 18) (e.b 19) (e.n 20) (e.b 21) (e.b 22) (e.b 23) (e.b 24) (e.b 25) (e.b 26) (e.b 27) (e.b 28) (e.b 29) (e.b 30) (e.b 31) (e.b 32) (e.b 33) (e.b 34) (e.b 35) (e.b 36) (e.a 37) (e.len 37) (e.cap 37)).trans ?_
  simp only [hr, mk.cN_in W (e.a 37) (e.len 37) (m := 0) (by decide) (by decide), bne, beq_self_eq_true, Bool.and_self, cond_true, Bool.cond_self]
  rfl

theorem own : ownKnob Try.prog.godebug = none := by kernel_rfl

theorem lifted (os : Os) (started : os.Started) (H : Type) (enc : TypeId × Value → H) :
    ReturnsInHanded {} Try.checked os 4 .any (Rows.irqPicksSpec.pre6 enc Try.prog Try.f4 Rows.irqPicksRow.domain false) (Rows.irqPicksSpec.post enc Try.prog Try.f4 false true false false) :=
  law_step (C := Try.checked) 3 own started (by kernel_rfl) Try.func4 (by kernel_rfl) (by kernel_rfl) rfl
    (fun ds hd => by
      match ds, hd with
      | [d0, d1, d2], _ => rfl)
    (ChangeSpec.witness6 (enc := enc) (C := Try.checked) false ⟨#[], #[.agg #[.int .i64 0, .int .u8 0, .int .u8 0, .int .u8 0, .int .u8 0, .int .u8 0, .int .u8 0, .int .u8 0, .bool false, .bool false, .bool false, .bool false, .bool false, .bool false, .bool false, .int .u16 0, .int .u16 0, .bool false, .bool false, .bool false, .int .u8 0, .bool false, .bool false, .bool false, .bool false, .bool false, .bool false, .bool false], .agg #[.bool false, .bool false, .bool false, .bool false, .bool false, .bool false, .bool false, .bool false, .bool false], .slice none 0 0], []⟩ 8 (by kernel_rfl) (by kernel_rfl) (by kernel_rfl) (by kernel_rfl))
    (fun W base args hv hl _ _ htr => plain_walk (P := Try.prog) (G := fun W => irq.G W) irq.gok shapes (by kernel_rfl) walk W base args hv hl htr)

theorem over : Rows.irqPicksRow.holds Try.pinned (OpenSpec.ofChange Rows.irqPicksSpec) :=
  OpenClaim.holds_of_wide 4 Try.f4 rfl rfl rfl rfl rfl rfl rfl ⟨rfl, rfl, rfl, rfl, rfl⟩ rfl rfl rfl rfl rfl (by kernel_rfl) Try.func4 (by kernel_rfl)
    (of_decide_eq_true (by kernel_rfl)) (by unfold Func.isWrapper; first | (rw [if_pos (by decide +kernel)]; kernel_rfl) | (rw [if_neg (by decide +kernel)]; exact ⟨rfl, rfl⟩))
    (fun os started H enc _ => lifted os started H enc)

theorem proved : Rows.IrqPicksSaid := over
#print axioms proved
end Go.Proofs.Ytdmpagiankblpaa.irqPicks
