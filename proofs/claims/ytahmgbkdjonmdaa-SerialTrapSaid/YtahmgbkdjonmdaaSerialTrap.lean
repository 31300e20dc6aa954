/- tstatelaw14.SerialTrap returns true for every input; no condition. -/
import Derived.Test.YtahmgbkdjonmdaaSer
namespace Go.Proofs.Ytahmgbkdjonmdaa.serialTrap
open Go Go.Sx Go.RowKit
set_option maxRecDepth 100000

def shapes : List ASh := [.ints .i64, .agg [.bool, .bool, .bool, .bool, .bool, .bool, .bool, .bool, .bool]]
theorem nf (W : World) (a0 : Option Addr) (n0 : Nat) (c0 : Nat) (x1 : Bool) (x2 : Bool) (x3 : Bool) (x4 : Bool) (x5 : Bool) (x6 : Bool) (x7 : Bool) (x8 : Bool) (x9 : Bool) : okTrue (eval Try.prog W (ser.G W) 6 [.one (.sl a0 n0 c0), .agg [.bool (.sym x1), .bool (.sym x2), .bool (.sym x3), .bool (.sym x4), .bool (.sym x5), .bool (.sym x6), .bool (.sym x7), .bool (.sym x8), .bool (.sym x9)]]) =
  okTrue (bif bif decide ((n0 : Int) > 60) then true else mk.okRow W a0 n0 c0 then
  some
    (TV.one
      (SV.bool
        (SB.sym
          (bif decide ((n0 : Int) > 60) then true
          else
            bif
                (bits BinOp.and IntKind.u8
                      (bits BinOp.or IntKind.u8
                        (bits BinOp.or IntKind.u8
                          (bits BinOp.or IntKind.u8
                            (bits BinOp.or IntKind.u8
                              (bits BinOp.or IntKind.u8 (ser.bt x4 7) (ser.bt (mk.cB W a0 n0 c0 22) 6)) (ser.bt x7 5))
                            (ser.bt x8 4))
                          (ser.bt (mk.cB W a0 n0 c0 17) 3))
                        (bits BinOp.and IntKind.u8 (mk.cI W a0 n0 c0 20) 7))
                      8 !=
                    0) ==
                  mk.cB W a0 n0 c0 17 then
              bif
                  bits BinOp.and IntKind.u8
                      (bits BinOp.or IntKind.u8
                        (bits BinOp.or IntKind.u8
                          (bits BinOp.or IntKind.u8
                            (bits BinOp.or IntKind.u8
                              (bits BinOp.or IntKind.u8 (ser.bt x4 7) (ser.bt (mk.cB W a0 n0 c0 22) 6)) (ser.bt x7 5))
                            (ser.bt x8 4))
                          0)
                        (bits BinOp.and IntKind.u8 (mk.cI W a0 n0 c0 20) 7))
                      8 ==
                    0 then
                mk.cI W a0 n0 c0 0 == mk.cI W a0 n0 c0 0 &&
                  (mk.cI W a0 n0 c0 1 == mk.cI W a0 n0 c0 1 &&
                      (mk.cI W a0 n0 c0 2 == mk.cI W a0 n0 c0 2 &&
                        (mk.cI W a0 n0 c0 3 == mk.cI W a0 n0 c0 3 &&
                          (mk.cI W a0 n0 c0 4 == mk.cI W a0 n0 c0 4 &&
                            (mk.cI W a0 n0 c0 5 == mk.cI W a0 n0 c0 5 &&
                              (mk.cI W a0 n0 c0 6 == mk.cI W a0 n0 c0 6 &&
                                (mk.cI W a0 n0 c0 7 == mk.cI W a0 n0 c0 7 &&
                                  (mk.cB W a0 n0 c0 8 == mk.cB W a0 n0 c0 8 &&
                                      (mk.cB W a0 n0 c0 9 == mk.cB W a0 n0 c0 9 &&
                                        (mk.cB W a0 n0 c0 10 == mk.cB W a0 n0 c0 10 &&
                                          (mk.cB W a0 n0 c0 11 == mk.cB W a0 n0 c0 11 &&
                                            (mk.cB W a0 n0 c0 12 == mk.cB W a0 n0 c0 12 &&
                                              (mk.cB W a0 n0 c0 13 == mk.cB W a0 n0 c0 13 &&
                                                mk.cB W a0 n0 c0 14 == mk.cB W a0 n0 c0 14))))) &&
                                    (mk.cI W a0 n0 c0 15 == mk.cI W a0 n0 c0 15 &&
                                      mk.cI W a0 n0 c0 16 == mk.cI W a0 n0 c0 16)))))))) &&
                    (mk.cI W a0 n0 c0 20 == mk.cI W a0 n0 c0 20 &&
                      (mk.cB W a0 n0 c0 22 == mk.cB W a0 n0 c0 22 &&
                        (mk.cB W a0 n0 c0 23 == mk.cB W a0 n0 c0 23 &&
                          (mk.cB W a0 n0 c0 24 == mk.cB W a0 n0 c0 24 && mk.cB W a0 n0 c0 27 == mk.cB W a0 n0 c0 27)))))
              else false
            else false))))
else none) := by kernel_rfl

theorem walk (W : World) (e : Env) (h : argsOk W e 0 shapes) : okTrue (eval Try.prog W (ser.G W) 6 (argsTV e 0 shapes)) = true := by
  have hr : mk.okRow W (e.a 0) (e.len 0) (e.cap 0) = true := mk.okRow_of h.1
  refine (nf W (e.a 0) (e.len 0) (e.cap 0) (e.b 1) (e.b 2) (e.b 3) (e.b 4) (e.b 5) (e.b 6) (e.b 7) (e.b 8) (e.b 9)).trans ?_
  simp only [hr, ser.rim8, ser.rim8', beq_self_eq_true, Bool.and_self, cond_true, Bool.cond_self]
  rfl

theorem own : ownKnob Try.prog.godebug = none := by kernel_rfl

theorem lifted (os : Os) (started : os.Started) (H : Type) (enc : TypeId × Value → H) :
    ReturnsInHanded {} Try.checked os 6 .any (Rows.serialTrapSpec.pre6 enc Try.prog Try.f6 Rows.serialTrapRow.domain false) (Rows.serialTrapSpec.post enc Try.prog Try.f6 false true false false) :=
  law_step (C := Try.checked) 2 own started (by kernel_rfl) Try.func6 (by kernel_rfl) (by kernel_rfl) rfl
    (fun ds hd => by
      match ds, hd with
      | [d0, d1], _ => rfl)
    (ChangeSpec.witness6 (enc := enc) (C := Try.checked) false ⟨#[], #[.slice none 0 0, .agg #[.bool false, .bool false, .bool false, .bool false, .bool false, .bool false, .bool false, .bool false, .bool false]], []⟩ 8 (by kernel_rfl) (by kernel_rfl) (by kernel_rfl) (by kernel_rfl))
    (fun W base args hv hl _ _ htr => plain_walk (P := Try.prog) (G := fun W => ser.G W) ser.gok shapes (by kernel_rfl) walk W base args hv hl htr)

theorem over : Rows.serialTrapRow.holds Try.pinned (OpenSpec.ofChange Rows.serialTrapSpec) :=
  OpenClaim.holds_of_wide 6 Try.f6 rfl rfl rfl rfl rfl rfl rfl ⟨rfl, rfl, rfl, rfl, rfl⟩ rfl rfl rfl rfl rfl (by kernel_rfl) Try.func6 (by kernel_rfl)
    (of_decide_eq_true (by kernel_rfl)) (by unfold Func.isWrapper; first | (rw [if_pos (by decide +kernel)]; kernel_rfl) | (rw [if_neg (by decide +kernel)]; exact ⟨rfl, rfl⟩))
    (fun os started H enc _ => lifted os started H enc)

theorem proved : Rows.SerialTrapSaid := over
#print axioms proved
end Go.Proofs.Ytahmgbkdjonmdaa.serialTrap
