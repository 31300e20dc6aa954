/- tstatelaw10.CondOpposes returns true for every input; no condition. -/
import Derived.Test.YtmpfdmgmacfocaaCond
namespace Go.Proofs.Ytmpfdmgmacfocaa.condOpposes
open Go Go.Sx Go.RowKit
set_option maxRecDepth 100000

def shapes : List ASh := [.one (.int .i64), .agg [.bool, .bool, .bool, .bool, .bool, .bool, .bool]]

theorem nf (x0 : Int) (x1 x2 x3 x4 x5 x6 x7 : Bool) : okTrue (eval Try.prog cnd.G 4 [.one (.int .i64 (.sym x0)), .agg [.bool (.sym x1), .bool (.sym x2), .bool (.sym x3), .bool (.sym x4), .bool (.sym x5), .bool (.sym x6), .bool (.sym x7)]]) =
  okTrue (bif
    !cnd.hd (gmul IntKind.i64 2 (IntKind.i64.wrap ((IntKind.u64.wrap x0).tmod 5))) x1 x2 x3 x5 x6 x7 ==
        cnd.hd (gadd IntKind.i64 (gmul IntKind.i64 2 (IntKind.i64.wrap ((IntKind.u64.wrap x0).tmod 5))) 1) x1 x2 x3 x5
          x6 x7 then
  some
    (TV.one
      (SV.bool
        (SB.sym
          !cnd.hd (gmul IntKind.i64 2 (IntKind.i64.wrap ((IntKind.u64.wrap x0).tmod 5))) x1 x2 x3 x5 x6 x7 ==
              cnd.hd (gadd IntKind.i64 (gmul IntKind.i64 2 (IntKind.i64.wrap ((IntKind.u64.wrap x0).tmod 5))) 1) x1 x2
                x3 x5 x6 x7)))
else
  bif
      !cnd.hd (gmul IntKind.i64 2 (IntKind.i64.wrap ((IntKind.u64.wrap x0).tmod 5))) x1 x2 x3 x5 x6 x7 ==
          cnd.hd (gadd IntKind.i64 (gmul IntKind.i64 2 (IntKind.i64.wrap ((IntKind.u64.wrap x0).tmod 5))) 1) x1 x2 x3 x5
            x6 x7 then
    none
  else some (TV.one (SV.bool (SB.lit false)))) := by kernel_rfl
theorem opp (k : Int) (h0 : 0 ≤ k) (h1 : k < 5) (s z kk p v c : Bool) : (!cnd.hd (gmul .i64 2 k) s z kk p v c == cnd.hd (gadd .i64 (gmul .i64 2 k) 1) s z kk p v c) = true := by
  have : k = 0 ∨ k = 1 ∨ k = 2 ∨ k = 3 ∨ k = 4 := by omega
  rcases this with rfl | rfl | rfl | rfl | rfl
  · cases z <;> rfl
  · cases c <;> rfl
  · cases p <;> rfl
  · cases s <;> rfl
  · cases kk <;> rfl
theorem walk (e : Env) (_ : argsOk e 0 shapes) : okTrue (eval Try.prog cnd.G 4 (argsTV e 0 shapes)) = true := by
  refine (nf (e.n 0) (e.b 1) (e.b 2) (e.b 3) (e.b 4) (e.b 5) (e.b 6) (e.b 7)).trans ?_
  have h := place_range (e.n 0) 5 (by decide) (by decide)
  have hw : IntKind.u64.wrap 5 = 5 := by decide
  rw [hw] at h
  rw [opp _ h.1 h.2]
  rfl

theorem own : ownKnob Try.prog.godebug = none := by kernel_rfl

theorem lifted (os : Os) (started : os.Started) (H : Type) (enc : TypeId × Value → H) :
    ReturnsInHanded {} Try.checked os 4 .any (Rows.condOpposesSpec.pre6 enc Try.prog Try.f4 Rows.condOpposesRow.domain false) (Rows.condOpposesSpec.post enc Try.prog Try.f4 false true false false) :=
  law_step (C := Try.checked) 2 own started (by kernel_rfl) Try.func4 (by kernel_rfl) (by kernel_rfl) rfl
    (fun ds hd => by
      match ds, hd with
      | [d0, d1], _ => rfl)
    (ChangeSpec.witness6 (enc := enc) (C := Try.checked) false ⟨#[], #[.int .i64 0, .agg #[.bool false, .bool false, .bool false, .bool false, .bool false, .bool false, .bool false]], []⟩ 8 (by kernel_rfl) (by kernel_rfl) (by kernel_rfl) (by kernel_rfl))
    (fun W base args hv hl _ _ _ => plain_walk (P := Try.prog) (G := cnd.G) cnd.gok shapes (by kernel_rfl) walk W base args hv hl)

theorem over : Rows.condOpposesRow.holds Try.pinned (OpenSpec.ofChange Rows.condOpposesSpec) :=
  OpenClaim.holds_of_wide 4 Try.f4 rfl rfl rfl rfl rfl rfl rfl ⟨rfl, rfl, rfl, rfl, rfl⟩ rfl rfl rfl rfl rfl (by kernel_rfl) Try.func4 (by kernel_rfl)
    (of_decide_eq_true (by kernel_rfl)) (by unfold Func.isWrapper; first | (rw [if_pos (by decide +kernel)]; kernel_rfl) | (rw [if_neg (by decide +kernel)]; exact ⟨rfl, rfl⟩))
    (fun os started H enc _ => lifted os started H enc)

theorem proved : Rows.CondOpposesSaid := over
#print axioms proved
end Go.Proofs.Ytmpfdmgmacfocaa.condOpposes
