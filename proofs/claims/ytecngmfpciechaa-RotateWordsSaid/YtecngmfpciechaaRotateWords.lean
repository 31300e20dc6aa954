/- tstatelaw5.RotateWords returns true for every input; no condition. -/
import Derived.Test.YtecngmfpciechaaRows
import Derived.Test.YtecngmfpciechaaLaw
import Derived.Test.YtecngmfpciechaaNum
namespace Go.Proofs.Ytecngmfpciechaa.rotateWords
open Go Go.Sx Go.RowKit

def shapes : List ASh := [.one (.int .u16), .one (.bool)]
def rhs (x0 : Int) (x1 : Bool) : Bool := okTrue (some
  (TV.one
    (SV.bool
      (SB.sym
        (bif
            bits BinOp.or IntKind.u16 (gshr IntKind.u16 x0 1) (bits BinOp.and IntKind.u16 x0 32768) ==
              bits BinOp.or IntKind.u16 (gshr IntKind.u16 x0 1) (bits BinOp.and IntKind.u16 x0 32768) then
          bif (bits BinOp.and IntKind.u16 x0 1 == 1) == (bits BinOp.and IntKind.u16 x0 1 == 1) then
            bif
                bits BinOp.or IntKind.u16 (gshl IntKind.u16 x0 1) (IntKind.u16.wrap (bif x1 then 1 else 0)) ==
                  bits BinOp.or IntKind.u16 (gshl IntKind.u16 x0 1) (IntKind.u16.wrap (bif x1 then 1 else 0)) then
              bif decide (x0 ≥ 32768) == decide (x0 ≥ 32768) then
                (bits BinOp.and IntKind.u16
                      (bits BinOp.xor IntKind.u16
                        (bits BinOp.or IntKind.u16 (gshl IntKind.u16 x0 1) (IntKind.u16.wrap (bif x1 then 1 else 0)))
                        x0)
                      32768 !=
                    0) ==
                  (bits BinOp.and IntKind.u16
                      (bits BinOp.or IntKind.u16 (gshl IntKind.u16 x0 1) (IntKind.u16.wrap (bif x1 then 1 else 0)))
                      32768 !=
                    bits BinOp.and IntKind.u16 x0 32768)
              else false
            else false
          else false
        else false))))) 
theorem nf (x0 : Int) (x1 : Bool) : okTrue (eval Try.prog [] 5 [.one (.int .u16 (.sym x0)), .one (.bool (.sym x1))]) = rhs x0 x1 := by kernel_rfl
theorem bit (x1 : Bool) : IntKind.u16.wrap (bif x1 then 1 else 0) = if x1 then 1 else 0 := by cases x1 <;> decide
theorem plain (x0 : Int) (x1 : Bool) (h0 : 0 ≤ x0) (h1 : x0 ≤ 65535) : rhs x0 x1 = true := by
  have hr : 0 ≤ (2 * x0) % 65536 + (if x1 then 1 else 0) ∧ (2 * x0) % 65536 + (if x1 then 1 else 0) < 65536 := by split <;> omega
  have hj : bits .or .u16 (gshl .u16 x0 1) (IntKind.u16.wrap (bif x1 then 1 else 0)) = (2 * x0) % 65536 + (if x1 then 1 else 0) := by
    rw [bit, u16_shl1]
    exact u16_or_low 1 (by omega) (by simp) (by omega) (by split <;> decide) (by split <;> decide) (by split <;> decide)
  unfold rhs
  rw [hj, u16_xor_top hr.1 hr.2 h0 (by omega), u16_top hr.1 hr.2, u16_top h0 (by omega)]
  simp only [beq_self_eq_true, cond_true, okTrue, SB.val]
  generalize (2 * x0) % 65536 + (if x1 then 1 else 0) = r at *
  by_cases p : (32768 : Int) ≤ r <;> by_cases q : (32768 : Int) ≤ x0 <;> simp [p, q]
theorem walk (e : Env) (h : argsOk e 0 shapes) : okTrue (eval Try.prog [] 5 (argsTV e 0 shapes)) = true :=
  (nf (e.n 0) (e.b 1)).trans (plain (e.n 0) (e.b 1) (rng_u16 h.1).1 (rng_u16 h.1).2)

theorem own : ownKnob Try.prog.godebug = none := by kernel_rfl

set_option maxRecDepth 100000 in
theorem lifted (os : Os) (started : os.Started) (H : Type) (enc : TypeId × Value → H) :
    ReturnsInHanded {} Try.checked os 5 .any (Rows.rotateWordsSpec.pre6 enc Try.prog Try.f5 Rows.rotateWordsRow.domain false) (Rows.rotateWordsSpec.post enc Try.prog Try.f5 false true false false) :=
  law_step (C := Try.checked) 2 own started (by kernel_rfl) Try.func5 (by kernel_rfl) (by kernel_rfl) rfl
    (fun ds hd => by
      match ds, hd with
      | [d0, d1], _ => rfl)
    (ChangeSpec.witness6 (enc := enc) (C := Try.checked) false ⟨#[], #[.int .u16 0, .bool false], []⟩ 8 (by kernel_rfl) (by kernel_rfl) (by kernel_rfl) (by kernel_rfl))
    (fun W base args hv hl _ _ _ => plain_walk (P := Try.prog) (G := []) gok_nil shapes (by kernel_rfl) walk W base args hv hl)

theorem over : Rows.rotateWordsRow.holds Try.pinned (OpenSpec.ofChange Rows.rotateWordsSpec) :=
  OpenClaim.holds_of_wide 5 Try.f5 rfl rfl rfl rfl rfl rfl rfl ⟨rfl, rfl, rfl, rfl, rfl⟩ rfl rfl rfl rfl rfl (by kernel_rfl) Try.func5 (by kernel_rfl)
    (of_decide_eq_true (by kernel_rfl)) (by unfold Func.isWrapper; first | (rw [if_pos (by decide +kernel)]; kernel_rfl) | (rw [if_neg (by decide +kernel)]; exact ⟨rfl, rfl⟩))
    (fun os started H enc _ => lifted os started H enc)

theorem proved : Rows.RotateWordsSaid := over
#print axioms proved
end Go.Proofs.Ytecngmfpciechaa.rotateWords

