/- tstatelaw5.RotateHalves returns true for every input; no condition. -/
import Derived.Test.YtecngmfpciechaaRows
import Derived.Test.YtecngmfpciechaaLaw
import Derived.Test.YtecngmfpciechaaNum
namespace Go.Proofs.Ytecngmfpciechaa.rotateHalves
open Go Go.Sx Go.RowKit

def shapes : List ASh := [.one (.int .u16), .one (.bool)]
def rhs (x0 : Int) (x1 : Bool) : Bool := okTrue (bif
    gadd IntKind.i64
        (gmul IntKind.i64 2
          (IntKind.i64.wrap
            (IntKind.i16.wrap
              (bits BinOp.or IntKind.u16 (gshr IntKind.u16 x0 1) (bits BinOp.and IntKind.u16 x0 32768)))))
        (bif bits BinOp.and IntKind.u16 x0 1 == 1 then 1 else 0) ==
      IntKind.i64.wrap (IntKind.i16.wrap x0) then
  bif
      gadd IntKind.i64
          (IntKind.i64.wrap
            (bits BinOp.or IntKind.u16 (gshl IntKind.u16 x0 1) (IntKind.u16.wrap (bif x1 then 1 else 0))))
          (gmul IntKind.i64 65536 (bif decide (x0 ≥ 32768) then 1 else 0)) ==
        gadd IntKind.i64 (gmul IntKind.i64 2 (IntKind.i64.wrap x0)) (bif x1 then 1 else 0) then
    some
      (TV.one
        (SV.bool
          (SB.sym
            (bif decide (gmul IntKind.i64 2 (IntKind.i64.wrap (IntKind.i16.wrap x0)) < -32768) then
              (bits BinOp.and IntKind.u16
                    (bits BinOp.xor IntKind.u16
                      (bits BinOp.or IntKind.u16 (gshl IntKind.u16 x0 1) (IntKind.u16.wrap (bif x1 then 1 else 0))) x0)
                    32768 !=
                  0) ==
                true
            else
              (bits BinOp.and IntKind.u16
                    (bits BinOp.xor IntKind.u16
                      (bits BinOp.or IntKind.u16 (gshl IntKind.u16 x0 1) (IntKind.u16.wrap (bif x1 then 1 else 0))) x0)
                    32768 !=
                  0) ==
                decide (gmul IntKind.i64 2 (IntKind.i64.wrap (IntKind.i16.wrap x0)) > 32767)))))
  else none
else none) 
theorem nf (x0 : Int) (x1 : Bool) : okTrue (eval Try.prog [] 7 [.one (.int .u16 (.sym x0)), .one (.bool (.sym x1))]) = rhs x0 x1 := by kernel_rfl
theorem bit (x1 : Bool) : IntKind.u16.wrap (bif x1 then 1 else 0) = if x1 then 1 else 0 := by cases x1 <;> decide
theorem w64 (n : Int) (h0 : -1000000 ≤ n) (h1 : n ≤ 1000000) : IntKind.i64.wrap n = n := by rw [IntKind.wrap_i64]; omega
theorem plain (x0 : Int) (x1 : Bool) (h0 : 0 ≤ x0) (h1 : x0 ≤ 65535) : rhs x0 x1 = true := by
  have hr : 0 ≤ (2 * x0) % 65536 + (if x1 then 1 else 0) ∧ (2 * x0) % 65536 + (if x1 then 1 else 0) < 65536 := by split <;> omega
  have hj : bits .or .u16 (gshl .u16 x0 1) (IntKind.u16.wrap (bif x1 then 1 else 0)) = (2 * x0) % 65536 + (if x1 then 1 else 0) := by
    rw [bit, u16_shl1]
    exact u16_or_low 1 (by omega) (by simp) (by omega) (by split <;> decide) (by split <;> decide) (by split <;> decide)
  have ha : bits .or .u16 (gshr .u16 x0 1) (bits .and .u16 x0 32768) = (if 32768 ≤ x0 then 32768 else 0) + x0 / 2 := by
    rw [bits_or_comm, u16_top h0 (by omega), u16_shr1]
    exact u16_or_low 15 (by split <;> decide) (by split <;> decide) (by split <;> decide) (by omega) (by have : (2:Int)^15 = 32768 := rfl; omega) (by omega)
  unfold rhs
  rw [hj, ha, u16_xor_top hr.1 hr.2 h0 (by omega), u16_and1]
  simp only [gadd, gmul, wrap_i16]
  have c1 : ∀ b : Bool, 0 ≤ (bif b then (1 : Int) else 0) ∧ (bif b then (1 : Int) else 0) ≤ 1 := fun b => by cases b <;> decide
  have c2 := c1 x1
  have c3 := c1 (x0 % 2 == 1)
  have c4 := c1 (decide (x0 ≥ 32768))
  have e1 : (if x1 = true then (1 : Int) else 0) = bif x1 then 1 else 0 := by cases x1 <;> rfl
  have e3 : (bif (x0 % 2 == 1) then (1 : Int) else 0) = x0 % 2 := by
    by_cases q : x0 % 2 = 1
    · simp [q]
    · have : x0 % 2 = 0 := by omega
      simp [this]
  rw [e1] at hr ⊢
  rw [e3]
  generalize (bif x1 then (1 : Int) else 0) = b at *
  by_cases q : (32768 : Int) ≤ x0
  · have e4 : decide (x0 ≥ 32768) = true := by simpa using q
    rw [e4, if_pos q]
    have e5 : ((32768 + x0 / 2 + 32768) % 65536 - 32768 : Int) = x0 / 2 - 32768 := by omega
    have e6 : ((x0 + 32768) % 65536 - 32768 : Int) = x0 - 65536 := by omega
    rw [e5, e6]
    simp (discharger := omega) only [w64]
    have k1 : (2 * (x0 / 2 - 32768) + x0 % 2 : Int) = x0 - 65536 := by omega
    rw [k1]
    have k2 : IntKind.i64.wrap (65536 * bif true then 1 else 0) = 65536 := by decide
    rw [k2]
    simp (discharger := omega) only [w64]
    have k3 : (2 * x0 % 65536 + b + 65536 : Int) = 2 * x0 + b := by omega
    rw [k3]
    simp only [beq_self_eq_true, cond_true, okTrue, SB.val]
    have k4 : ¬ (2 * (x0 - 65536) > 32767) := by omega
    by_cases r : 2 * (x0 - 65536) < -32768
    · have : ¬ (2 * x0 % 65536 + b ≥ 32768) := by omega
      simp [r, this]
    · have : 2 * x0 % 65536 + b ≥ 32768 := by omega
      simp [r, this, k4]
  · have e4 : decide (x0 ≥ 32768) = false := by simpa using q
    rw [e4, if_neg q]
    have e5 : ((0 + x0 / 2 + 32768) % 65536 - 32768 : Int) = x0 / 2 := by omega
    have e6 : ((x0 + 32768) % 65536 - 32768 : Int) = x0 := by omega
    rw [e5, e6]
    simp (discharger := omega) only [w64]
    have k1 : (2 * (x0 / 2) + x0 % 2 : Int) = x0 := by omega
    rw [k1]
    have k2 : IntKind.i64.wrap (65536 * bif false then 1 else 0) = 0 := by decide
    rw [k2]
    simp (discharger := omega) only [w64]
    have k3 : (2 * x0 % 65536 + b + 0 : Int) = 2 * x0 + b := by omega
    rw [k3]
    simp only [beq_self_eq_true, cond_true, okTrue, SB.val]
    have k4 : ¬ (2 * x0 < -32768) := by omega
    by_cases r : 2 * x0 > 32767
    · have : 2 * x0 % 65536 + b ≥ 32768 := by omega
      simp [r, this, k4]
    · have : ¬ (2 * x0 % 65536 + b ≥ 32768) := by omega
      simp [r, this, k4]
theorem walk (e : Env) (h : argsOk e 0 shapes) : okTrue (eval Try.prog [] 7 (argsTV e 0 shapes)) = true :=
  (nf (e.n 0) (e.b 1)).trans (plain (e.n 0) (e.b 1) (rng_u16 h.1).1 (rng_u16 h.1).2)

theorem own : ownKnob Try.prog.godebug = none := by kernel_rfl

set_option maxRecDepth 100000 in
theorem lifted (os : Os) (started : os.Started) (H : Type) (enc : TypeId × Value → H) :
    ReturnsInHanded {} Try.checked os 7 .any (Rows.rotateHalvesSpec.pre6 enc Try.prog Try.f7 Rows.rotateHalvesRow.domain false) (Rows.rotateHalvesSpec.post enc Try.prog Try.f7 false true false false) :=
  law_step (C := Try.checked) 2 own started (by kernel_rfl) Try.func7 (by kernel_rfl) (by kernel_rfl) rfl
    (fun ds hd => by
      match ds, hd with
      | [d0, d1], _ => rfl)
    (ChangeSpec.witness6 (enc := enc) (C := Try.checked) false ⟨#[], #[.int .u16 0, .bool false], []⟩ 8 (by kernel_rfl) (by kernel_rfl) (by kernel_rfl) (by kernel_rfl))
    (fun W base args hv hl _ _ _ => plain_walk (P := Try.prog) (G := []) gok_nil shapes (by kernel_rfl) walk W base args hv hl)

theorem over : Rows.rotateHalvesRow.holds Try.pinned (OpenSpec.ofChange Rows.rotateHalvesSpec) :=
  OpenClaim.holds_of_wide 7 Try.f7 rfl rfl rfl rfl rfl rfl rfl ⟨rfl, rfl, rfl, rfl, rfl⟩ rfl rfl rfl rfl rfl (by kernel_rfl) Try.func7 (by kernel_rfl)
    (of_decide_eq_true (by kernel_rfl)) (by unfold Func.isWrapper; first | (rw [if_pos (by decide +kernel)]; kernel_rfl) | (rw [if_neg (by decide +kernel)]; exact ⟨rfl, rfl⟩))
    (fun os started H enc _ => lifted os started H enc)

theorem proved : Rows.RotateHalvesSaid := over
#print axioms proved
end Go.Proofs.Ytecngmfpciechaa.rotateHalves

