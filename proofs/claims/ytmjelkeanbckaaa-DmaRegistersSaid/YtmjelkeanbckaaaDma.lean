/- The registers of chapter 23: what the program's functions and the document's compute. -/
import Derived.Test.YtmjelkeanbckaaaKnown
namespace Go.Proofs.Ytmjelkeanbckaaa.dm
open Go Go.Sx

theorem and_three (x : Int) : bits .and .i64 x 3 = 0 ∨ bits .and .i64 x 3 = 1 ∨ bits .and .i64 x 3 = 2 ∨ bits .and .i64 x 3 = 3 := by
  have h : bits .and .i64 x 3 = x % 4 := and_mask .i64 2 (by decide) x
  omega
def wAt (x0 x3 x4 : Int) : Int :=
  bif bits .and .i64 x3 3 == 0 then bits .or .u16 (bits .and .u16 x0 65280) (IntKind.u16.wrap x4)
  else bif bits .and .i64 x3 3 == 1 then bits .or .u16 (bits .and .u16 x0 255) (gshl .u16 (IntKind.u16.wrap x4) 8) else x0
def wVal (x1 x3 x4 : Int) : Int :=
  bif bits .and .i64 x3 3 == 0 then x1 else bif bits .and .i64 x3 3 == 1 then x1 else bif bits .and .i64 x3 3 == 2 then x4 else x1
def wLeft (x2 x3 x4 : Int) : Int :=
  bif bits .and .i64 x3 3 == 0 then x2 else bif bits .and .i64 x3 3 == 1 then x2 else bif bits .and .i64 x3 3 == 2 then x2 else IntKind.i64.wrap x4
def rd (x0 x1 x2 x3 : Int) : Int :=
  bif bits .and .i64 x3 3 == 0 then IntKind.u8.wrap x0 else bif bits .and .i64 x3 3 == 1 then IntKind.u8.wrap (gshr .u16 x0 8) else bif bits .and .i64 x3 3 == 2 then x1 else IntKind.u8.wrap x2
def dma (a b c : Int) : TV := .agg [.int .u16 (.sym a), .int .u8 (.sym b), .int .i64 (.sym c)]
def FW : List TV → Option TV
  | [.agg [.int .u16 (.sym x0), .int .u8 (.sym x1), .int .i64 (.sym x2)], .one (.int .i64 (.sym x3)), .one (.int .u8 (.sym x4))] => some (dma (wAt x0 x3 x4) (wVal x1 x3 x4) (wLeft x2 x3 x4))
  | _ => none
def FR : List TV → Option TV
  | [.agg [.int .u16 (.sym x0), .int .u8 (.sym x1), .int .i64 (.sym x2)], .one (.int .i64 (.sym x3))] => some (.one (.int .u8 (.sym (rd x0 x1 x2 x3))))
  | _ => none

theorem val13 (x0 x1 x2 x3 x4 : Int) : eval Try.prog [] 13 [dma x0 x1 x2, .one (.int .i64 (.sym x3)), .one (.int .u8 (.sym x4))] = some (dma (wAt x0 x3 x4) (wVal x1 x3 x4) (wLeft x2 x3 x4)) := by kernel_rfl
theorem nf12 (x0 x1 x2 x3 x4 : Int) : eval Try.prog [] 12 [dma x0 x1 x2, .one (.int .i64 (.sym x3)), .one (.int .u8 (.sym x4))] = some (dma (wAt x0 x3 x4) (wVal x1 x3 x4)
    (bif bits .and .i64 x3 3 == 0 then x2 else bif bits .and .i64 x3 3 == 1 then x2 else bif bits .and .i64 x3 3 == 2 then x2 else bif bits .and .i64 x3 3 == 3 then IntKind.i64.wrap x4 else x2)) := by kernel_rfl
theorem val12 (x0 x1 x2 x3 x4 : Int) : eval Try.prog [] 12 [dma x0 x1 x2, .one (.int .i64 (.sym x3)), .one (.int .u8 (.sym x4))] = some (dma (wAt x0 x3 x4) (wVal x1 x3 x4) (wLeft x2 x3 x4)) := by
  rw [nf12]
  unfold wLeft
  rcases and_three x3 with h | h | h | h <;> rw [h] <;> rfl
theorem nf14 (x0 x1 x2 x3 : Int) : eval Try.prog [] 14 [dma x0 x1 x2, .one (.int .i64 (.sym x3))] =
    bif bits .and .i64 x3 3 == 0 then some (TV.one (SV.int IntKind.u8 (SI.sym (IntKind.u8.wrap x0))))
    else bif bits .and .i64 x3 3 == 1 then some (TV.one (SV.int IntKind.u8 (SI.sym (IntKind.u8.wrap (gshr IntKind.u16 x0 8)))))
    else bif bits .and .i64 x3 3 == 2 then some (TV.one (SV.int IntKind.u8 (SI.sym x1))) else some (TV.one (SV.int IntKind.u8 (SI.sym (IntKind.u8.wrap x2)))) := by kernel_rfl
theorem val14 (x0 x1 x2 x3 : Int) : eval Try.prog [] 14 [dma x0 x1 x2, .one (.int .i64 (.sym x3))] = some (.one (.int .u8 (.sym (rd x0 x1 x2 x3)))) := by
  rw [nf14]
  unfold rd
  rcases and_three x3 with h | h | h | h <;> rw [h] <;> rfl
theorem nf15 (x0 x1 x2 x3 : Int) : eval Try.prog [] 15 [dma x0 x1 x2, .one (.int .i64 (.sym x3))] =
    bif (bif decide (bits .and .i64 x3 3 = 0) then true else bif decide (bits .and .i64 x3 3 = 1) then true else bif decide (bits .and .i64 x3 3 = 2) then true else decide (bits .and .i64 x3 3 = 3)) then
      some (TV.one (SV.int IntKind.u8 (SI.sym (bif decide (bits .and .i64 x3 3 = 0) then IntKind.u8.wrap x0 else bif decide (bits .and .i64 x3 3 = 1) then IntKind.u8.wrap (gshr IntKind.u16 x0 8)
        else bif decide (bits .and .i64 x3 3 = 2) then x1 else IntKind.u8.wrap x2))))
    else none := by kernel_rfl
theorem val15 (x0 x1 x2 x3 : Int) : eval Try.prog [] 15 [dma x0 x1 x2, .one (.int .i64 (.sym x3))] = some (.one (.int .u8 (.sym (rd x0 x1 x2 x3)))) := by
  rw [nf15]
  unfold rd
  rcases and_three x3 with h | h | h | h <;> rw [h] <;> rfl

theorem fw_ok (W : World) {g : Nat} (fn : ∃ fn, Try.prog.funcs[g]? = some fn ∧ (fn.name == "runtime.NumGoroutine") = false ∧ fn.body.isNone = false)
    (h : ∀ x0 x1 x2 x3 x4 : Int, eval Try.prog [] g [dma x0 x1 x2, .one (.int .i64 (.sym x3)), .one (.int .u8 (.sym x4))] = some (dma (wAt x0 x3 x4) (wVal x1 x3 x4) (wLeft x2 x3 x4))) : SpecOk W Try.prog g (specF FW) := by
  refine specF_ok (G := []) (gok_nil W) fn fun args v hv => ?_
  unfold FW at hv
  split at hv
  · simp only [Option.some.injEq] at hv
    subst hv
    exact ⟨rfl, rfl, by simp [dma], _, h _ _ _ _ _, fun _ => rfl⟩
  · cases hv
theorem fr_ok (W : World) {g : Nat} (fn : ∃ fn, Try.prog.funcs[g]? = some fn ∧ (fn.name == "runtime.NumGoroutine") = false ∧ fn.body.isNone = false)
    (h : ∀ x0 x1 x2 x3 : Int, eval Try.prog [] g [dma x0 x1 x2, .one (.int .i64 (.sym x3))] = some (.one (.int .u8 (.sym (rd x0 x1 x2 x3))))) : SpecOk W Try.prog g (specF FR) := by
  refine specF_ok (G := []) (gok_nil W) fn fun args v hv => ?_
  unfold FR at hv
  split at hv
  · simp only [Option.some.injEq] at hv
    subst hv
    exact ⟨rfl, rfl, by simp, _, h _ _ _ _, fun _ => rfl⟩
  · cases hv
def G : List (Nat × Sx.Spec) := [(11, specF FK), (12, specF FW), (13, specF FW), (14, specF FR), (15, specF FR)]
theorem gok (W : World) : GOk W Try.prog G :=
  gok_cons (known_ok ⟨Try.f11, Try.func11, by kernel_rfl, by kernel_rfl⟩ kn.knownv) (gok_cons (fw_ok W ⟨Try.f12, Try.func12, by kernel_rfl, by kernel_rfl⟩ val12) (gok_cons (fw_ok W ⟨Try.f13, Try.func13, by kernel_rfl, by kernel_rfl⟩ val13)
    (gok_cons (fr_ok W ⟨Try.f14, Try.func14, by kernel_rfl, by kernel_rfl⟩ val14) (gok_cons (fr_ok W ⟨Try.f15, Try.func15, by kernel_rfl, by kernel_rfl⟩ val15) (gok_nil W)))))
end Go.Proofs.Ytmjelkeanbckaaa.dm
