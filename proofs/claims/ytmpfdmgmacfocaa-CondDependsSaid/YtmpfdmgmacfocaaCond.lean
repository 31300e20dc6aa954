/- The conditions of chapter 10: what both functions compute, and that the fixed example holds. -/
import Derived.Test.YtmpfdmgmacfocaaRows
import Derived.Test.YtmpfdmgmacfocaaLaw
import Derived.Test.YtmpfdmgmacfocaaNum
namespace Go.Proofs.Ytmpfdmgmacfocaa.cnd
open Go Go.Sx Go.RowKit

def hd (n : Int) (s z k p v c : Bool) : Bool :=
  bif n == 0 then !z else bif n == 1 then z else bif n == 2 then !c else bif n == 3 then c else bif n == 4 then !p else bif n == 5 then p
  else bif n == 6 then !s else bif n == 7 then s else bif n == 8 then !k else bif n == 9 then k else bif n == 10 then v else n == 11

theorem nf8 (x0 : Int) (x1 x2 x3 x4 x5 x6 x7 : Bool) : eval Try.prog [] 8 [.one (.int .i64 (.sym x0)), .agg [.bool (.sym x1), .bool (.sym x2), .bool (.sym x3), .bool (.sym x4), .bool (.sym x5), .bool (.sym x6), .bool (.sym x7)]] =
    (bif x0 == 0 then some (TV.one (SV.bool (SB.sym !x2)))
    else bif x0 == 1 then some (TV.one (SV.bool (SB.sym x2)))
    else bif x0 == 2 then some (TV.one (SV.bool (SB.sym !x7)))
    else bif x0 == 3 then some (TV.one (SV.bool (SB.sym x7)))
    else bif x0 == 4 then some (TV.one (SV.bool (SB.sym !x5)))
    else bif x0 == 5 then some (TV.one (SV.bool (SB.sym x5)))
    else bif x0 == 6 then some (TV.one (SV.bool (SB.sym !x1)))
    else bif x0 == 7 then some (TV.one (SV.bool (SB.sym x1)))
    else bif x0 == 8 then some (TV.one (SV.bool (SB.sym !x3)))
    else bif x0 == 9 then some (TV.one (SV.bool (SB.sym x3)))
    else bif x0 == 10 then some (TV.one (SV.bool (SB.sym x6)))
    else some (TV.one (SV.bool (SB.sym (x0 == 11))))) := by kernel_rfl
theorem val8 (x0 : Int) (x1 x2 x3 x4 x5 x6 x7 : Bool) : eval Try.prog [] 8 [.one (.int .i64 (.sym x0)), .agg [.bool (.sym x1), .bool (.sym x2), .bool (.sym x3), .bool (.sym x4), .bool (.sym x5), .bool (.sym x6), .bool (.sym x7)]] =
    some (.one (.bool (.sym (hd x0 x1 x2 x3 x5 x6 x7)))) := by
  rw [nf8]
  simp only [push_bool, hd]
theorem nf7 (x0 : Int) (x1 x2 x3 x4 x5 x6 x7 : Bool) : eval Try.prog [] 7 [.one (.int .i64 (.sym x0)), .agg [.bool (.sym x1), .bool (.sym x2), .bool (.sym x3), .bool (.sym x4), .bool (.sym x5), .bool (.sym x6), .bool (.sym x7)]] =
    (bif bif x0 == 0 then x0 == 0 else x0 == 1 then some (TV.one (SV.bool (SB.sym (x2 == (x0 == 1)))))
    else bif bif x0 == 2 then x0 == 2 else x0 == 3 then some (TV.one (SV.bool (SB.sym (x7 == (x0 == 3)))))
    else bif bif x0 == 4 then x0 == 4 else x0 == 5 then some (TV.one (SV.bool (SB.sym (x5 == (x0 == 5)))))
    else bif bif x0 == 6 then x0 == 6 else x0 == 7 then some (TV.one (SV.bool (SB.sym (x1 == (x0 == 7)))))
    else bif bif x0 == 8 then x0 == 8 else x0 == 9 then some (TV.one (SV.bool (SB.sym (x3 == (x0 == 9)))))
    else bif x0 == 10 then some (TV.one (SV.bool (SB.sym x6))) else some (TV.one (SV.bool (SB.sym (x0 == 11))))) := by kernel_rfl
theorem val7 (x0 : Int) (x1 x2 x3 x4 x5 x6 x7 : Bool) : eval Try.prog [] 7 [.one (.int .i64 (.sym x0)), .agg [.bool (.sym x1), .bool (.sym x2), .bool (.sym x3), .bool (.sym x4), .bool (.sym x5), .bool (.sym x6), .bool (.sym x7)]] =
    some (.one (.bool (.sym (hd x0 x1 x2 x3 x5 x6 x7)))) := by
  rw [nf7]
  simp only [push_bool]
  congr 4
  unfold hd
  by_cases h0 : x0 = 0
  · subst h0; cases x2 <;> rfl
  by_cases h1 : x0 = 1
  · subst h1; cases x2 <;> rfl
  by_cases h2 : x0 = 2
  · subst h2; cases x7 <;> rfl
  by_cases h3 : x0 = 3
  · subst h3; cases x7 <;> rfl
  by_cases h4 : x0 = 4
  · subst h4; cases x5 <;> rfl
  by_cases h5 : x0 = 5
  · subst h5; cases x5 <;> rfl
  by_cases h6 : x0 = 6
  · subst h6; cases x1 <;> rfl
  by_cases h7 : x0 = 7
  · subst h7; cases x1 <;> rfl
  by_cases h8 : x0 = 8
  · subst h8; cases x3 <;> rfl
  by_cases h9 : x0 = 9
  · subst h9; cases x3 <;> rfl
  have b : ∀ k : Int, x0 ≠ k → (x0 == k) = false := fun k hk => by simpa using hk
  simp only [b 0 h0, b 1 h1, b 2 h2, b 3 h3, b 4 h4, b 5 h5, b 6 h6, b 7 h7, b 8 h8, b 9 h9, cond_false]

def FH : List TV → Option TV
  | [.one (.int .i64 (.sym x0)), .agg [.bool (.sym x1), .bool (.sym x2), .bool (.sym x3), .bool (.sym _), .bool (.sym x5), .bool (.sym x6), .bool (.sym x7)]] => some (.one (.bool (.sym (hd x0 x1 x2 x3 x5 x6 x7))))
  | _ => none
def FK : List TV → Option TV
  | [] => some (.one (.bool (.lit true)))
  | _ => none
def G : List (Nat × Sx.Spec) := [(7, specF FH), (8, specF FH), (9, specF FK)]

theorem knownv : eval Try.prog [] 9 [] = some (.one (.bool (.lit true))) := by kernel_rfl

theorem gok (W : World) : GOk W Try.prog G := by
  refine gok_cons (specF_ok (G := []) (gok_nil W) ⟨Try.f7, Try.func7, by kernel_rfl, by kernel_rfl⟩ ?_) (gok_cons (specF_ok (G := []) (gok_nil W) ⟨Try.f8, Try.func8, by kernel_rfl, by kernel_rfl⟩ ?_) (gok_cons (specF_ok (G := []) (gok_nil W) ⟨Try.f9, Try.func9, by kernel_rfl, by kernel_rfl⟩ ?_) (gok_nil W)))
  · intro args v h
    unfold FH at h
    split at h
    · simp only [Option.some.injEq] at h
      subst h
      exact ⟨rfl, rfl, by simp, _, val7 _ _ _ _ _ _ _ _, fun _ => rfl⟩
    · cases h
  · intro args v h
    unfold FH at h
    split at h
    · simp only [Option.some.injEq] at h
      subst h
      exact ⟨rfl, rfl, by simp, _, val8 _ _ _ _ _ _ _ _, fun _ => rfl⟩
    · cases h
  · intro args v h
    unfold FK at h
    split at h
    · simp only [Option.some.injEq] at h
      subst h
      exact ⟨rfl, rfl, by simp, _, knownv, fun _ => rfl⟩
    · cases h
end Go.Proofs.Ytmpfdmgmacfocaa.cnd
