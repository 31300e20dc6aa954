/- The numbers of a list: the state of a processor. -/
import Derived.Test.YtdmpagiankblpaaMakeB
namespace Go.Proofs.Ytdmpagiankblpaa.mk
open Go Go.Sx
set_option maxRecDepth 100000

noncomputable def GC1 (W : World) : List (Nat × Sx.Spec) := (25, specN 45 (autoF Try.prog W (GB W) 45 25)) :: (30, specN 45 (autoF Try.prog W (GB W) 45 30)) :: GB W
theorem gokC1 (W : World) : GOk W Try.prog (GC1 W) :=
  gok_cons (auto_ok (gokB W) ⟨Try.f25, Try.func25, by kernel_rfl, by kernel_rfl⟩) (gok_cons (auto_ok (gokB W) ⟨Try.f30, Try.func30, by kernel_rfl, by kernel_rfl⟩) (gokB W))
noncomputable def GC2 (W : World) : List (Nat × Sx.Spec) := (26, specN 45 (autoF Try.prog W (GC1 W) 45 26)) :: GC1 W
theorem gokC2 (W : World) : GOk W Try.prog (GC2 W) := gok_cons (auto_ok (gokC1 W) ⟨Try.f26, Try.func26, by kernel_rfl, by kernel_rfl⟩) (gokC1 W)
noncomputable def cpR (W : World) (a : Option Addr) (n c : Nat) : Option (SB × TV × SI) := nVal 45 a n c (.lit 0) (nRun Try.prog W (GC2 W) 45 11 a n c (.lit 0) [])
noncomputable def cI (W : World) (a : Option Addr) (n c i : Nat) : Int := vI (cpR W a n c) i
noncomputable def cB (W : World) (a : Option Addr) (n c i : Nat) : Bool := vB (cpR W a n c) i
/-- The 8085. -/
def c85 (W : World) (a : Option Addr) (n : Nat) : Bool := gadd .i64 1 (nxt W a n 0 2) == 2
theorem cpv (W : World) (a : Option Addr) (n c : Nat) : cpR W a n c =
    some (.sym (okRow W a n c && (okRow W a n c && (okRow W a n c && (okRow W a n c && (okRow W a n c && (okRow W a n c && (okRow W a n c && okRow W a n c))))) && (okRow W a n c && (okRow W a n c && okRow W a n c)) && okRow W a n c &&
        (okRow W a n c && bif c85 W a n then okRow W a n c && (okRow W a n c && (okRow W a n c && (okRow W a n c && okRow W a n c)) && (okRow W a n c && (okRow W a n c && okRow W a n c))) else true))),
      .agg [.int .i64 (.sym (cI W a n c 0)), .int .u8 (.sym (cI W a n c 1)), .int .u8 (.sym (cI W a n c 2)), .int .u8 (.sym (cI W a n c 3)), .int .u8 (.sym (cI W a n c 4)), .int .u8 (.sym (cI W a n c 5)), .int .u8 (.sym (cI W a n c 6)), .int .u8 (.sym (cI W a n c 7)), .bool (.sym (cB W a n c 8)), .bool (.sym (cB W a n c 9)), .bool (.sym (cB W a n c 10)), .bool (.sym (cB W a n c 11)), .bool (.sym (cB W a n c 12)), .bool (.sym (cB W a n c 13)), .bool (.sym (cB W a n c 14)), .int .u16 (.sym (cI W a n c 15)), .int .u16 (.sym (cI W a n c 16)), .bool (.sym (cB W a n c 17)), .bool (.sym (cB W a n c 18)), .bool (.lit false), .int .u8 (.sym (cI W a n c 20)), .bool (.sym (cB W a n c 21)), .bool (.sym (cB W a n c 22)), .bool (.sym (cB W a n c 23)), .bool (.sym (cB W a n c 24)), .bool (.sym (cB W a n c 25)), .bool (.sym (cB W a n c 26)), .bool (.sym (cB W a n c 27))],
      .sym (bif c85 W a n then 23 else 15)) := by kernel_rfl
noncomputable def cpuTV (W : World) (a : Option Addr) (n c : Nat) : TV := .agg [.int .i64 (.sym (cI W a n c 0)), .int .u8 (.sym (cI W a n c 1)), .int .u8 (.sym (cI W a n c 2)), .int .u8 (.sym (cI W a n c 3)), .int .u8 (.sym (cI W a n c 4)), .int .u8 (.sym (cI W a n c 5)), .int .u8 (.sym (cI W a n c 6)), .int .u8 (.sym (cI W a n c 7)), .bool (.sym (cB W a n c 8)), .bool (.sym (cB W a n c 9)), .bool (.sym (cB W a n c 10)), .bool (.sym (cB W a n c 11)), .bool (.sym (cB W a n c 12)), .bool (.sym (cB W a n c 13)), .bool (.sym (cB W a n c 14)), .int .u16 (.sym (cI W a n c 15)), .int .u16 (.sym (cI W a n c 16)), .bool (.sym (cB W a n c 17)), .bool (.sym (cB W a n c 18)), .bool (.lit false), .int .u8 (.sym (cI W a n c 20)), .bool (.sym (cB W a n c 21)), .bool (.sym (cB W a n c 22)), .bool (.sym (cB W a n c 23)), .bool (.sym (cB W a n c 24)), .bool (.sym (cB W a n c 25)), .bool (.sym (cB W a n c 26)), .bool (.sym (cB W a n c 27))]
/-- How many numbers the state took. -/
def cN (W : World) (a : Option Addr) (n : Nat) : Int := bif c85 W a n then 23 else 15
theorem cN_in (W : World) (a : Option Addr) (n : Nat) {m : Int} (h0 : 0 ≤ m) (h1 : m ≤ 1000) : inB m (cN W a n) = true := by
  unfold cN
  cases c85 W a n
  · exact inB_mk (by simp only [cond_false]; omega)
  · exact inB_mk (by simp only [cond_true]; omega)
theorem chip_two (W : World) (a : Option Addr) (n c : Nat) : cI W a n c 0 = 1 ∨ cI W a n c 0 = 2 := by
  have e : cI W a n c 0 = gadd .i64 1 (nxt W a n 0 2) := by kernel_rfl
  have h := nxt_range W a n 0 (k := 2) (by decide) (by decide)
  rw [e]
  unfold gadd
  rw [IntKind.wrap_i64]
  omega
noncomputable def FCpu (W : World) (a : Option Addr) (n c : Nat) : SI → List TV → Option (SB × TV × SI)
  | .lit m, [] => match decide (m = 0) with
    | true => some (.sym (okRow W a n c), cpuTV W a n c, .sym (cN W a n))
    | false => none
  | _, _ => none
theorem cpu_ok (W : World) : SpecOk W Try.prog 11 (specN 45 (FCpu W)) := by
  refine specN_ok (G := GC2 W) (gokC2 W) ⟨Try.f11, Try.func11, by kernel_rfl, by kernel_rfl⟩ fun a n c x rest vc v y hF hvc => ?_
  unfold FCpu at hF
  split at hF <;> try contradiction
  rename_i m
  split at hF <;> try contradiction
  rename_i hm
  simp only [decide_eq_true_eq] at hm
  subst hm
  simp only [Option.some.injEq, Prod.mk.injEq] at hF
  obtain ⟨rfl, rfl, rfl⟩ := hF
  have hr : okRow W a n c = true := hvc
  refine ⟨rfl, rfl, by simp [cpuTV], .lit 0, [], _, _, _, rfl, rfl, rfl, cpv W a n c, ?_, rfl, fun f => rfl⟩
  show (okRow W a n c && _) = true
  rw [hr]
  simp only [Bool.and_self, Bool.cond_self]
noncomputable def GC (W : World) : List (Nat × Sx.Spec) := (11, specN 45 (FCpu W)) :: GF W
theorem gokC (W : World) : GOk W Try.prog (GC W) := gok_cons (cpu_ok W) (gokF W)
end Go.Proofs.Ytdmpagiankblpaa.mk
