/- The numbers of a list: bytes. -/
import Derived.Test.YtndciaoiinhdnaaMakeA
namespace Go.Proofs.Ytndciaoiinhdnaa.mk
open Go Go.Sx
set_option maxRecDepth 100000

noncomputable def byR (W : World) (a : Option Addr) (n c : Nat) (x : Int) : Option (SB × TV × SI) := nVal 49 a n c (.sym x) (nRun Try.prog W (GF W) 49 32 a n c (.sym x) [])
noncomputable def bv (W : World) (a : Option Addr) (n c : Nat) (x : Int) : Int := vI (byR W a n c x) 0
/-- One of the indices from i to i + n. -/
def ixC (m : Int) : Nat → Int → Bool
  | 0, i => decide (m = i)
  | n + 1, i => bif decide (m = i) then true else ixC m n (i + 1)
theorem ixC_true {m : Int} : ∀ {n : Nat} {i : Int}, i ≤ m → m ≤ i + n → ixC m n i = true
  | 0, i, h0, h1 => decide_eq_true (by omega)
  | n + 1, i, h0, h1 => by
    unfold ixC
    by_cases h : m = i
    · rw [decide_eq_true h]; rfl
    · rw [decide_eq_false h, cond_false]
      exact ixC_true (by omega) (by omega)
theorem byv (W : World) (a : Option Addr) (n c : Nat) (x : Int) : byR W a n c x =
    some (.sym (bif decide (nxt W a n x 512 ≥ 256) then (okRow W a n c && inB 0 x) && ixC ((nxt W a n x 512).tmod 16) 15 0 else okRow W a n c && inB 0 x),
      .one (.int .u8 (.sym (bv W a n c x))), .sym (bif decide (nxt W a n x 512 ≥ 256) then gadd .i64 x 1 else gadd .i64 x 1)) := by kernel_rfl
noncomputable def FByte (W : World) (a : Option Addr) (n c : Nat) (x : SI) : List TV → Option (SB × TV × SI)
  | [] => some (cond0 0 W a n c x, .one (.int .u8 (.sym (bv W a n c x.val))), SI.map2 (gadd .i64) x (.lit 1))
  | _ => none
theorem byte_ok (W : World) : SpecOk W Try.prog 32 (specN 49 (FByte W)) := by
  refine specN_ok (G := GF W) (gokF W) ⟨Try.f32, Try.func32, by kernel_rfl, by kernel_rfl⟩ fun a n c x rest vc v y hF hvc => ?_
  unfold FByte at hF
  split at hF <;> try contradiction
  simp only [Option.some.injEq, Prod.mk.injEq] at hF
  obtain ⟨rfl, rfl, rfl⟩ := hF
  refine ⟨rfl, rfl, by simp, .sym x.val, [], _, _, _, rfl, rfl, rfl, byv W a n c x.val, ?_, ?_, fun f => rfl⟩
  · have h := nxt_range W a n x.val (k := 512) (by decide) (by decide)
    have h2 : ixC ((nxt W a n x.val 512).tmod 16) 15 0 = true := by
      rw [Int.tmod_eq_emod_of_nonneg h.1]
      exact ixC_true (by omega) (by omega)
    show (bif decide (nxt W a n x.val 512 ≥ 256) then _ else _) = true
    rw [h2, cond0_sym hvc]
    simp only [Bool.and_self, Bool.cond_self]
  · show (bif decide (nxt W a n x.val 512 ≥ 256) then gadd .i64 x.val 1 else gadd .i64 x.val 1) = _
    rw [Bool.cond_self, SI.map2_val]
    rfl
/-- A byte is one of those named, or a number below 256. -/
theorem bv_range (W : World) (a : Option Addr) (n c : Nat) (x : Int) : 0 ≤ bv W a n c x ∧ bv W a n c x ≤ 255 := by
  have e : bv W a n c x = bif decide (nxt W a n x 512 ≥ 256) then vI (byR W a n c x) 0 else vI (byR W a n c x) 0 := by rw [Bool.cond_self]; rfl
  have e2 : bv W a n c x = bif decide (nxt W a n x 512 ≥ 256) then
      bif decide ((nxt W a n x 512).tmod 16 = 0) then 0 else bif decide ((nxt W a n x 512).tmod 16 = 1) then 1 else bif decide ((nxt W a n x 512).tmod 16 = 2) then 127 else bif decide ((nxt W a n x 512).tmod 16 = 3) then 128
      else bif decide ((nxt W a n x 512).tmod 16 = 4) then 255 else bif decide ((nxt W a n x 512).tmod 16 = 5) then 15 else bif decide ((nxt W a n x 512).tmod 16 = 6) then 16 else bif decide ((nxt W a n x 512).tmod 16 = 7) then 153
      else bif decide ((nxt W a n x 512).tmod 16 = 8) then 154 else bif decide ((nxt W a n x 512).tmod 16 = 9) then 9 else bif decide ((nxt W a n x 512).tmod 16 = 10) then 102 else bif decide ((nxt W a n x 512).tmod 16 = 11) then 254
      else bif decide ((nxt W a n x 512).tmod 16 = 12) then 129 else bif decide ((nxt W a n x 512).tmod 16 = 13) then 85 else bif decide ((nxt W a n x 512).tmod 16 = 14) then 170 else 64
    else IntKind.u8.wrap (nxt W a n x 512) := by kernel_rfl
  rw [e2]
  generalize nxt W a n x 512 = m
  have hc : ∀ (b : Bool) (u v : Int), (0 ≤ u ∧ u ≤ 255) → (0 ≤ v ∧ v ≤ 255) → 0 ≤ (bif b then u else v) ∧ (bif b then u else v) ≤ 255 := by
    intro b u v hu hv
    cases b
    · exact hv
    · exact hu
  refine hc _ _ _ ?_ (by rw [IntKind.wrap_u8]; omega)
  repeat' refine hc _ _ _ (by decide) ?_
  decide

noncomputable def GB (W : World) : List (Nat × Sx.Spec) := (32, specN 49 (FByte W)) :: GF W
theorem gokB (W : World) : GOk W Try.prog (GB W) := gok_cons (byte_ok W) (gokF W)
end Go.Proofs.Ytndciaoiinhdnaa.mk
