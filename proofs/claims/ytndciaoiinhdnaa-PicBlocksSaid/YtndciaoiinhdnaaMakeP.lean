/- The numbers of a list: the state of a controller. -/
import Derived.Test.YtndciaoiinhdnaaMakeY
namespace Go.Proofs.Ytndciaoiinhdnaa.mk
open Go Go.Sx
set_option maxRecDepth 100000
noncomputable def pcR (W : World) (a : Option Addr) (n c : Nat) : Option (SB × TV × SI) := nVal 49 a n c (.lit 0) (nRun Try.prog W (GB W) 49 11 a n c (.lit 0) [])
noncomputable def pI (W : World) (a : Option Addr) (n c i : Nat) : Int := vI (pcR W a n c) i
noncomputable def pB (W : World) (a : Option Addr) (n c i : Nat) : Bool := vB (pcR W a n c) i
def okN (r : Bool) : Nat → Bool
  | 0 => r
  | n + 1 => r && okN r n
theorem okN_true : ∀ n, okN true n = true
  | 0 => rfl
  | n + 1 => okN_true n
theorem pcv (W : World) (a : Option Addr) (n c : Nat) : pcR W a n c =
    some (.sym (bif decide (nxt W a n 0 6 = 0) then okN (okRow W a n c) 21 else bif decide (nxt W a n 0 6 = 1) then okN (okRow W a n c) 21 else bif decide (nxt W a n 0 6 = 2) then okN (okRow W a n c) 21 else bif decide (nxt W a n 0 6 = 3) then okN (okRow W a n c) 21 else bif decide (nxt W a n 0 6 = 4) then okN (okRow W a n c) 21 else (okRow W a n c && (decide (nxt W a n 0 6 = 5) && okN (okRow W a n c) 20))),
      .agg [.int .i64 (.sym (pI W a n c 0)), .bool (.sym (pB W a n c 1)), .bool (.sym (pB W a n c 2)), .bool (.sym (pB W a n c 3)), .bool (.sym (pB W a n c 4)), .int .u8 (.sym (pI W a n c 5)), .int .u8 (.sym (pI W a n c 6)), .bool (.sym (pB W a n c 7)), .bool (.sym (pB W a n c 8)), .bool (.sym (pB W a n c 9)), .bool (.sym (pB W a n c 10)), .bool (.sym (pB W a n c 11)), .int .u8 (.sym (pI W a n c 12)), .int .u8 (.sym (pI W a n c 13)), .int .u8 (.sym (pI W a n c 14)), .int .u8 (.sym (pI W a n c 15)), .int .i64 (.sym (pI W a n c 16)), .int .i64 (.sym (pI W a n c 17)), .int .i64 (.sym (pI W a n c 18)), .bool (.sym (pB W a n c 19))], .lit 22) := by kernel_rfl
noncomputable def picTV (W : World) (a : Option Addr) (n c : Nat) : TV := .agg [.int .i64 (.sym (pI W a n c 0)), .bool (.sym (pB W a n c 1)), .bool (.sym (pB W a n c 2)), .bool (.sym (pB W a n c 3)), .bool (.sym (pB W a n c 4)), .int .u8 (.sym (pI W a n c 5)), .int .u8 (.sym (pI W a n c 6)), .bool (.sym (pB W a n c 7)), .bool (.sym (pB W a n c 8)), .bool (.sym (pB W a n c 9)), .bool (.sym (pB W a n c 10)), .bool (.sym (pB W a n c 11)), .int .u8 (.sym (pI W a n c 12)), .int .u8 (.sym (pI W a n c 13)), .int .u8 (.sym (pI W a n c 14)), .int .u8 (.sym (pI W a n c 15)), .int .i64 (.sym (pI W a n c 16)), .int .i64 (.sym (pI W a n c 17)), .int .i64 (.sym (pI W a n c 18)), .bool (.sym (pB W a n c 19))]
theorem pick_six {α : Type} (m : Int) (v : α) : (bif decide (m = 0) then v else bif decide (m = 1) then v else bif decide (m = 2) then v else bif decide (m = 3) then v else bif decide (m = 4) then v else v) = v := by
  simp only [Bool.cond_self]
noncomputable def FPic (W : World) (a : Option Addr) (n c : Nat) : SI → List TV → Option (SB × TV × SI)
  | .lit m, [] => match decide (m = 0) with
    | true => some (.sym (okRow W a n c), picTV W a n c, .lit 22)
    | false => none
  | _, _ => none
theorem pic_ok (W : World) : SpecOk W Try.prog 11 (specN 49 (FPic W)) := by
  refine specN_ok (G := GB W) (gokB W) ⟨Try.f11, Try.func11, by kernel_rfl, by kernel_rfl⟩ fun a n c x rest vc v y hF hvc => ?_
  unfold FPic at hF
  split at hF <;> try contradiction
  rename_i m
  split at hF <;> try contradiction
  rename_i hm
  simp only [decide_eq_true_eq] at hm
  subst hm
  simp only [Option.some.injEq, Prod.mk.injEq] at hF
  obtain ⟨rfl, rfl, rfl⟩ := hF
  have hr : okRow W a n c = true := hvc
  refine ⟨rfl, rfl, by simp [picTV], .lit 0, [], _, _, _, rfl, rfl, rfl, pcv W a n c, ?_, rfl, fun f => rfl⟩
  have h6 := nxt_range W a n 0 (k := 6) (by decide) (by decide)
  show (bif decide (nxt W a n 0 6 = 0) then okN (okRow W a n c) 21 else bif decide (nxt W a n 0 6 = 1) then okN (okRow W a n c) 21 else bif decide (nxt W a n 0 6 = 2) then okN (okRow W a n c) 21 else bif decide (nxt W a n 0 6 = 3) then okN (okRow W a n c) 21 else bif decide (nxt W a n 0 6 = 4) then okN (okRow W a n c) 21 else (okRow W a n c && (decide (nxt W a n 0 6 = 5) && okN (okRow W a n c) 20))) = true
  rw [hr, okN_true, okN_true]
  generalize nxt W a n 0 6 = m at *
  have hm : m = 0 ∨ m = 1 ∨ m = 2 ∨ m = 3 ∨ m = 4 ∨ m = 5 := by omega
  rcases hm with rfl | rfl | rfl | rfl | rfl | rfl <;> rfl
theorem pI_byte (W : World) (a : Option Addr) (n c : Nat) : ∀ i, (i = 12 ∨ i = 13 ∨ i = 14 ∨ i = 15) → 0 ≤ pI W a n c i ∧ pI W a n c i ≤ 255 := by
  have hand : ∀ x y : Int, 0 ≤ bits .and .u8 x y ∧ bits .and .u8 x y ≤ 255 := by
    intro x y
    have e : bits .and .u8 x y = IntKind.u8.wrap (((BitVec.ofInt 8 x &&& BitVec.ofInt 8 y).toNat : Nat) : Int) := rfl
    rw [e, IntKind.wrap_u8]
    omega
  have hw : ∀ x : Int, 0 ≤ IntKind.u8.wrap x ∧ IntKind.u8.wrap x ≤ 255 := by
    intro x
    rw [IntKind.wrap_u8]
    omega
  intro i hi
  rcases hi with rfl | rfl | rfl | rfl
  · have e : pI W a n c 12 = bif decide (nxt W a n 0 6 = 0) then IntKind.u8.wrap (nxt W a n 12 256) else bif decide (nxt W a n 0 6 = 1) then IntKind.u8.wrap (nxt W a n 12 256) else bif decide (nxt W a n 0 6 = 2) then IntKind.u8.wrap (nxt W a n 12 256) else bif decide (nxt W a n 0 6 = 3) then IntKind.u8.wrap (nxt W a n 12 256) else bif decide (nxt W a n 0 6 = 4) then IntKind.u8.wrap (nxt W a n 12 256) else IntKind.u8.wrap (nxt W a n 12 256) := by kernel_rfl
    rw [e, pick_six]; exact hw _
  · have e : pI W a n c 13 = bif decide (nxt W a n 0 6 = 0) then IntKind.u8.wrap (nxt W a n 13 256) else bif decide (nxt W a n 0 6 = 1) then IntKind.u8.wrap (nxt W a n 13 256) else bif decide (nxt W a n 0 6 = 2) then IntKind.u8.wrap (nxt W a n 13 256) else bif decide (nxt W a n 0 6 = 3) then IntKind.u8.wrap (nxt W a n 13 256) else bif decide (nxt W a n 0 6 = 4) then IntKind.u8.wrap (nxt W a n 13 256) else IntKind.u8.wrap (nxt W a n 13 256) := by kernel_rfl
    rw [e, pick_six]; exact hw _
  · have e : pI W a n c 14 = bif decide (nxt W a n 0 6 = 0) then bits .and .u8 (IntKind.u8.wrap (nxt W a n 14 256)) (IntKind.u8.wrap (nxt W a n 15 256)) else bif decide (nxt W a n 0 6 = 1) then bits .and .u8 (IntKind.u8.wrap (nxt W a n 14 256)) (IntKind.u8.wrap (nxt W a n 15 256)) else bif decide (nxt W a n 0 6 = 2) then bits .and .u8 (IntKind.u8.wrap (nxt W a n 14 256)) (IntKind.u8.wrap (nxt W a n 15 256)) else bif decide (nxt W a n 0 6 = 3) then bits .and .u8 (IntKind.u8.wrap (nxt W a n 14 256)) (IntKind.u8.wrap (nxt W a n 15 256)) else bif decide (nxt W a n 0 6 = 4) then bits .and .u8 (IntKind.u8.wrap (nxt W a n 14 256)) (IntKind.u8.wrap (nxt W a n 15 256)) else bits .and .u8 (IntKind.u8.wrap (nxt W a n 14 256)) (IntKind.u8.wrap (nxt W a n 15 256)) := by kernel_rfl
    rw [e, pick_six]; exact hand _ _
  · have e : pI W a n c 15 = bif decide (nxt W a n 0 6 = 0) then bits .and .u8 (IntKind.u8.wrap (nxt W a n 16 256)) (IntKind.u8.wrap (nxt W a n 17 256)) else bif decide (nxt W a n 0 6 = 1) then bits .and .u8 (IntKind.u8.wrap (nxt W a n 16 256)) (IntKind.u8.wrap (nxt W a n 17 256)) else bif decide (nxt W a n 0 6 = 2) then bits .and .u8 (IntKind.u8.wrap (nxt W a n 16 256)) (IntKind.u8.wrap (nxt W a n 17 256)) else bif decide (nxt W a n 0 6 = 3) then bits .and .u8 (IntKind.u8.wrap (nxt W a n 16 256)) (IntKind.u8.wrap (nxt W a n 17 256)) else bif decide (nxt W a n 0 6 = 4) then bits .and .u8 (IntKind.u8.wrap (nxt W a n 16 256)) (IntKind.u8.wrap (nxt W a n 17 256)) else bits .and .u8 (IntKind.u8.wrap (nxt W a n 16 256)) (IntKind.u8.wrap (nxt W a n 17 256)) := by kernel_rfl
    rw [e, pick_six]; exact hand _ _
theorem pI_low (W : World) (a : Option Addr) (n c : Nat) : 0 ≤ pI W a n c 5 ∧ pI W a n c 5 ≤ 255 := by
  have e : pI W a n c 5 = bif decide (nxt W a n 0 6 = 0) then bits .and .u8 (bv W a n c 5) 224 else bif decide (nxt W a n 0 6 = 1) then bits .and .u8 (bv W a n c 5) 224 else bif decide (nxt W a n 0 6 = 2) then bits .and .u8 (bv W a n c 5) 224 else bif decide (nxt W a n 0 6 = 3) then bits .and .u8 (bv W a n c 5) 224 else bif decide (nxt W a n 0 6 = 4) then bits .and .u8 (bv W a n c 5) 224 else bits .and .u8 (bv W a n c 5) 224 := by kernel_rfl
  rw [e, pick_six]
  have e2 : bits .and .u8 (bv W a n c 5) 224 = IntKind.u8.wrap (((BitVec.ofInt 8 (bv W a n c 5) &&& BitVec.ofInt 8 224).toNat : Nat) : Int) := rfl
  rw [e2, IntKind.wrap_u8]
  omega
theorem pI_high (W : World) (a : Option Addr) (n c : Nat) : 0 ≤ pI W a n c 6 ∧ pI W a n c 6 ≤ 255 := by
  have e : pI W a n c 6 = bif decide (nxt W a n 0 6 = 0) then bv W a n c 6 else bif decide (nxt W a n 0 6 = 1) then bv W a n c 6 else bif decide (nxt W a n 0 6 = 2) then bv W a n c 6 else bif decide (nxt W a n 0 6 = 3) then bv W a n c 6 else bif decide (nxt W a n 0 6 = 4) then bv W a n c 6 else bv W a n c 6 := by kernel_rfl
  rw [e, pick_six]
  exact bv_range W a n c 6
theorem pI_lowest (W : World) (a : Option Addr) (n c : Nat) : 0 ≤ pI W a n c 16 ∧ pI W a n c 16 ≤ 7 := by
  have e : pI W a n c 16 = bif decide (nxt W a n 0 6 = 0) then nxt W a n 18 8 else bif decide (nxt W a n 0 6 = 1) then nxt W a n 18 8 else bif decide (nxt W a n 0 6 = 2) then nxt W a n 18 8 else bif decide (nxt W a n 0 6 = 3) then nxt W a n 18 8 else bif decide (nxt W a n 0 6 = 4) then nxt W a n 18 8 else nxt W a n 18 8 := by kernel_rfl
  rw [e, pick_six]
  have := nxt_range W a n 18 (k := 8) (by decide) (by decide)
  omega
noncomputable def GC (W : World) : List (Nat × Sx.Spec) := (11, specN 49 (FPic W)) :: GF W
theorem gokC (W : World) : GOk W Try.prog (GC W) := gok_cons (pic_ok W) (gokF W)
end Go.Proofs.Ytndciaoiinhdnaa.mk
