/- The numbers of a list: bytes and words. -/
import Derived.Test.YtdmpagiankblpaaMakeA
namespace Go.Proofs.Ytdmpagiankblpaa.mk
open Go Go.Sx
set_option maxRecDepth 100000

noncomputable def byR (W : World) (a : Option Addr) (n c : Nat) (x : Int) : Option (SB × TV × SI) := nVal 45 a n c (.sym x) (nRun Try.prog W (GF W) 45 29 a n c (.sym x) [])
noncomputable def bv (W : World) (a : Option Addr) (n c : Nat) (x : Int) : Int := vI (byR W a n c x) 0
/-- One of the indices from i to i + n. -/
def ixC (m : Int) : Nat → Int → Bool
  | 0, i => decide (m = i)
  | n + 1, i => bif decide (m = i) then true else ixC m n (i + 1)
theorem ixC_true {m : Int} : ∀ {n : Nat} {i : Int}, i ≤ m → m ≤ i + n → ixC m n i = true
  | 0, i, h0, h1 => decide_eq_true (by omega)
  | n + 1, i, h0, h1 => by
    unfold ixC
    by_cases h : m = i
    · rw [decide_eq_true h]; rfl
    · rw [decide_eq_false h, cond_false]
      exact ixC_true (by omega) (by omega)
theorem byv (W : World) (a : Option Addr) (n c : Nat) (x : Int) : byR W a n c x =
    some (.sym (bif decide (nxt W a n x 512 ≥ 256) then (okRow W a n c && inB 0 x) && ixC ((nxt W a n x 512).tmod 16) 15 0 else okRow W a n c && inB 0 x),
      .one (.int .u8 (.sym (bv W a n c x))), .sym (bif decide (nxt W a n x 512 ≥ 256) then gadd .i64 x 1 else gadd .i64 x 1)) := by kernel_rfl
noncomputable def FByte (W : World) (a : Option Addr) (n c : Nat) (x : SI) : List TV → Option (SB × TV × SI)
  | [] => some (cond0 0 W a n c x, .one (.int .u8 (.sym (bv W a n c x.val))), SI.map2 (gadd .i64) x (.lit 1))
  | _ => none
theorem byte_ok (W : World) : SpecOk W Try.prog 29 (specN 45 (FByte W)) := by
  refine specN_ok (G := GF W) (gokF W) ⟨Try.f29, Try.func29, by kernel_rfl, by kernel_rfl⟩ fun a n c x rest vc v y hF hvc => ?_
  unfold FByte at hF
  split at hF <;> try contradiction
  simp only [Option.some.injEq, Prod.mk.injEq] at hF
  obtain ⟨rfl, rfl, rfl⟩ := hF
  refine ⟨rfl, rfl, by simp, .sym x.val, [], _, _, _, rfl, rfl, rfl, byv W a n c x.val, ?_, ?_, fun f => rfl⟩
  · have h := nxt_range W a n x.val (k := 512) (by decide) (by decide)
    have h2 : ixC ((nxt W a n x.val 512).tmod 16) 15 0 = true := by
      rw [Int.tmod_eq_emod_of_nonneg h.1]
      exact ixC_true (by omega) (by omega)
    show (bif decide (nxt W a n x.val 512 ≥ 256) then _ else _) = true
    rw [h2, cond0_sym hvc]
    simp only [Bool.and_self, Bool.cond_self]
  · show (bif decide (nxt W a n x.val 512 ≥ 256) then gadd .i64 x.val 1 else gadd .i64 x.val 1) = _
    rw [Bool.cond_self, SI.map2_val]
    rfl
/-- A byte is one of those named, or a number below 256. -/
theorem bv_range (W : World) (a : Option Addr) (n c : Nat) (x : Int) : 0 ≤ bv W a n c x ∧ bv W a n c x ≤ 255 := by
  have e : bv W a n c x = bif decide (nxt W a n x 512 ≥ 256) then vI (byR W a n c x) 0 else vI (byR W a n c x) 0 := by rw [Bool.cond_self]; rfl
  have e2 : bv W a n c x = bif decide (nxt W a n x 512 ≥ 256) then
      bif decide ((nxt W a n x 512).tmod 16 = 0) then 0 else bif decide ((nxt W a n x 512).tmod 16 = 1) then 1 else bif decide ((nxt W a n x 512).tmod 16 = 2) then 127 else bif decide ((nxt W a n x 512).tmod 16 = 3) then 128
      else bif decide ((nxt W a n x 512).tmod 16 = 4) then 255 else bif decide ((nxt W a n x 512).tmod 16 = 5) then 15 else bif decide ((nxt W a n x 512).tmod 16 = 6) then 16 else bif decide ((nxt W a n x 512).tmod 16 = 7) then 153
      else bif decide ((nxt W a n x 512).tmod 16 = 8) then 154 else bif decide ((nxt W a n x 512).tmod 16 = 9) then 9 else bif decide ((nxt W a n x 512).tmod 16 = 10) then 102 else bif decide ((nxt W a n x 512).tmod 16 = 11) then 254
      else bif decide ((nxt W a n x 512).tmod 16 = 12) then 129 else bif decide ((nxt W a n x 512).tmod 16 = 13) then 85 else bif decide ((nxt W a n x 512).tmod 16 = 14) then 170 else 64
    else IntKind.u8.wrap (nxt W a n x 512) := by kernel_rfl
  rw [e2]
  generalize nxt W a n x 512 = m
  have hc : ∀ (b : Bool) (u v : Int), (0 ≤ u ∧ u ≤ 255) → (0 ≤ v ∧ v ≤ 255) → 0 ≤ (bif b then u else v) ∧ (bif b then u else v) ≤ 255 := by
    intro b u v hu hv
    cases b
    · exact hv
    · exact hu
  refine hc _ _ _ ?_ (by rw [IntKind.wrap_u8]; omega)
  repeat' refine hc _ _ _ (by decide) ?_
  decide

noncomputable def woR (W : World) (a : Option Addr) (n c : Nat) (x : Int) : Option (SB × TV × SI) := nVal 45 a n c (.sym x) (nRun Try.prog W (GF W) 45 31 a n c (.sym x) [])
noncomputable def wv (W : World) (a : Option Addr) (n c : Nat) (x : Int) : Int := vI (woR W a n c x) 0
def ixW (m : Int) (q : Bool) : Nat → Int → Bool
  | 0, i => q && decide (m = i)
  | n + 1, i => bif decide (m = i) then q else ixW m q n (i + 1)
theorem ixW_true {m : Int} : ∀ {n : Nat} {i : Int}, i ≤ m → m ≤ i + n → ixW m true n i = true
  | 0, i, h0, h1 => decide_eq_true (by omega)
  | n + 1, i, h0, h1 => by
    unfold ixW
    by_cases h : m = i
    · rw [decide_eq_true h]; rfl
    · rw [decide_eq_false h, cond_false]
      exact ixW_true (by omega) (by omega)
def ixY (m z : Int) : Nat → Int → Int
  | 0, _ => z
  | n + 1, i => bif decide (m = i) then z else ixY m z n (i + 1)
theorem ixY_eq (m z : Int) : ∀ (n : Nat) (i : Int), ixY m z n i = z
  | 0, _ => rfl
  | n + 1, i => by unfold ixY; rw [ixY_eq m z n, Bool.cond_self]
theorem wov (W : World) (a : Option Addr) (n c : Nat) (x : Int) : woR W a n c x =
    some (.sym (bif nxt W a n x 5 == 0 then (okRow W a n c && inB 0 x) && ixW (nxt W a n (gadd .i64 x 1) 8) (okRow W a n c && inB 0 (gadd .i64 x 1)) 7 0
        else bif nxt W a n x 5 == 1 then (okRow W a n c && inB 0 x) && (okRow W a n c && inB 0 (gadd .i64 x 1)) else (okRow W a n c && inB 0 x) && (okRow W a n c && inB 0 (gadd .i64 x 1))),
      .one (.int .u16 (.sym (wv W a n c x))), .sym (bif nxt W a n x 5 == 0 then ixY (nxt W a n (gadd .i64 x 1) 8) (gadd .i64 (gadd .i64 x 1) 1) 7 0
        else bif nxt W a n x 5 == 1 then gadd .i64 (gadd .i64 x 1) 1 else gadd .i64 (gadd .i64 x 1) 1)) := by kernel_rfl
noncomputable def FWord (W : World) (a : Option Addr) (n c : Nat) (x : SI) : List TV → Option (SB × TV × SI)
  | [] => some (cond0 1 W a n c x, .one (.int .u16 (.sym (wv W a n c x.val))), SI.map2 (gadd .i64) (SI.map2 (gadd .i64) x (.lit 1)) (.lit 1))
  | _ => none
theorem word_ok (W : World) : SpecOk W Try.prog 31 (specN 45 (FWord W)) := by
  refine specN_ok (G := GF W) (gokF W) ⟨Try.f31, Try.func31, by kernel_rfl, by kernel_rfl⟩ fun a n c x rest vc v y hF hvc => ?_
  unfold FWord at hF
  split at hF <;> try contradiction
  simp only [Option.some.injEq, Prod.mk.injEq] at hF
  obtain ⟨rfl, rfl, rfl⟩ := hF
  refine ⟨rfl, rfl, by simp, .sym x.val, [], _, _, _, rfl, rfl, rfl, wov W a n c x.val, ?_, ?_, fun f => rfl⟩
  · obtain ⟨hr, hb⟩ := cond0_val hvc
    have hb2 := inB_succ (m := 0) hb (by decide)
    have hb0 : inB 0 x.val = true := inB_mk (by have := inB_of hb; omega)
    have h := nxt_range W a n (gadd .i64 x.val 1) (k := 8) (by decide) (by decide)
    show (bif nxt W a n x.val 5 == 0 then _ else _) = true
    rw [okRow_of hr, hb2, hb0, Bool.and_self, ixW_true (by omega) (by omega)]
    simp only [Bool.and_self, Bool.cond_self]
  · show (bif nxt W a n x.val 5 == 0 then _ else _) = _
    rw [ixY_eq, Bool.cond_self, Bool.cond_self, SI.map2_val, SI.map2_val]
    rfl
noncomputable def GB (W : World) : List (Nat × Sx.Spec) := (29, specN 45 (FByte W)) :: (31, specN 45 (FWord W)) :: GF W
theorem gokB (W : World) : GOk W Try.prog (GB W) := gok_cons (byte_ok W) (gok_cons (word_ok W) (gokF W))
end Go.Proofs.Ytdmpagiankblpaa.mk
