/- The numbers of a list: opcodes and inputs. -/
import Derived.Test.YtdfplmkaaodblaaMakeA
namespace Go.Proofs.Ytdfplmkaaodblaa.mk
open Go Go.Sx
set_option maxRecDepth 100000
/-- One of the indices from i to i + n, the same behind each. -/
def ixV (m : Int) (y : Int) : Nat → Int → Int
  | 0, _ => y
  | n + 1, i => bif decide (m = i) then y else ixV m y n (i + 1)
def ixW (m : Int) (y : Bool) : Nat → Int → Bool
  | 0, i => y && decide (m = i)
  | n + 1, i => bif decide (m = i) then y else ixW m y n (i + 1)
theorem ixV_eq {m y : Int} : ∀ {n : Nat} {i : Int}, ixV m y n i = y
  | 0, _ => rfl
  | n + 1, i => by rw [ixV, ixV_eq, Bool.cond_self]
theorem ixW_eq {m : Int} {y : Bool} : ∀ {n : Nat} {i : Int}, i ≤ m → m ≤ i + n → ixW m y n i = y
  | 0, i, h0, h1 => by rw [ixW, decide_eq_true (by omega), Bool.and_true]
  | n + 1, i, h0, h1 => by
    rw [ixW]
    by_cases h : m = i
    · rw [decide_eq_true h]; rfl
    · rw [decide_eq_false h, cond_false]
      exact ixW_eq (by omega) (by omega)
noncomputable def opR (W : World) (a : Option Addr) (n c : Nat) (x : Int) : Option (SB × TV × SI) := nVal 46 a n c (.sym x) (nRun Try.prog W (GF W) 46 29 a n c (.sym x) [])
noncomputable def ov (W : World) (a : Option Addr) (n c : Nat) (x : Int) : Int := vI (opR W a n c x) 0
noncomputable def K0 (W : World) (a : Option Addr) (n c : Nat) (x : Int) : Bool := okRow W a n c && inB 0 x
theorem opv (W : World) (a : Option Addr) (n c : Nat) (x : Int) : opR W a n c x =
    some (.sym (bif decide (nxt W a n x 3 > 0) then K0 W a n c x && K0 W a n c (gadd .i64 x 1) else K0 W a n c x && ixW (nxt W a n (gadd .i64 x 1) 18) (K0 W a n c (gadd .i64 x 1)) 17 0),
      .one (.int .u8 (.sym (ov W a n c x))), .sym (bif decide (nxt W a n x 3 > 0) then gadd .i64 (gadd .i64 x 1) 1 else ixV (nxt W a n (gadd .i64 x 1) 18) (gadd .i64 (gadd .i64 x 1) 1) 17 0)) := by kernel_rfl
theorem inB_le {m k x : Int} (h : inB m x = true) (hk : k ≤ m) : inB k x = true := by
  have := inB_of h
  exact inB_mk (by omega)
noncomputable def FOpc (W : World) (a : Option Addr) (n c : Nat) (x : SI) : List TV → Option (SB × TV × SI)
  | [] => some (cond0 1 W a n c x, .one (.int .u8 (.sym (ov W a n c x.val))), .sym (gadd .i64 (gadd .i64 x.val 1) 1))
  | _ => none
theorem opc_ok (W : World) : SpecOk W Try.prog 29 (specN 46 (FOpc W)) := by
  refine specN_ok (G := GF W) (gokF W) ⟨Try.f29, Try.func29, by kernel_rfl, by kernel_rfl⟩ fun a n c x rest vc v y hF hvc => ?_
  unfold FOpc at hF
  split at hF <;> try contradiction
  simp only [Option.some.injEq, Prod.mk.injEq] at hF
  obtain ⟨rfl, rfl, rfl⟩ := hF
  obtain ⟨hr, h0⟩ := cond0_val hvc
  have k0 : K0 W a n c x.val = true := by unfold K0; rw [okRow_of hr, inB_le h0 (by decide)]; rfl
  have k1 : K0 W a n c (gadd .i64 x.val 1) = true := by unfold K0; rw [okRow_of hr, inB_succ h0 (by decide)]; rfl
  refine ⟨rfl, rfl, by simp, .sym x.val, [], _, _, _, rfl, rfl, rfl, opv W a n c x.val, ?_, ?_, fun f => rfl⟩
  · have h := nxt_range W a n (gadd .i64 x.val 1) (k := 18) (by decide) (by decide)
    show (bif decide (nxt W a n x.val 3 > 0) then _ else _) = true
    rw [ixW_eq h.1 (by omega), k0, k1]
    simp only [Bool.and_self, Bool.cond_self]
  · show (bif decide (nxt W a n x.val 3 > 0) then _ else _) = _
    rw [ixV_eq, Bool.cond_self]
    rfl
noncomputable def GO (W : World) : List (Nat × Sx.Spec) := (29, specN 46 (FOpc W)) :: GF W
theorem gokO (W : World) : GOk W Try.prog (GO W) := gok_cons (opc_ok W) (gokF W)
def X (x : Int) : Nat → Int
  | 0 => x
  | k + 1 => gadd .i64 (X x k) 1
theorem X_eq {m x : Int} : ∀ k : Nat, inB m x = true → (k : Int) ≤ m → X x k = x + k
  | 0, _, _ => by simp [X]
  | k + 1, h, hk => by
    have := inB_of h
    rw [X, X_eq k h (by omega)]
    unfold gadd
    rw [IntKind.wrap_i64]
    omega
def sw (m : Int) {α : Type} (t e46 e60 e99 : α) : α := bif decide (m < 30) then t else bif decide (m < 36) then t else bif decide (m < 40) then t else bif decide (m < 46) then e46 else bif decide (m < 50) then t else bif decide (m < 53) then t else bif decide (m < 55) then t else bif decide (m = 55) then t else bif decide (m < 60) then e60 else e99
theorem sw_all {m : Int} {α : Type} {p : α → Prop} {t e46 e60 e99 : α} (h1 : p t) (h2 : p e46) (h3 : p e60) (h4 : p e99) : p (sw m t e46 e60 e99) := by
  have hc : ∀ (b : Bool) (u v : α), p u → p v → p (bif b then u else v) := by
    intro b u v hu hv
    cases b
    · exact hv
    · exact hu
  exact hc _ _ _ h1 (hc _ _ _ h1 (hc _ _ _ h1 (hc _ _ _ h2 (hc _ _ _ h1 (hc _ _ _ h1 (hc _ _ _ h1 (hc _ _ _ h1 (hc _ _ _ h3 h4))))))))
noncomputable def inR (W : World) (a : Option Addr) (n c : Nat) (x : Int) : Option (SB × TV × SI) := nVal 46 a n c (.sym x) (nRun Try.prog W (GO W) 46 27 a n c (.sym x) [])
noncomputable def iB (W : World) (a : Option Addr) (n c : Nat) (x : Int) (i : Nat) : Bool := vB (inR W a n c x) i
noncomputable def iI (W : World) (a : Option Addr) (n c : Nat) (x : Int) (i : Nat) : Int := vI (inR W a n c x) i
noncomputable def iN (W : World) (a : Option Addr) (n : Nat) (x : Int) : Int := sw (nxt W a n x 64) (X x 1) (X x 2) (X x 3) (X x 8)
noncomputable def iL (W : World) (a : Option Addr) (n c : Nat) (x : Int) : List SV := [.bool (.sym (iB W a n c x 0)), .bool (.sym (iB W a n c x 1)), .bool (.sym (iB W a n c x 2)), .bool (.sym (iB W a n c x 3)), .bool (.sym (iB W a n c x 4)), .bool (.sym (iB W a n c x 5)), .bool (.sym (iB W a n c x 6)), .bool (.sym (iB W a n c x 7)), .int .u8 (.sym (iI W a n c x 8)), .int .u8 (.sym (iI W a n c x 9))]
theorem inv (W : World) (a : Option Addr) (n c : Nat) (x : Int) : inR W a n c x =
    some (.sym (K0 W a n c x && sw (nxt W a n x 64) true (K0 W a n c (X x 1)) (okRow W a n c && inB 1 (X x 1)) (K0 W a n c (X x 1) && (K0 W a n c (X x 2) && (K0 W a n c (X x 3) && (K0 W a n c (X x 4) && (K0 W a n c (X x 5) && (K0 W a n c (X x 6) && K0 W a n c (X x 7)))))))),
      .agg (iL W a n c x), .sym (iN W a n x)) := by kernel_rfl
theorem iN_in {W : World} {a : Option Addr} {n : Nat} {x : Int} (h : inB 8 x = true) : x ≤ iN W a n x ∧ iN W a n x ≤ x + 8 := by
  unfold iN
  rw [X_eq 1 h (by decide), X_eq 2 h (by decide), X_eq 3 h (by decide), X_eq 8 h (by decide)]
  refine sw_all (p := fun z => x ≤ z ∧ z ≤ x + 8) ?_ ?_ ?_ ?_ <;> constructor <;> omega
noncomputable def FIn (W : World) (a : Option Addr) (n c : Nat) (x : SI) : List TV → Option (SB × TV × SI)
  | [] => some (cond0 8 W a n c x, .agg (iL W a n c x.val), .sym (iN W a n x.val))
  | _ => none
theorem in_ok (W : World) : SpecOk W Try.prog 27 (specN 46 (FIn W)) := by
  refine specN_ok (G := GO W) (gokO W) ⟨Try.f27, Try.func27, by kernel_rfl, by kernel_rfl⟩ fun a n c x rest vc v y hF hvc => ?_
  unfold FIn at hF
  split at hF <;> try contradiction
  simp only [Option.some.injEq, Prod.mk.injEq] at hF
  obtain ⟨rfl, rfl, rfl⟩ := hF
  obtain ⟨hr, h0⟩ := cond0_val hvc
  have hi := inB_of h0
  have kk : ∀ k : Nat, (k : Int) ≤ 8 → K0 W a n c (X x.val k) = true := fun k hk => by
    unfold K0
    rw [okRow_of hr, X_eq k h0 hk, inB_mk (by omega)]
    rfl
  refine ⟨rfl, rfl, by simp [iL], .sym x.val, [], _, _, _, rfl, rfl, rfl, inv W a n c x.val, ?_, rfl, fun f => rfl⟩
  have k0 : K0 W a n c x.val = true := kk 0 (by decide)
  have k9 : (okRow W a n c && inB 1 (X x.val 1)) = true := by
    rw [okRow_of hr, X_eq 1 h0 (by decide), inB_mk (by omega)]
    rfl
  show (K0 W a n c x.val && _) = true
  rw [k0, kk 1 (by decide), kk 2 (by decide), kk 3 (by decide), kk 4 (by decide), kk 5 (by decide), kk 6 (by decide), kk 7 (by decide), k9]
  exact sw_all (p := fun b => b = true) rfl rfl rfl rfl
noncomputable def GI (W : World) : List (Nat × Sx.Spec) := (27, specN 46 (FIn W)) :: GO W
theorem gokI (W : World) : GOk W Try.prog (GI W) := gok_cons (in_ok W) (gokO W)
end Go.Proofs.Ytdfplmkaaodblaa.mk
