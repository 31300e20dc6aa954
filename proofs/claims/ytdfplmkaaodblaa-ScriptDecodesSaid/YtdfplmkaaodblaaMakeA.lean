/- The numbers of a list, one behind the other: the contracts of Next, Flag and Place. -/
import Derived.Test.YtdfplmkaaodblaaRows
import Derived.Test.YtdfplmkaaodblaaNmb
import Derived.Test.YtdfplmkaaodblaaNum
namespace Go.Proofs.Ytdfplmkaaodblaa.mk
open Go Go.Sx
set_option maxRecDepth 100000

open Classical in
noncomputable def okRow (W : World) (a : Option Addr) (n c : Nat) : Bool := decide (RowOk W .i64 a n c)
theorem okRow_ok {W : World} {a : Option Addr} {n c : Nat} (h : okRow W a n c = true) : RowOk W .i64 a n c := by
  unfold okRow at h
  exact @of_decide_eq_true _ (Classical.propDecidable _) h
theorem okRow_of {W : World} {a : Option Addr} {n c : Nat} (h : RowOk W .i64 a n c) : okRow W a n c = true := by
  unfold okRow
  exact @decide_eq_true _ (Classical.propDecidable _) h

/-- 'int(uint(x) % uint(n))' -/
def plc (x k : Int) : Int := IntKind.i64.wrap ((IntKind.u64.wrap x).tmod (IntKind.u64.wrap k))
theorem plc_range {k : Int} (x : Int) (h0 : 0 < k) (h1 : k ≤ 9223372036854775807) : 0 ≤ plc x k ∧ plc x k < k := place_range x k h0 h1
def FPlc : List TV → Option (SB × TV)
  | [.one (.int .i64 x), .one (.int .i64 k)] => some (SI.cmp (fun k _ => decide (0 < k) && decide (k ≤ 9223372036854775807)) k (.lit 0), .one (.int .i64 (.sym (plc x.val k.val))))
  | _ => none
theorem plcv (W : World) (x k : Int) : eval Try.prog W [] 22 [.one (.int .i64 (.sym x)), .one (.int .i64 (.sym k))] =
    bif (!decide (IntKind.u64.wrap k = 0)) then some (.one (.int .i64 (.sym (plc x k)))) else none := by kernel_rfl
theorem u64_pos {k : Int} (h0 : 0 < k) (h1 : k ≤ 9223372036854775807) : IntKind.u64.wrap k = k := by
  have : IntKind.u64.wrap k = k % 18446744073709551616 := by simp [IntKind.wrap, IntKind.bits, IntKind.signed]
  rw [this]
  omega
theorem cmp0_val (p : Int → Bool) (k : SI) : (SI.cmp (fun k _ => p k) k (.lit 0)).val = p k.val := by cases k <;> rfl

/-- The next number, from 0 to k - 1. -/
def nxt (W : World) (a : Option Addr) (n : Nat) (x k : Int) : Int := bif decide (x ≥ (n : Int)) then 0 else plc (rdInt W (atRow a x 1)) k
theorem nxt_range (W : World) (a : Option Addr) (n : Nat) (x : Int) {k : Int} (h0 : 0 < k) (h1 : k ≤ 9223372036854775807) : 0 ≤ nxt W a n x k ∧ nxt W a n x k < k := by
  unfold nxt
  cases decide (x ≥ (n : Int))
  · exact plc_range _ h0 h1
  · exact ⟨Int.le_refl _, h0⟩
/-- A number in its bounds: 'm' more numbers may be taken. -/
def inB (m x : Int) : Bool := decide (0 ≤ x) && decide (x ≤ 4611686018427387904 - m)
theorem inB_of {m x : Int} (h : inB m x = true) : 0 ≤ x ∧ x ≤ 4611686018427387904 - m := by
  unfold inB at h
  rw [Bool.and_eq_true, decide_eq_true_eq, decide_eq_true_eq] at h
  exact h
theorem inB_mk {m x : Int} (h : 0 ≤ x ∧ x ≤ 4611686018427387904 - m) : inB m x = true := by
  unfold inB
  rw [decide_eq_true h.1, decide_eq_true h.2]
  rfl
theorem gadd1 {m x : Int} (h : inB m x = true) (hm : 0 ≤ m) : gadd .i64 x 1 = x + 1 := by
  have := inB_of h
  unfold gadd
  rw [IntKind.wrap_i64]
  omega
theorem inB_succ {m x : Int} (h : inB (m + 1) x = true) (hm : 0 ≤ m) : inB m (gadd .i64 x 1) = true := by
  rw [gadd1 h (by omega)]
  have := inB_of h
  exact inB_mk (by omega)
noncomputable def cond0 (m : Int) (W : World) (a : Option Addr) (n c : Nat) (x : SI) : SB := (SB.sym (okRow W a n c)).and (SI.cmp (fun x _ => inB m x) x (.lit 0))
theorem cond0_val {m : Int} {W : World} {a : Option Addr} {n c : Nat} {x : SI} (h : (cond0 m W a n c x).val = true) : RowOk W .i64 a n c ∧ inB m x.val = true := by
  unfold cond0 at h
  rw [SB.and_val, Bool.and_eq_true, cmp0_val (fun x => inB m x)] at h
  exact ⟨okRow_ok h.1, h.2⟩
noncomputable def FNext (W : World) (a : Option Addr) (n c : Nat) (x : SI) : List TV → Option (SB × TV × SI)
  | [.one (.int .i64 k)] => some ((cond0 0 W a n c x).and (SI.cmp (fun k _ => decide (0 < k) && decide (k ≤ 9223372036854775807)) k (.lit 0)), .one (.int .i64 (.sym (nxt W a n x.val k.val))), SI.map2 (gadd .i64) x (.lit 1))
  | _ => none
def next' (x : Int) : Int := gsub .i64 (gadd .i64 x 1) 1
theorem next'_eq {x : Int} {n c : Nat} (h0 : 0 ≤ x) (h1 : x < n) (h2 : n ≤ c) (h3 : c ≤ maxLen) : next' x = x := by
  have hm : maxLen = 9223372036854775807 := by decide
  unfold next' gadd gsub
  simp only [IntKind.wrap_i64]
  omega
theorem nextv (W : World) (a : Option Addr) (n c : Nat) (x k : Int) : nVal 46 a n c (.sym x) (nRun Try.prog W [] 46 23 a n c (.sym x) [.one (.int .i64 (.sym k))]) =
    some (.sym (bif decide (x ≥ (n : Int)) then true else (inRow a n (next' x) && (isInt W .i64 (atRow a (next' x) 1) && !decide (IntKind.u64.wrap k = 0)))),
      .one (.int .i64 (.sym (bif decide (x ≥ (n : Int)) then 0 else plc (rdInt W (atRow a (next' x) 1)) k))), .sym (bif decide (x ≥ (n : Int)) then gadd .i64 x 1 else gadd .i64 x 1)) := by kernel_rfl
theorem next_vc {W : World} {a : Option Addr} {n c : Nat} {x k : Int} (hr : RowOk W .i64 a n c) (h0 : 0 ≤ x) (hk0 : 0 < k) (hk1 : k ≤ 9223372036854775807) :
    (bif decide (x ≥ (n : Int)) then true else (inRow a n (next' x) && (isInt W .i64 (atRow a (next' x) 1) && !decide (IntKind.u64.wrap k = 0)))) = true ∧
    (bif decide (x ≥ (n : Int)) then 0 else plc (rdInt W (atRow a (next' x) 1)) k) = nxt W a n x k := by
  by_cases h : x ≥ (n : Int)
  · rw [decide_eq_true h]
    exact ⟨rfl, by unfold nxt; rw [decide_eq_true h]; rfl⟩
  · have hx : x < n := by omega
    rw [next'_eq h0 hx hr.le hr.max]
    refine ⟨?_, rfl⟩
    rw [decide_eq_false h]
    have hs : a.isSome = true := by
      cases a with
      | none => have := hr.nil rfl; omega
      | some a => rfl
    have hat := (hr.at_ x.toNat (by omega)).1
    have hadr : atRow a x 1 = (a.getD default).add x.toNat := by unfold atRow; rw [Nat.mul_one]
    rw [hadr, hat, u64_pos hk0 hk1]
    simp only [inRow, hs, decide_eq_true h0, decide_eq_true hx, Bool.and_self, cond_false, Bool.true_and, Bool.not_eq_true', decide_eq_false_iff_not]
    omega
theorem next_ok (W : World) : SpecOk W Try.prog 23 (specN 46 (FNext W)) := by
  refine specN_ok (G := []) (gok_nil W) ⟨Try.f23, Try.func23, by kernel_rfl, by kernel_rfl⟩ fun a n c x rest vc v y hF hvc => ?_
  unfold FNext at hF
  split at hF <;> try contradiction
  rename_i k
  simp only [Option.some.injEq, Prod.mk.injEq] at hF
  obtain ⟨rfl, rfl, rfl⟩ := hF
  rw [SB.and_val, Bool.and_eq_true, cmp0_val (fun k => decide (0 < k) && decide (k ≤ 9223372036854775807)), Bool.and_eq_true, decide_eq_true_eq, decide_eq_true_eq] at hvc
  obtain ⟨hr, h0⟩ := cond0_val hvc.1
  obtain ⟨h1, h2⟩ := next_vc hr (inB_of h0).1 hvc.2.1 hvc.2.2
  refine ⟨rfl, rfl, by simp, .sym x.val, [.one (.int .i64 (.sym k.val))], _, _, _, rfl, rfl, rfl, nextv W a n c x.val k.val, h1, ?_, fun f => ?_⟩
  · show (bif decide (x.val ≥ (n : Int)) then gadd .i64 x.val 1 else gadd .i64 x.val 1) = _
    rw [Bool.cond_self, SI.map2_val]
    rfl
  · show Value.int .i64 _ = Value.int .i64 _
    exact congrArg _ h2
def G0 : World → List (Nat × Sx.Spec) := fun _ => []
noncomputable def GN (W : World) : List (Nat × Sx.Spec) := [(23, specN 46 (FNext W))]
theorem gokN (W : World) : GOk W Try.prog (GN W) := gok_cons (next_ok W) (gok_nil W)

noncomputable def FFlag (W : World) (a : Option Addr) (n c : Nat) (x : SI) : List TV → Option (SB × TV × SI)
  | [] => some (cond0 0 W a n c x, .one (.bool (.sym (nxt W a n x.val 2 == 1))), SI.map2 (gadd .i64) x (.lit 1))
  | _ => none
theorem flagv (W : World) (a : Option Addr) (n c : Nat) (x : Int) : nVal 46 a n c (.sym x) (nRun Try.prog W (GN W) 46 30 a n c (.sym x) []) =
    some (.sym (okRow W a n c && inB 0 x), .one (.bool (.sym (nxt W a n x 2 == 1))), .sym (gadd .i64 x 1)) := by kernel_rfl
theorem cond0_sym {W : World} {a : Option Addr} {n c : Nat} {x : SI} (h : (cond0 0 W a n c x).val = true) : (okRow W a n c && inB 0 x.val) = true := by
  obtain ⟨h1, h2⟩ := cond0_val h
  rw [okRow_of h1, h2]
  rfl
theorem flag_ok (W : World) : SpecOk W Try.prog 30 (specN 46 (FFlag W)) := by
  refine specN_ok (G := GN W) (gokN W) ⟨Try.f30, Try.func30, by kernel_rfl, by kernel_rfl⟩ fun a n c x rest vc v y hF hvc => ?_
  unfold FFlag at hF
  split at hF <;> try contradiction
  simp only [Option.some.injEq, Prod.mk.injEq] at hF
  obtain ⟨rfl, rfl, rfl⟩ := hF
  refine ⟨rfl, rfl, by simp, .sym x.val, [], _, _, _, rfl, rfl, rfl, flagv W a n c x.val, cond0_sym hvc, ?_, fun f => rfl⟩
  rw [SI.map2_val]
  rfl
noncomputable def GF (W : World) : List (Nat × Sx.Spec) := (30, specN 46 (FFlag W)) :: GN W
theorem gokF (W : World) : GOk W Try.prog (GF W) := gok_cons (flag_ok W) (gokN W)
end Go.Proofs.Ytdfplmkaaodblaa.mk
