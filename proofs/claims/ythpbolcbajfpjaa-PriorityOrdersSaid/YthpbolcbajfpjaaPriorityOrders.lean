/- tstatelaw21.PriorityOrders returns true for every input; no condition. -/
import Derived.Test.YthpbolcbajfpjaaPriB
namespace Go.Proofs.Ythpbolcbajfpjaa.priorityOrders
open Go Go.Sx Go.RowKit
set_option maxRecDepth 100000

def shapes : List ASh := [.one (.int .i64)]

def place (x : Int) : Int := IntKind.i64.wrap ((IntKind.u64.wrap x).tmod 8)
def FPl (k : Int) : List TV → Option (SB × TV)
  | [.one (.int .i64 (.sym x)), .one (.int .i64 (.lit n))] => match decide (n = 8) with
    | true => some (.sym (decide (place x = k)), .one (.int .i64 (.lit k)))
    | false => none
  | _ => none
theorem plv (x : Int) : eval Try.prog [] 8 [.one (.int .i64 (.sym x)), .one (.int .i64 (.lit 8))] = some (.one (.int .i64 (.sym (place x)))) := by kernel_rfl
theorem pl_ok (W : World) (k : Int) : SpecOk W Try.prog 8 (specV (FPl k)) := by
  refine specV_ok (G := []) (gok_nil W) ⟨Try.f8, Try.func8, by kernel_rfl, by kernel_rfl⟩ fun args c v hv hc => ?_
  unfold FPl at hv
  split at hv <;> try contradiction
  rename_i x n
  split at hv <;> try contradiction
  rename_i hn
  simp only [decide_eq_true_eq] at hn
  subst hn
  simp only [Option.some.injEq, Prod.mk.injEq] at hv
  obtain ⟨rfl, rfl⟩ := hv
  refine ⟨rfl, rfl, by simp, _, plv x, fun f => ?_⟩
  have : place x = k := of_decide_eq_true hc
  simp only [TV.den, SV.den, SI.val, this]
def GO (k : Int) : List (Nat × Sx.Spec) := (8, specV (FPl k)) :: pr.G
theorem gokO (k : Int) (W : World) : GOk W Try.prog (GO k) := gok_cons (pl_ok W k) (pr.gok W)
theorem nf0 (x : Int) : okTrue (eval Try.prog (GO 0) 5 [.one (.int .i64 (.sym x))]) = okTrue (bif decide (place x = 0) then some (.one (.bool (.lit true))) else none) := by kernel_rfl
theorem nf1 (x : Int) : okTrue (eval Try.prog (GO 1) 5 [.one (.int .i64 (.sym x))]) = okTrue (bif decide (place x = 1) then some (.one (.bool (.lit true))) else none) := by kernel_rfl
theorem nf2 (x : Int) : okTrue (eval Try.prog (GO 2) 5 [.one (.int .i64 (.sym x))]) = okTrue (bif decide (place x = 2) then some (.one (.bool (.lit true))) else none) := by kernel_rfl
theorem nf3 (x : Int) : okTrue (eval Try.prog (GO 3) 5 [.one (.int .i64 (.sym x))]) = okTrue (bif decide (place x = 3) then some (.one (.bool (.lit true))) else none) := by kernel_rfl
theorem nf4 (x : Int) : okTrue (eval Try.prog (GO 4) 5 [.one (.int .i64 (.sym x))]) = okTrue (bif decide (place x = 4) then some (.one (.bool (.lit true))) else none) := by kernel_rfl
theorem nf5 (x : Int) : okTrue (eval Try.prog (GO 5) 5 [.one (.int .i64 (.sym x))]) = okTrue (bif decide (place x = 5) then some (.one (.bool (.lit true))) else none) := by kernel_rfl
theorem nf6 (x : Int) : okTrue (eval Try.prog (GO 6) 5 [.one (.int .i64 (.sym x))]) = okTrue (bif decide (place x = 6) then some (.one (.bool (.lit true))) else none) := by kernel_rfl
theorem nf7 (x : Int) : okTrue (eval Try.prog (GO 7) 5 [.one (.int .i64 (.sym x))]) = okTrue (bif decide (place x = 7) then some (.one (.bool (.lit true))) else none) := by kernel_rfl
theorem fin {x k : Int} (h : place x = k) : okTrue (bif decide (place x = k) then some (.one (.bool (.lit true))) else none) = true := by
  rw [decide_eq_true h]
  rfl
theorem calls (W : World) (x : Int) : Calls Try.prog 5 (List.map (TV.den fun _ => 0) [.one (.int .i64 (.sym x))]).toArray W fun en w' => en = .returned (.bool true) ∧ Below W.heap.size W w' := by
  have h := place_range x 8 (by decide) (by decide)
  have e : IntKind.i64.wrap ((IntKind.u64.wrap x).tmod (IntKind.u64.wrap 8)) = place x := rfl
  rw [e] at h
  have hc : place x = 0 ∨ place x = 1 ∨ place x = 2 ∨ place x = 3 ∨ place x = 4 ∨ place x = 5 ∨ place x = 6 ∨ place x = 7 := by omega
  rcases hc with h | h | h | h | h | h | h | h
  · exact law_calls (gokO 0 W) ((nf0 x).trans (fin h))
  · exact law_calls (gokO 1 W) ((nf1 x).trans (fin h))
  · exact law_calls (gokO 2 W) ((nf2 x).trans (fin h))
  · exact law_calls (gokO 3 W) ((nf3 x).trans (fin h))
  · exact law_calls (gokO 4 W) ((nf4 x).trans (fin h))
  · exact law_calls (gokO 5 W) ((nf5 x).trans (fin h))
  · exact law_calls (gokO 6 W) ((nf6 x).trans (fin h))
  · exact law_calls (gokO 7 W) ((nf7 x).trans (fin h))

theorem own : ownKnob Try.prog.godebug = none := by kernel_rfl

theorem lifted (os : Os) (started : os.Started) (H : Type) (enc : TypeId × Value → H) :
    ReturnsInHanded {} Try.checked os 5 .any (Rows.priorityOrdersSpec.pre6 enc Try.prog Try.f5 Rows.priorityOrdersRow.domain false) (Rows.priorityOrdersSpec.post enc Try.prog Try.f5 false true false false) :=
  law_step (C := Try.checked) 1 own started (by kernel_rfl) Try.func5 (by kernel_rfl) (by kernel_rfl) rfl
    (fun ds hd => by
      match ds, hd with
      | [d0], _ => rfl)
    (ChangeSpec.witness6 (enc := enc) (C := Try.checked) false ⟨#[], #[.int .i64 0], []⟩ 8 (by kernel_rfl) (by kernel_rfl) (by kernel_rfl) (by kernel_rfl))
    (fun W base args hv hl _ _ _ => shape_walk (P := Try.prog) shapes (by kernel_rfl) (fun W e _ => calls W (e.n 0)) W base args hv hl)

theorem over : Rows.priorityOrdersRow.holds Try.pinned (OpenSpec.ofChange Rows.priorityOrdersSpec) :=
  OpenClaim.holds_of_wide 5 Try.f5 rfl rfl rfl rfl rfl rfl rfl ⟨rfl, rfl, rfl, rfl, rfl⟩ rfl rfl rfl rfl rfl (by kernel_rfl) Try.func5 (by kernel_rfl)
    (of_decide_eq_true (by kernel_rfl)) (by unfold Func.isWrapper; first | (rw [if_pos (by decide +kernel)]; kernel_rfl) | (rw [if_neg (by decide +kernel)]; exact ⟨rfl, rfl⟩))
    (fun os started H enc _ => lifted os started H enc)

theorem proved : Rows.PriorityOrdersSaid := over
#print axioms proved
end Go.Proofs.Ythpbolcbajfpjaa.priorityOrders
