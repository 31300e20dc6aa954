/- tstatelaw21.PriorityGrows returns true for every input; no condition. -/
import Derived.Test.YthpbolcbajfpjaaPriB
namespace Go.Proofs.Ythpbolcbajfpjaa.priorityGrows
open Go Go.Sx Go.RowKit
set_option maxRecDepth 100000

def shapes : List ASh := [.one (.int .u8), .one (.int .u8), .one (.int .u8), .one (.int .u8), .one (.int .i64), .one (.bool)]

theorem nf (x0 x1 x2 x3 x4 : Int) (x5 : Bool) : okTrue (eval Try.prog pr.G 7 [.one (.int .u8 (.sym x0)), .one (.int .u8 (.sym x1)), .one (.int .u8 (.sym x2)), .one (.int .u8 (.sym x3)), .one (.int .i64 (.sym x4)), .one (.bool (.sym x5))]) =
  (bif decide (pr.pk x0 x2 x3 (pr.place x4) x5 < 0) then true
   else bif decide (pr.pk (bits .or .u8 x0 x1) x2 x3 (pr.place x4) x5 ≥ 0) then
     bif decide (pr.pk (bits .or .u8 x0 x1) x2 x3 (pr.place x4) x5 < 8) then
       decide (pr.rk (pr.pk (bits .or .u8 x0 x1) x2 x3 (pr.place x4) x5) (pr.place x4) ≤ pr.rk (pr.pk x0 x2 x3 (pr.place x4) x5) (pr.place x4))
     else false
   else false) := by kernel_rfl
theorem grows (x0 x1 x2 x3 l : Int) (sp : Bool) (h : ¬ pr.pk x0 x2 x3 l sp < 0) :
    pr.pk (bits .or .u8 x0 x1) x2 x3 l sp ≥ 0 ∧ pr.pk (bits .or .u8 x0 x1) x2 x3 l sp < 8 ∧ pr.rk (pr.pk (bits .or .u8 x0 x1) x2 x3 l sp) l ≤ pr.rk (pr.pk x0 x2 x3 l sp) l := by
  obtain ⟨h1 | ⟨hx0, hx7, hx, hg⟩, _⟩ := pr.pk_facts x0 x2 x3 l sp
  · omega
  have ra := pr.andNot_range x0 x2
  have rb := pr.andNot_range (bits .or .u8 x0 x1) x2
  obtain ⟨_, _, _, a4, _⟩ := pr.hi_facts ra.1 ra.2 l
  obtain ⟨b1, b2, b3, b4, b5⟩ := pr.hi_facts rb.1 rb.2 l
  have hon := (a4 (by omega)).2
  have hon' : pr.on (bits .andNot .u8 (bits .or .u8 x0 x1) x2) (pr.hi (bits .andNot .u8 x0 x2) l) = true := by
    rw [pr.on_andNot _ _ (by omega) (by omega)] at hon ⊢
    rw [pr.on_or _ _ (by omega) (by omega)]
    simp only [Bool.and_eq_true] at hon
    rw [hon.1, hon.2]
    rfl
  obtain ⟨c1, c2⟩ := b5 _ (by omega) (by omega) hon'
  obtain ⟨q1 | ⟨hy0, hy7, hy, _⟩, q2⟩ := pr.pk_facts (bits .or .u8 x0 x1) x2 x3 l sp
  · have := q2 (by omega) (b4 c1).1
    omega
  · rw [hx, hy]
    omega
theorem walk (e : Env) (_ : argsOk e 0 shapes) : okTrue (eval Try.prog pr.G 7 (argsTV e 0 shapes)) = true := by
  refine (nf (e.n 0) (e.n 1) (e.n 2) (e.n 3) (e.n 4) (e.b 5)).trans ?_
  by_cases h : pr.pk (e.n 0) (e.n 2) (e.n 3) (pr.place (e.n 4)) (e.b 5) < 0
  · rw [decide_eq_true h]
    rfl
  · obtain ⟨h1, h2, h3⟩ := grows (e.n 0) (e.n 1) (e.n 2) (e.n 3) (pr.place (e.n 4)) (e.b 5) h
    rw [decide_eq_false h, decide_eq_true h1, decide_eq_true h2, decide_eq_true h3]
    rfl

theorem own : ownKnob Try.prog.godebug = none := by kernel_rfl

theorem lifted (os : Os) (started : os.Started) (H : Type) (enc : TypeId × Value → H) :
    ReturnsInHanded {} Try.checked os 7 .any (Rows.priorityGrowsSpec.pre6 enc Try.prog Try.f7 Rows.priorityGrowsRow.domain false) (Rows.priorityGrowsSpec.post enc Try.prog Try.f7 false true false false) :=
  law_step (C := Try.checked) 6 own started (by kernel_rfl) Try.func7 (by kernel_rfl) (by kernel_rfl) rfl
    (fun ds hd => by
      match ds, hd with
      | [d0, d1, d2, d3, d4, d5], _ => rfl)
    (ChangeSpec.witness6 (enc := enc) (C := Try.checked) false ⟨#[], #[.int .u8 0, .int .u8 0, .int .u8 0, .int .u8 0, .int .i64 0, .bool false], []⟩ 8 (by kernel_rfl) (by kernel_rfl) (by kernel_rfl) (by kernel_rfl))
    (fun W base args hv hl _ _ _ => plain_walk (P := Try.prog) (G := pr.G) pr.gok shapes (by kernel_rfl) walk W base args hv hl)

theorem over : Rows.priorityGrowsRow.holds Try.pinned (OpenSpec.ofChange Rows.priorityGrowsSpec) :=
  OpenClaim.holds_of_wide 7 Try.f7 rfl rfl rfl rfl rfl rfl rfl ⟨rfl, rfl, rfl, rfl, rfl⟩ rfl rfl rfl rfl rfl (by kernel_rfl) Try.func7 (by kernel_rfl)
    (of_decide_eq_true (by kernel_rfl)) (by unfold Func.isWrapper; first | (rw [if_pos (by decide +kernel)]; kernel_rfl) | (rw [if_neg (by decide +kernel)]; exact ⟨rfl, rfl⟩))
    (fun os started H enc _ => lifted os started H enc)

theorem proved : Rows.PriorityGrowsSaid := over
#print axioms proved
end Go.Proofs.Ythpbolcbajfpjaa.priorityGrows
