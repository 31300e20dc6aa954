/- tstatelaw21.PriorityServes returns true for every input; no condition. -/
import Derived.Test.YthpbolcbajfpjaaPriB
namespace Go.Proofs.Ythpbolcbajfpjaa.priorityServes
open Go Go.Sx Go.RowKit
set_option maxRecDepth 100000

def shapes : List ASh := [.one (.int .u8), .one (.int .u8), .one (.int .u8), .one (.int .i64), .one (.bool)]

def vx (x : Int) : Bool := bif decide (x < -1) then true else bif decide (x > 7) then true else bif decide (x ≥ 0) then decide (0 ≤ x) else true
def zx (x0 x1 x : Int) : Bool := bif decide (x < -1) then true else bif decide (x > 7) then true else bif decide (x ≥ 0) then bits .and .u8 (gshr .u8 (bits .andNot .u8 x0 x1) x) 1 == 0 else false
def bk (x1 x2 n x : Int) (x4 : Bool) (i : Int) : Bool := bif bif pr.on x2 i then bif x4 then !pr.on x1 i else true else false then decide (pr.rk i n ≤ pr.rk x n) else false
def tk0 (x0 x1 x2 n x : Int) (x4 : Bool) (i : Int) : Bool :=
  bif decide (x ≥ 0) then bif pr.on (bits .andNot .u8 x0 x1) i then bif decide (pr.rk i n < pr.rk x n) then true else bk x1 x2 n x x4 i else bk x1 x2 n x x4 i else false
def tk (x0 x1 x2 x3 : Int) (x4 : Bool) (i : Int) : Bool := tk0 x0 x1 x2 (pr.place x3) (pr.pk x0 x1 x2 (pr.place x3) x4) x4 i
def lx (x0 x1 x : Int) : Bool := bif decide (x < 0) then bits .andNot .u8 x0 x1 != 0 else false
def fk (x1 x2 n h : Int) (x4 : Bool) (i : Int) : Bool :=
  bif pr.on x2 i then bif x4 then bif !pr.on x1 i then decide (pr.rk i n ≤ pr.rk h n) else false else decide (pr.rk i n ≤ pr.rk h n) else false
def fin (x1 x2 n h : Int) (x4 : Bool) : Bool :=
  bif fk x1 x2 n h x4 0 then true else bif fk x1 x2 n h x4 1 then true else bif fk x1 x2 n h x4 2 then true else bif fk x1 x2 n h x4 3 then true else bif fk x1 x2 n h x4 4 then true else bif fk x1 x2 n h x4 5 then true else bif fk x1 x2 n h x4 6 then true else fk x1 x2 n h x4 7
theorem nf (x0 x1 x2 x3 : Int) (x4 : Bool) : okTrue (eval Try.prog pr.G 6 [.one (.int .u8 (.sym x0)), .one (.int .u8 (.sym x1)), .one (.int .u8 (.sym x2)), .one (.int .i64 (.sym x3)), .one (.bool (.sym x4))]) =
  okTrue (bif bif zx x0 x1 (pr.pk x0 x1 x2 (pr.place x3) x4) then vx (pr.pk x0 x1 x2 (pr.place x3) x4) else bif tk x0 x1 x2 x3 x4 0 then vx (pr.pk x0 x1 x2 (pr.place x3) x4) else bif tk x0 x1 x2 x3 x4 1 then vx (pr.pk x0 x1 x2 (pr.place x3) x4) else bif tk x0 x1 x2 x3 x4 2 then vx (pr.pk x0 x1 x2 (pr.place x3) x4) else bif tk x0 x1 x2 x3 x4 3 then vx (pr.pk x0 x1 x2 (pr.place x3) x4) else bif tk x0 x1 x2 x3 x4 4 then vx (pr.pk x0 x1 x2 (pr.place x3) x4) else bif tk x0 x1 x2 x3 x4 5 then vx (pr.pk x0 x1 x2 (pr.place x3) x4) else bif tk x0 x1 x2 x3 x4 6 then vx (pr.pk x0 x1 x2 (pr.place x3) x4) else bif tk x0 x1 x2 x3 x4 7 then vx (pr.pk x0 x1 x2 (pr.place x3) x4) else bif lx x0 x1 (pr.pk x0 x1 x2 (pr.place x3) x4) then vx (pr.pk x0 x1 x2 (pr.place x3) x4) else vx (pr.pk x0 x1 x2 (pr.place x3) x4)
   then some (.one (.bool (.sym (bif zx x0 x1 (pr.pk x0 x1 x2 (pr.place x3) x4) then false else bif tk x0 x1 x2 x3 x4 0 then false else bif tk x0 x1 x2 x3 x4 1 then false else bif tk x0 x1 x2 x3 x4 2 then false else bif tk x0 x1 x2 x3 x4 3 then false else bif tk x0 x1 x2 x3 x4 4 then false else bif tk x0 x1 x2 x3 x4 5 then false else bif tk x0 x1 x2 x3 x4 6 then false else bif tk x0 x1 x2 x3 x4 7 then false else 
     bif lx x0 x1 (pr.pk x0 x1 x2 (pr.place x3) x4) then fin x1 x2 (pr.place x3) (pr.hi (bits .andNot .u8 x0 x1) (pr.place x3)) x4 else true)))) else none) := by kernel_rfl
theorem vx_true (x : Int) : vx x = true := by
  unfold vx
  by_cases h1 : x < -1
  · rw [decide_eq_true h1]; rfl
  by_cases h2 : x > 7
  · rw [decide_eq_true h2]; cases decide (x < -1) <;> rfl
  by_cases h3 : x ≥ 0
  · rw [decide_eq_true (show 0 ≤ x from h3)]
    cases decide (x < -1) <;> cases decide (x > 7) <;> cases decide (x ≥ 0) <;> rfl
  · rw [decide_eq_false h3]
    cases decide (x < -1) <;> cases decide (x > 7) <;> rfl
section
variable (x0 x1 x2 l : Int) (x4 : Bool)
theorem zx_false : zx x0 x1 (pr.pk x0 x1 x2 l x4) = false := by
  have ha := pr.andNot_range x0 x1
  obtain ⟨_, _, _, a4, _⟩ := pr.hi_facts ha.1 ha.2 l
  unfold zx
  obtain ⟨h1 | ⟨hx0, hx7, hx, hg⟩, _⟩ := pr.pk_facts x0 x1 x2 l x4
  · rw [h1]; rfl
  · have hon := (a4 (by omega)).2
    rw [← hx] at hon
    rw [decide_eq_false (by omega), decide_eq_false (by omega), decide_eq_true hx0]
    unfold pr.on at hon
    simp only [beq_iff_eq] at hon
    rw [hon]
    rfl
theorem tk_false (h0 : 0 ≤ x2) (h1 : x2 ≤ 255) {i : Int} (i0 : 0 ≤ i) (i1 : i ≤ 7) : tk0 x0 x1 x2 l (pr.pk x0 x1 x2 l x4) x4 i = false := by
  have ha := pr.andNot_range x0 x1
  have hb := pr.blk_range h0 h1 x1 x4
  obtain ⟨a1, a2, a3, a4, a5⟩ := pr.hi_facts ha.1 ha.2 l
  obtain ⟨b1, b2, b3, b4, b5⟩ := pr.hi_facts hb.1 hb.2 l
  unfold tk0
  obtain ⟨h1 | ⟨hx0, hx7, hx, hg⟩, _⟩ := pr.pk_facts x0 x1 x2 l x4
  · rw [h1]; rfl
  · have hbk : bk x1 x2 l (pr.pk x0 x1 x2 l x4) x4 i = false := by
      unfold bk
      cases hq : (bif pr.on x2 i then bif x4 then !pr.on x1 i else true else false) with
      | false => rfl
      | true =>
        have hob : pr.on (pr.blk x1 x2 x4) i = true := by
          rw [pr.on_blk _ _ _ i0 i1]
          revert hq
          cases pr.on x2 i <;> cases x4 <;> cases pr.on x1 i <;> simp
        obtain ⟨c1, c2⟩ := b5 i i0 i1 hob
        rw [hx, decide_eq_false (by omega)]
        rfl
    rw [hbk, decide_eq_true hx0]
    cases hoa : pr.on (bits .andNot .u8 x0 x1) i with
    | false => rfl
    | true =>
      obtain ⟨c1, c2⟩ := a5 i i0 i1 hoa
      rw [hx, decide_eq_false (by omega)]
      rfl
theorem fin_true (h0 : 0 ≤ x2) (h1 : x2 ≤ 255) (hl : lx x0 x1 (pr.pk x0 x1 x2 l x4) = true) : fin x1 x2 l (pr.hi (bits .andNot .u8 x0 x1) l) x4 = true := by
  have hb := pr.blk_range h0 h1 x1 x4
  obtain ⟨b1, b2, b3, b4, b5⟩ := pr.hi_facts hb.1 hb.2 l
  unfold lx at hl
  obtain ⟨_, hp⟩ := pr.pk_facts x0 x1 x2 l x4
  by_cases hn : pr.pk x0 x1 x2 l x4 < 0
  · rw [decide_eq_true hn, cond_true, bne_iff_ne] at hl
    obtain ⟨p1, p2, p3⟩ := hp hn hl
    have hob := (b4 p2).2
    have hf : fk x1 x2 l (pr.hi (bits .andNot .u8 x0 x1) l) x4 (pr.hi (pr.blk x1 x2 x4) l) = true := by
      rw [pr.on_blk _ _ _ p2 b2] at hob
      unfold fk
      rw [decide_eq_true p3]
      revert hob
      cases pr.on x2 (pr.hi (pr.blk x1 x2 x4) l) <;> cases x4 <;> cases pr.on x1 (pr.hi (pr.blk x1 x2 _) l) <;> simp
    revert hf
    generalize pr.hi (pr.blk x1 x2 x4) l = g at *
    intro hf
    have hc : g = 0 ∨ g = 1 ∨ g = 2 ∨ g = 3 ∨ g = 4 ∨ g = 5 ∨ g = 6 ∨ g = 7 := by omega
    unfold fin
    rcases hc with rfl | rfl | rfl | rfl | rfl | rfl | rfl | rfl <;> rw [hf] <;> simp only [cond_true, Bool.cond_self]
  · rw [decide_eq_false hn] at hl
    cases hl
end
theorem walk (e : Env) (h : argsOk e 0 shapes) : okTrue (eval Try.prog pr.G 6 (argsTV e 0 shapes)) = true := by
  have h2 := rng_u8 h.2.2.1
  refine (nf (e.n 0) (e.n 1) (e.n 2) (e.n 3) (e.b 4)).trans ?_
  have ht : ∀ i : Int, 0 ≤ i → i ≤ 7 → tk (e.n 0) (e.n 1) (e.n 2) (e.n 3) (e.b 4) i = false := fun i i0 i1 => tk_false _ _ _ _ _ h2.1 h2.2 i0 i1
  rw [zx_false, ht 0 (by decide) (by decide), ht 1 (by decide) (by decide), ht 2 (by decide) (by decide), ht 3 (by decide) (by decide), ht 4 (by decide) (by decide), ht 5 (by decide) (by decide), ht 6 (by decide) (by decide), ht 7 (by decide) (by decide), vx_true]
  simp only [cond_false, Bool.cond_self, cond_true]
  cases hl : lx (e.n 0) (e.n 1) (pr.pk (e.n 0) (e.n 1) (e.n 2) (pr.place (e.n 3)) (e.b 4)) with
  | false => rfl
  | true =>
    rw [fin_true _ _ _ _ _ h2.1 h2.2 hl]
    rfl

theorem own : ownKnob Try.prog.godebug = none := by kernel_rfl

theorem lifted (os : Os) (started : os.Started) (H : Type) (enc : TypeId × Value → H) :
    ReturnsInHanded {} Try.checked os 6 .any (Rows.priorityServesSpec.pre6 enc Try.prog Try.f6 Rows.priorityServesRow.domain false) (Rows.priorityServesSpec.post enc Try.prog Try.f6 false true false false) :=
  law_step (C := Try.checked) 5 own started (by kernel_rfl) Try.func6 (by kernel_rfl) (by kernel_rfl) rfl
    (fun ds hd => by
      match ds, hd with
      | [d0, d1, d2, d3, d4], _ => rfl)
    (ChangeSpec.witness6 (enc := enc) (C := Try.checked) false ⟨#[], #[.int .u8 0, .int .u8 0, .int .u8 0, .int .i64 0, .bool false], []⟩ 8 (by kernel_rfl) (by kernel_rfl) (by kernel_rfl) (by kernel_rfl))
    (fun W base args hv hl _ _ _ => plain_walk (P := Try.prog) (G := pr.G) pr.gok shapes (by kernel_rfl) walk W base args hv hl)

theorem over : Rows.priorityServesRow.holds Try.pinned (OpenSpec.ofChange Rows.priorityServesSpec) :=
  OpenClaim.holds_of_wide 6 Try.f6 rfl rfl rfl rfl rfl rfl rfl ⟨rfl, rfl, rfl, rfl, rfl⟩ rfl rfl rfl rfl rfl (by kernel_rfl) Try.func6 (by kernel_rfl)
    (of_decide_eq_true (by kernel_rfl)) (by unfold Func.isWrapper; first | (rw [if_pos (by decide +kernel)]; kernel_rfl) | (rw [if_neg (by decide +kernel)]; exact ⟨rfl, rfl⟩))
    (fun os started H enc _ => lifted os started H enc)

theorem proved : Rows.PriorityServesSaid := over
#print axioms proved
end Go.Proofs.Ythpbolcbajfpjaa.priorityServes
