/- A contract whose value is known in some places: there the literal, under the condition that it is so. -/
import Derived.Test.YtndciaoiinhdnaaLaw
namespace Go.Sx
open Go Go.RowKit
def setL : List (Nat × Int) → List SV → SB × List SV
  | [], l => (.lit true, l)
  | (i, n) :: r, l => match setL r l with
    | (c, l') => match l'[i]? with
      | some (.int k x) => (c.and (SI.cmp (fun a b => decide (a = b)) x (.lit n)), l'.set i (.int k (.lit n)))
      | some (.bool x) => (c.and (SB.eq x (.lit (decide (n = 1)))), l'.set i (.bool (.lit (decide (n = 1)))))
      | _ => (c, l')
def Spec.lits (ls : List (Nat × Int)) (sp : Spec) : Spec := ⟨sp.rd, sp.kn, fun args C K => match sp.fx args C K with
  | some e => match e.val with
    | .agg l => match setL ls l with
      | (c, l') => some ⟨e.vc.and c, .agg l', e.ws, e.nb⟩
    | _ => none
  | none => none⟩
theorem sbeq_val (a b : SB) : (SB.eq a b).val = (a.val == b.val) := by cases a <;> cases b <;> rfl
theorem sieq_val (p : Int → Int → Bool) (a b : SI) : (SI.cmp p a b).val = p a.val b.val := by cases a <;> cases b <;> rfl
theorem map_set_same {l : List SV} {i : Nat} {u v : SV} (h : l[i]? = some u) (f : Nat → Nat) (hd : v.den f = u.den f) : (l.set i v).map (SV.den f) = l.map (SV.den f) := by
  rw [List.map_set]
  apply List.ext_getElem?
  intro j
  rw [List.getElem?_set]
  by_cases hj : i = j
  · subst hj
    have hlt : i < l.length := (List.getElem?_eq_some_iff.1 h).1
    have hu := (List.getElem?_eq_some_iff.1 h).2
    simp [hd, hlt, ← hu]
  · simp [hj]
theorem setL_den (f : Nat → Nat) : ∀ (ls : List (Nat × Int)) (l : List SV), (setL ls l).1.val = true → (setL ls l).2.map (SV.den f) = l.map (SV.den f)
  | [], l, _ => rfl
  | (i, n) :: r, l, h => by
    simp only [setL] at h ⊢
    split at h
    · rename_i k x hx
      simp only [SB.and_val, Bool.and_eq_true, sieq_val, decide_eq_true_eq] at h
      rw [map_set_same hx f (by simp only [SV.den]; rw [← h.2])]
      exact setL_den f r l h.1
    · rename_i x hx
      simp only [SB.and_val, Bool.and_eq_true, sbeq_val, beq_iff_eq] at h
      rw [map_set_same hx f (by simp only [SV.den]; rw [← h.2])]
      exact setL_den f r l h.1
    · exact setL_den f r l h
theorem lits_ok {W : World} {P : Program} {g : FuncId} {sp : Spec} (h : SpecOk W P g sp) (ls : List (Nat × Int)) : SpecOk W P g (sp.lits ls) := by
  refine ⟨h.fn, ?_⟩
  intro args C K e f w he hnb hvc hC hK hW hO
  simp only [Spec.lits] at he
  split at he <;> try contradiction
  rename_i e0 he0
  split at he <;> try contradiction
  rename_i l hl
  simp only [Option.some.injEq] at he
  subst he
  simp only [SB.and_val, Bool.and_eq_true] at hvc
  obtain ⟨h1, h2, h3⟩ := h.ok args C K e0 f w he0 hnb hvc.1 hC hK hW hO
  refine ⟨by simp, h2, h3.mono ?_⟩
  rintro en w' ⟨rfl, hu⟩
  refine ⟨?_, hu⟩
  rw [hl]
  have := setL_den f ls l hvc.2
  simp only [TV.den, dens, this]
/-- One contract where the test holds, another elsewhere. -/
def Spec.or (t : List TV → Bool) (a b : Spec) : Spec := ⟨a.rd, a.kn, fun args C K => match t args with
  | true => a.fx args C K
  | false => b.fx args C K⟩
theorem or_ok {W : World} {P : Program} {g : FuncId} {a b : Spec} (ha : SpecOk W P g a) (hb : SpecOk W P g b) (t : List TV → Bool) : SpecOk W P g (a.or t b) := by
  refine ⟨ha.fn, ?_⟩
  intro args C K e f w he hnb hvc hC hK hW hO
  simp only [Spec.or] at he
  split at he
  · exact ha.ok args C K e f w he hnb hvc hC hK hW hO
  · exact hb.ok args C K e f w he hnb hvc hC hK hW hO
def TV.notUn : TV → Bool
  | .un => false
  | _ => true
/-- The value that 'eval' itself comes to. -/
def FA (P : Program) (W : World) (G : List (Nat × Spec)) (g : FuncId) (args : List TV) : Option (SB × TV) :=
  match allB (TV.lt 0) args with
  | true => match eval P W G g args with
    | some v => match v.lt 0 && v.notUn with
      | true => some (.lit true, v)
      | false => none
    | none => none
  | false => none
theorem fa_ok {W : World} {P : Program} {G : List (Nat × Spec)} (hG : GOk W P G) {g : FuncId} (fn : ∃ fn, P.funcs[g]? = some fn ∧ (fn.name == "runtime.NumGoroutine") = false ∧ fn.body.isNone = false) : SpecOk W P g (specV (FA P W G g)) := by
  refine specV_ok (G := G) hG fn fun args c v hv hc => ?_
  unfold FA at hv
  split at hv <;> try contradiction
  rename_i hlt
  split at hv <;> try contradiction
  rename_i v' hv'
  split at hv <;> try contradiction
  rename_i hk
  simp only [Option.some.injEq, Prod.mk.injEq] at hv
  obtain ⟨rfl, rfl⟩ := hv
  rw [Bool.and_eq_true] at hk
  refine ⟨hlt, hk.1, ?_, _, hv', fun _ => rfl⟩
  rintro rfl
  exact absurd hk.2 (by simp [TV.notUn])
end Go.Sx
