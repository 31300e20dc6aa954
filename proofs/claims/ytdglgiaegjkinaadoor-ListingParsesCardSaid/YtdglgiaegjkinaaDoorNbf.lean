/- The contract that a function's own evaluation gives, a new slice among its results. No program of the seat is named here. -/
import Derived.Test.YtdglgiaegjkinaaDoorGapE
namespace Go.Sx
open Go Go.RowKit
def nbKn : List TV → List Nat
  | [] => [77777]
  | _ => []
def nbOf : R → Option Eff
  | .leaf (.res (.one (.row b o n c))) vc _ m => match Nat.beq o 0 && Nat.beq n c with
    | true => match look m.blks b with
      | some i => match i.rw && Nat.beq i.init.length n with
        | true => match rangeC m.get b 0 n with
          | some l => match allB (SV.lt 0) l with
            | true => some ⟨vc, .ud, [], some (i.elem, l)⟩
            | false => none
          | none => none
        | false => none
      | none => none
    | false => none
  | .leaf (.res (.one (.sl a n c))) vc _ _ => some ⟨vc, .one (.sl a n c), [], none⟩
  | _ => none
def nbR (P : Program) (W : World) (G : List (Nat × Spec)) (g : FuncId) (args : List TV) : R := run P W G 100000 (.fn g args) ⟨0, [], ⟨[], [], 0⟩⟩ [] ⟨[], [], 0⟩
def specNb (P : Program) (W : World) (G : List (Nat × Spec)) (g : FuncId) : Spec := ⟨fun _ => [], nbKn, fun args _ _ => match allB (TV.lt 0) args with
  | true => nbOf (nbR P W G g args)
  | false => none⟩
section
variable {W : World} {P : Program} {G : List (Nat × Spec)}
theorem nb_run (hG : GOk W P G) {g : FuncId} {args : List TV} {x : TV} {vc : SB} {s : SL} {m : Mem} (h : nbR P W G g args = .leaf (.res x) vc s m) (hv : vc.val = true) (f : Nat → Nat) (w : World) (hW : Old W w) :
    Calls P g (args.map (TV.den f)).toArray w fun en w' => ∃ f', en = .returned (x.den f') ∧ x ≠ .un ∧ MOk w (fun _ => False) f' m w' ∧ Fr W w (fun _ => False) w' := by
  have hm : MOk w (fun _ => False) f ((⟨[], [], 0⟩ : Mem).on ⟨[], [], 0⟩) w := by
    refine ⟨?_, ?_, ?_, ?_, ?_, ?_⟩ <;> intro b <;> simp [Mem.on, look, Mem.get, findC]
  have hf : Fr W w (fun _ => False) w := ⟨rfl, rfl, rfl, Nat.le_refl _, fun _ _ _ => rfl, hW.base⟩
  have hgood : (nbR P W G g args).good := ⟨_, _, _, _, by rw [h]; rfl, hv⟩
  refine ((sound hG (fun n hS => draw_sound hG n hS) 100000).fn w (fun _ => False) g args ⟨0, [], ⟨[], [], 0⟩⟩ [] ⟨[], [], 0⟩ f w hgood hm hf).mono ?_
  rintro en w1 ⟨x', v2, s2, m2, f2, hr, hne, rfl, hm2, hf2, _, _⟩
  have hr' : (nbR P W G g args).get = some (.res x', v2, s2, m2) := hr
  rw [h] at hr'
  simp only [R.get, Option.some.injEq, Prod.mk.injEq, Ex.res.injEq] at hr'
  obtain ⟨rfl, rfl, rfl, rfl⟩ := hr'
  refine ⟨f2, rfl, hne, ?_, hf2⟩
  have e : m.on ⟨[], [], 0⟩ = m := by
    cases m
    simp [Mem.on]
  rw [e] at hm2
  exact hm2
theorem nb_get (hG : GOk W P G) {g : FuncId} {args : List TV} {x : TV} {vc : SB} {s : SL} {m : Mem} (h : (nbR P W G g args).get = some (.res x, vc, s, m)) (hv : vc.val = true) (f : Nat → Nat) (w : World) (hW : Old W w) :
    Calls P g (args.map (TV.den f)).toArray w fun en w' => ∃ f', en = .returned (x.den f') ∧ x ≠ .un ∧ Below w.heap.size w w' := by
  have hm : MOk w (fun _ => False) f ((⟨[], [], 0⟩ : Mem).on ⟨[], [], 0⟩) w := by
    refine ⟨?_, ?_, ?_, ?_, ?_, ?_⟩ <;> intro b <;> simp [Mem.on, look, Mem.get, findC]
  have hf : Fr W w (fun _ => False) w := ⟨rfl, rfl, rfl, Nat.le_refl _, fun _ _ _ => rfl, hW.base⟩
  refine ((sound hG (fun n hS => draw_sound hG n hS) 100000).fn w (fun _ => False) g args ⟨0, [], ⟨[], [], 0⟩⟩ [] ⟨[], [], 0⟩ f w ⟨_, _, _, _, h, hv⟩ hm hf).mono ?_
  rintro en w1 ⟨x', v2, s2, m2, f2, hr, hne, rfl, hm2, hf2, _, _⟩
  have hr' : (nbR P W G g args).get = some (.res x', v2, s2, m2) := hr
  rw [h] at hr'
  simp only [Option.some.injEq, Prod.mk.injEq, Ex.res.injEq] at hr'
  obtain ⟨rfl, rfl, rfl, rfl⟩ := hr'
  exact ⟨f2, rfl, hne, hf2.os, hf2.tape, hf2.output, hf2.size, fun i hi => hf2.same i hi (fun h => h)⟩
theorem get_of_map {r : R} {e : Ex} {vc : SB} (h : r.get.map (fun p => (p.1, p.2.1)) = some (e, vc)) : ∃ s m, r.get = some (e, vc, s, m) := by
  cases hr : r.get with
  | none => rw [hr] at h; cases h
  | some p =>
    obtain ⟨e', v', s, m⟩ := p
    rw [hr] at h
    simp only [Option.map_some, Option.some.injEq, Prod.mk.injEq] at h
    obtain ⟨rfl, rfl⟩ := h
    exact ⟨s, m, rfl⟩
def gY : R → Option (TV × Bool)
  | .fail => none
  | .leaf (.res v) vc _ _ => some (v, vc.val)
  | .leaf _ _ _ _ => none
  | .br b x y => bif b then gY x else gY y
theorem gY_get : ∀ {r : R} {v : TV}, gY r = some (v, true) → ∃ vc s m, r.get = some (.res v, vc, s, m) ∧ vc.val = true
  | .fail, v, h => by cases h
  | .leaf e vc s m, v, h => by
    cases e with
    | res x =>
      simp only [gY, Option.some.injEq, Prod.mk.injEq] at h
      obtain ⟨rfl, h2⟩ := h
      exact ⟨vc, s, m, rfl, h2⟩
    | _ => cases h
  | .br b x y, v, h => by
    cases b
    · exact gY_get (r := y) h
    · exact gY_get (r := x) h
theorem specNb_ok (hG : GOk W P G) {g : FuncId} (fn : ∃ fn, P.funcs[g]? = some fn ∧ (fn.name == "runtime.NumGoroutine") = false ∧ fn.body.isNone = false) : SpecOk W P g (specNb P W G g) := by
  refine ⟨fn, ?_⟩
  intro args C K e f w he hnb hvc _ _ hW _
  simp only [specNb] at he
  split at he <;> try contradiction
  unfold nbOf at he
  split at he
  · split at he <;> try contradiction
    split at he <;> try contradiction
    split at he <;> try contradiction
    split at he <;> try contradiction
    split at he <;> try contradiction
    simp only [Option.some.injEq] at he
    subst he
    cases hnb
  · rename_i hr
    simp only [Option.some.injEq] at he
    subst he
    refine ⟨nofun, fun p hp => (List.not_mem_nil hp).elim, (nb_run hG hr hvc f w hW).mono ?_⟩
    rintro en w' ⟨f', rfl, _, _, hf⟩
    exact ⟨rfl, ⟨hf.os, hf.tape, hf.output, hf.size, fun i hi => hf.same i hi (fun h => h)⟩⟩
  · cases he
theorem specNb_nb (hG : GOk W P G) {g : FuncId} : NbOk W P g (specNb P W G g) := by
  intro args C K e f w t l he hnb hvc _ _ hW _
  simp only [specNb] at he
  split at he <;> try contradiction
  unfold nbOf at he
  split at he
  · rename_i b o n c vc s m hr
    split at he <;> try contradiction
    rename_i hc
    split at he <;> try contradiction
    rename_i i hi
    split at he <;> try contradiction
    rename_i hrw
    split at he <;> try contradiction
    rename_i l' hl
    split at he <;> try contradiction
    rename_i hlt
    simp only [Option.some.injEq] at he
    subst he
    simp only [Option.some.injEq, Prod.mk.injEq] at hnb
    obtain ⟨rfl, rfl⟩ := hnb
    rw [Bool.and_eq_true, Nat.beq_eq, Nat.beq_eq] at hc
    rw [Bool.and_eq_true, Nat.beq_eq] at hrw
    obtain ⟨rfl, rfl⟩ := hc
    obtain ⟨hlen, hget⟩ := rangeC_get hl
    refine (nb_run hG hr hvc f w hW).mono ?_
    rintro en w' ⟨f', rfl, _, hm, hf⟩
    obtain ⟨arr, harr, hsz⟩ := hm.blk b i hi
    refine ⟨f' b, by rw [hlen]; rfl, ⟨hf.os, hf.tape, hf.output, hf.size, fun j hj => hf.same j hj (fun h => h), ?_, ?_⟩⟩
    · rcases hm.own b i hi hrw.1 with h1 | h1
      · exact h1
      · exact h1.elim
    · rw [harr]
      have : arr = dens f l' := by
        apply Array.ext
        · rw [hsz, hrw.2]
          simp [dens, hlen]
        · intro j h1 h2
          have hj : j < l'.length := by simpa [dens] using h2
          have hc := hm.cell b j l'[j] (by have := hget j l'[j] (List.getElem?_eq_getElem hj); simpa using this)
          rw [cell_of_blk harr, Array.getElem?_eq_getElem h1] at hc
          simp only [Option.some.injEq] at hc
          rw [hc]
          simp only [dens, List.getElem_toArray, List.getElem_map]
          exact SV.lt_den (allB_iff hlt _ (List.getElem_mem hj)) (fun b hb => by omega)
      rw [this]
  · simp only [Option.some.injEq] at he
    subst he
    cases hnb
  · cases he
end
end Go.Sx
