/- A region that draws its order and calls nothing, inside a fence. No program of the seat is named here. -/
import Derived.Test.YtdglgiaegjkinaaDoorEngJ
import Derived.OrdersIn
namespace Go.Sx
open Go
/-- Operations that call nothing. -/
def plainO (o : Oper) : Bool := match o.op with
  | .move _ | .assign _ | .alloc _ | .box _ _ | .build _ _ | .buildSlice _ _ _ | .load _ _ | .store _ _ _ | .binOp _ _ _ _ _ | .unOp _ _ _ | .convert _ _ _ | .index _ _ _ | .indexAddr _ _ _ | .fieldAddr _ _ _ | .field _ _ _ | .extract _ _ | .slice _ _ _ _ _ => true
  | _ => false
section
variable {P : Program} {F : Fence} {n : Nat}
theorem andThen_value {s : Sem Value} {w : World} : ∀ {r : Result Next}, ((s.run P w).andThen fun v w' => .ok (.value v) w') = r → (∃ v w', r = .ok (.value v) w') ∨ ∃ h w', r = .halt h w' := by
  intro r h
  subst h
  cases s.run P w with
  | ok v w' => exact .inl ⟨v, w', rfl⟩
  | halt h w' => exact .inr ⟨h, w', rfl⟩
theorem plain_run {o : Oper} (h : plainO o = true) (ρ : Operand → Value) (w : World) : (∃ v w', (execOp ρ o).run P w = .ok (.value v) w') ∨ (∃ w', (execOp ρ o).run P w = .ok .skip w') ∨ ∃ x w', (execOp ρ o).run P w = .halt x w' := by
  have hv : ∀ s : Sem Value, (∃ v w', ((do pure (.value (← s))) : Sem Next).run P w = .ok (.value v) w') ∨ (∃ w', ((do pure (.value (← s))) : Sem Next).run P w = .ok .skip w') ∨ ∃ x w', ((do pure (.value (← s))) : Sem Next).run P w = .halt x w' := by
    intro s
    simp only [Sem.run_bind, Sem.run_pure]
    cases s.run P w with
    | ok v w' => exact .inl ⟨v, w', rfl⟩
    | halt h w' => exact .inr (.inr ⟨h, w', rfl⟩)
  have hu : ∀ s : Sem Unit, (∃ v w', ((do s; pure .skip) : Sem Next).run P w = .ok (.value v) w') ∨ (∃ w', ((do s; pure .skip) : Sem Next).run P w = .ok .skip w') ∨ ∃ x w', ((do s; pure .skip) : Sem Next).run P w = .halt x w' := by
    intro s
    simp only [Sem.run_bind, Sem.run_pure]
    cases s.run P w with
    | ok v w' => exact .inr (.inl ⟨w', rfl⟩)
    | halt h w' => exact .inr (.inr ⟨h, w', rfl⟩)
  unfold plainO at h
  unfold execOp
  split at h <;> first | contradiction | skip
  all_goals rename_i hop
  all_goals rw [hop]
  all_goals first | exact hv _ | exact hu _ | exact .inl ⟨_, _, rfl⟩
theorem plain_in {o : Oper} (h : plainO o = true) {a : Act} {w : World} {K K' : Act → World → Prop} {Q Q' : Exit → Act → World → Prop} (hK : ∀ a w, K a w → K' a w) (hQ : ∀ e a w, Q e a w → Q' e a w) (hw : o.wp P a w K Q) : o.wpIn F n P a w K' Q' := by
  refine ⟨fun f hf => ?_, ?_⟩
  · exfalso
    unfold plainO at h
    unfold Oper.about at hf
    split at h <;> first | contradiction | skip
    all_goals rename_i hop
    all_goals rw [hop] at hf
    all_goals simp at hf
  · have hs : o.semAt F.round a.eval = execOp a.eval o := Oper.semAt_eq _ _ _ (fun c hc => by
      unfold plainO at h
      rw [hc] at h
      cases h)
    rw [hs]
    unfold Oper.wp at hw
    rcases plain_run (P := P) h a.eval w with ⟨v, w', hr⟩ | ⟨w', hr⟩ | ⟨x, w', hr⟩
    · rw [hr] at hw ⊢
      exact hK _ _ hw
    · rw [hr] at hw ⊢
      exact hK _ _ hw
    · rw [hr] at hw ⊢
      cases x <;> first | exact hQ _ _ _ hw | exact hw
theorem wpAny_in {ops : Array Oper} (hpl : ∀ o ∈ ops.toList, plainO o = true) {md : Region.Mode} {Q Q' : Exit → Act → World → Prop} (hq : ∀ e a w, Q e a w → Q' e a w) (hlo : ¬ LetsOut Q) : ∀ (fuel : Nat) (listed : Array Bool) (a : Act) (w : World), wpAny P md ops Q fuel listed a w → wpAnyIn F n P md ops Q' fuel listed a w
  | 0, _, _, _, h => ⟨h.1, hq _ _ _ h.2⟩
  | fuel + 1, listed, a, w, h => by
    refine ⟨fun hr => hq _ _ _ (h.1 hr), fun i hi => ?_⟩
    have h2 := h.2 i hi
    unfold wpOp at h2
    unfold wpOpIn
    split at h2
    · rename_i hn
      rw [hn]
      exact wpAny_in hpl hq hlo fuel _ _ _ h2
    · rename_i o ho
      rw [ho]
      dsimp only
      have hp : plainO o = true := hpl o (by
        have := Array.mem_of_getElem? ho
        simpa using this)
      split at h2
      · rename_i hw
        rw [if_pos hw]
        rcases h2 with h2 | h2
        · exact plain_in hp (fun a w h => wpAny_in hpl hq hlo fuel _ a w h) hq h2
        · exact absurd h2.2 hlo
      · rename_i hw
        rw [if_neg hw]
        refine ⟨fun f hf => ?_, wpAny_in hpl hq hlo fuel _ _ _ h2⟩
        exfalso
        unfold plainO at hp
        unfold Oper.about at hf
        split at hp <;> first | contradiction | skip
        all_goals rename_i hop
        all_goals rw [hop] at hf
        all_goals simp at hf
end
end Go.Sx
