/- Loops of a known number of rounds, unrolled; the rest of a code, told out of the world as it is there, that goes on. -/
import Derived.Test.YtdglgiaegjkinaaDoorPr
import Derived.LoopN
namespace Go.Proofs.YtdglgiaegjkinaaDoor
open Go Go.Sx Go.RowKit
set_option maxRecDepth 100000
section
variable {W : Bs} {P : Program} {G : List (Nat × Sx.Spec)}
/-- A loop, unrolled. -/
noncomputable def loopU (P : Program) (W : World) (G : List (Nat × Sx.Spec)) (N nt : Nat) (t : HG) (c : Code) : Nat → SL → Mem → Gh → RG
  | 0, _, _, _ => .fail
  | n + 1, s, m, g => (runG P W G N nt t c s m g).bind (loopU P W G N nt t c n)
theorem rounds_mono {c : Code} {Q Q' : Exit → Act → World → Prop} (h : ∀ e a w, Q e a w → Q' e a w) : ∀ (n : Nat) (a : Act) (w : World), Code.rounds P c Q n a w → Code.rounds P c Q' n a w
  | 0, _, _, h1 => h1
  | n + 1, a, w, h1 => by
    rw [rounds_succ] at h1 ⊢
    refine wp_mono h1 ?_
    intro e a1 w1 h2
    cases e with
    | normal => exact rounds_mono h n a1 w1 h2
    | _ => exact h _ _ _ h2
theorem loopU_rounds (hG : GOk W.W P G) {N nt : Nat} {t : HG} {c : Code} (ht : HGOk W P nt t c) : ∀ (n : Nat) (s : SL) (m : Mem) (g : Gh) (f : Nat → Nat) (a : Act) (w : World), (loopU P W.W G N nt t c n s m g).Good → GSt W nt s m g f a w →
    Code.rounds P c (GPost W nt (loopU P W.W G N nt t c n s m g)) n a w
  | 0, _, _, _, _, _, _, hg, _ => hg.elim
  | n + 1, s, m, g, f, a, w, hg, h => by
    rw [rounds_succ]
    unfold loopU at hg ⊢
    refine wp_mono (runG_sound hG t c s m g f a w ht (RG.good_of_bind hg) h) ?_
    intro e a1 w1 hp
    cases e with
    | normal =>
      obtain ⟨s1, m1, g1, f1, h1, hgood, hlift⟩ := bind_leaf hg hp
      exact rounds_mono hlift n a1 w1 (loopU_rounds hG ht n s1 m1 g1 f1 a1 w1 hgood h1)
    | exit i => exact bind_other (by simp) hp
    | goto l => exact bind_other (by simp) hp
    | ret => exact bind_other (by simp) hp
    | panic c => exact bind_other (by simp) hp
    | outgrown => exact bind_other (by simp) hp
theorem loopU_ok (hG : GOk W.W P G) {N nt : Nat} {t : HG} {c : Code} (ht : HGOk W P nt t c) (n : Nat) : CustOk W P nt (.loop c) (loopU P W.W G N nt t c n) := by
  intro s m g f a w hg h
  exact wp_loop_rounds n (loopU_rounds hG ht n s m g f a w hg h)
/-- Values that bear no block. -/
def Free (v : TV) : Prop := v ≠ .un ∧ ∀ f f' : Nat → Nat, v.den f = v.den f'
/-- A tree all of whose leaves go on with the slots 'out'. -/
structure GoesOn (out : SL) (r : RG) : Prop where
  h : r.All fun e vc s2 _ _ => vc.val = true ∧ (e = .nrm ∧ ∀ p ∈ out, ∃ v', Sx.look s2 p.1 = some v' ∧ v' ≠ .un ∧ ∀ f f', v'.den f = p.2.den f')
theorem shift_on (hpin : W.pin = none) {nt : Nat} {s : SL} {m : Mem} {g : Gh} {f : Nat → Nat} {a : Act} {w : World} (h : GSt W nt s m g f a w) {c : Code} {s' : SL} (hs : ∀ p ∈ s', ∃ v', Sx.look s p.1 = some v' ∧ v' ≠ .un ∧ v'.den f = p.2.den f)
    {G : List (Nat × Sx.Spec)} (hG : GOk w P G) {t : HG} (ht : HGOk (w : Bs) P nt t c) {N : Nat} {vc : SB} {out : SL}
    (hall : GoesOn out (runG P w G N nt t c s' ⟨[], [], 0⟩ [])) :
    c.wp P (GPost W nt (.leaf .nrm vc out ⟨[], [], m.next⟩ [])) a w := by
  have hst : GSt (w : Bs) nt s' ⟨[], [], 0⟩ [] f a w := by
    refine ⟨h.size, h.defers, ?_, ?_, fun b j hj => by simp [Sx.look] at hj, ⟨rfl, rfl, rfl, Nat.le_refl _, fun _ _ _ => rfl, (Old.refl w).base⟩, fun i hi => (by cases hi), ?_, ?_, ?_⟩
    · intro k v hv hne
      obtain ⟨v', h1, h2, h3⟩ := hs (k, v) (mem_of_look hv)
      rw [h.slots k v' h1 h2, h3]
    · refine ⟨?_, ?_, ?_, ?_, ?_, ?_⟩ <;> intro b <;> simp [Sx.look, Mem.get, findC]
    · intro q o ho; simp at ho
    · intro q o ho; simp at ho
    · intro q q' o p ho; simp at ho
  have hgd := RG.All.good (fun _ _ _ _ _ h => h.1) hall.h
  refine wp_mono (runG_sound (W := (w : Bs)) hG t c _ _ _ f a w ht hgd hst) ?_
  intro e a1 w1 hp
  obtain ⟨ex, vc2, s2, m2, g2, ⟨_, rfl, hout⟩, hex, f2, hst2⟩ := RG.All.meet hall.h hp
  refine ⟨hex, f2, ?_⟩
  refine ⟨hst2.size, hst2.defers, ?_, ?_, fun b j hj => by simp [Sx.look] at hj, ?_, fun i hi => (by rw [hpin] at hi; cases hi), ?_, ?_, ?_⟩
  · intro k v hv hne
    obtain ⟨v', h1, h2, h3⟩ := hout (k, v) (mem_of_look hv)
    rw [hst2.slots k v' h1 h2, h3 f2 f2]
  · refine ⟨?_, ?_, ?_, ?_, ?_, ?_⟩ <;> intro b <;> simp [Sx.look, Mem.get, findC]
  · exact ⟨hst2.fr.os.trans h.fr.os, hst2.fr.tape.trans h.fr.tape, hst2.fr.output.trans h.fr.output, Nat.le_trans h.fr.size hst2.fr.size, fun k hk hx => (hst2.fr.same k (Nat.lt_of_lt_of_le hk h.fr.size) (fun h => h)).trans (h.fr.same k hk hx), W.base⟩
  · intro q o ho; simp at ho
  · intro q o ho; simp at ho
  · intro q q' o p ho; simp at ho
end
end Go.Proofs.YtdglgiaegjkinaaDoor
