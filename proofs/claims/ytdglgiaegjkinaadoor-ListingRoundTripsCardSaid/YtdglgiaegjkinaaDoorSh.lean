/- The rest of a function, told out of the world as it is there. -/
import Derived.Test.YtdglgiaegjkinaaDoorPb
namespace Go.Proofs.YtdglgiaegjkinaaDoor
open Go Go.Sx Go.RowKit
set_option maxRecDepth 100000
/-- A tree all of whose leaves return 'B' in the slot 'd'. -/
structure RetIs (d : Nat) (B : Bool) (r : RG) : Prop where
  h : r.All fun e vc s2 _ _ => vc.val = true ∧ (e = .ret ∧ ∃ b, Sx.look s2 d = some (.one (.bool b)) ∧ b.val = B)
theorem shift_wp {W : Bs} (hpin : W.pin = none) {P : Program} {nt : Nat} {s : SL} {m : Mem} {g : Gh} {f : Nat → Nat} {a : Act} {w : World} (h : GSt W nt s m g f a w) {c : Code} {s' : SL} (hs : ∀ p ∈ s', ∃ v', Sx.look s p.1 = some v' ∧ v' ≠ .un ∧ v'.den f = p.2.den f)
    {G : List (Nat × Sx.Spec)} (hG : GOk w P G) {t : HG} (ht : HGOk (w : Bs) P nt t c) {N d : Nat} {B : Bool} {vc : SB}
    (hall : RetIs d B (runG P w G N nt t c s' ⟨[], [], 0⟩ [])) :
    c.wp P (GPost W nt (.leaf .ret vc [(d, .one (.bool (.sym B)))] ⟨[], [], m.next⟩ [])) a w := by
  have hst : GSt (w : Bs) nt s' ⟨[], [], 0⟩ [] f a w := by
    refine ⟨h.size, h.defers, ?_, ?_, fun b j hj => by simp [Sx.look] at hj, ⟨rfl, rfl, rfl, Nat.le_refl _, fun _ _ _ => rfl, (Old.refl w).base⟩, fun i hi => (by cases hi), ?_, ?_, ?_⟩
    · intro k v hv hne
      obtain ⟨v', h1, h2, h3⟩ := hs (k, v) (mem_of_look hv)
      rw [h.slots k v' h1 h2, h3]
    · refine ⟨?_, ?_, ?_, ?_, ?_, ?_⟩ <;> intro b <;> simp [Sx.look, Mem.get, findC]
    · intro q o ho; simp at ho
    · intro q o ho; simp at ho
    · intro q q' o p ho; simp at ho
  have hgd := RG.All.good (fun _ _ _ _ _ h => h.1) hall.h
  refine wp_mono (runG_sound (W := (w : Bs)) hG t c _ _ _ f a w ht hgd hst) ?_
  intro e a1 w1 hp
  obtain ⟨ex, vc2, s2, m2, g2, ⟨_, rfl, b, hb, hB⟩, hex, f2, hst2⟩ := RG.All.meet hall.h hp
  refine ⟨hex, f2, ?_⟩
  refine ⟨hst2.size, hst2.defers, ?_, ?_, fun b j hj => by simp [Sx.look] at hj, ?_, fun i hi => (by rw [hpin] at hi; cases hi), ?_, ?_, ?_⟩
  · intro k v hv hne
    simp only [Sx.look] at hv
    split at hv
    · rename_i hk
      simp only [Option.some.injEq] at hv
      subst hv
      have : d = k := by first | exact hk | (rw [Nat.beq_eq] at hk; exact hk)
      subst this
      rw [hst2.slots d _ hb (by simp)]
      show Value.bool b.val = Value.bool B
      rw [hB]
    · simp at hv
  · refine ⟨?_, ?_, ?_, ?_, ?_, ?_⟩ <;> intro b <;> simp [Sx.look, Mem.get, findC]
  · exact ⟨hst2.fr.os.trans h.fr.os, hst2.fr.tape.trans h.fr.tape, hst2.fr.output.trans h.fr.output, Nat.le_trans h.fr.size hst2.fr.size, fun k hk hx => (hst2.fr.same k (Nat.lt_of_lt_of_le hk h.fr.size) (fun h => h)).trans (h.fr.same k hk hx), W.base⟩
  · intro q o ho; simp at ho
  · intro q o ho; simp at ho
  · intro q q' o p ho; simp at ho
def leafR : RG → Option (SB × SL)
  | .leaf .ret vc s _ _ => some (vc, s)
  | _ => none
theorem leafR_all {r : RG} {d : Nat} {vc : SB} {v : Option TV} (h : (leafR r).map (fun p => (p.1, Sx.look p.2 d)) = some (vc, v)) (hvc : vc.val = true) {B : Bool} {b : SB} (hv : v = some (.one (.bool b))) (hB : b.val = B) : RetIs d B r := by
  unfold leafR at h
  split at h
  · simp only [Option.map_some, Option.some.injEq, Prod.mk.injEq] at h
    obtain ⟨rfl, h2⟩ := h
    exact ⟨⟨hvc, rfl, b, by rw [h2, hv], hB⟩⟩
  · cases h
/-- The bytes of a row, as they came in. -/
theorem RowZ.inL {w : World} {a : Option Addr} {n c : Nat} {l : List Int} (h : RowZ w a n c l) : inL w a n = l := by
  have hl := h.len
  apply List.ext_getElem?
  intro j
  unfold Go.Proofs.YtdglgiaegjkinaaDoor.inL
  rw [List.getElem?_map]
  rcases Nat.lt_or_ge j n with h1 | h1
  · rw [List.getElem?_range h1, Option.map_some, (h.rd h1).2, List.getD_eq_getElem?_getD, List.getElem?_eq_getElem (by omega)]
    rfl
  · rw [List.getElem?_eq_none (by simp; omega), List.getElem?_eq_none (by omega)]
    rfl
end Go.Proofs.YtdglgiaegjkinaaDoor
