/- The symbolic executor: loops whose number of rounds is not known, by a contract for each. No program of the seat is named here. -/
import Derived.Test.YtdglgiaegjkinaaDoorEngJ
namespace Go.Sx
open Go Go.RowKit

/-! ### What is kept of a state -/
def SI.soft : SI → SI
  | .lit n => .sym n
  | .sym n => .sym n
def SB.soft : SB → SB
  | .lit n => .sym n
  | .sym n => .sym n
def SV.soft : SV → SV
  | .int k n => .int k n.soft
  | .bool b => .bool b.soft
  | v => v
def TV.soft : TV → TV
  | .one v => .one v.soft
  | .agg l => .agg (l.map SV.soft)
  | v => v
theorem SV.soft_den (f : Nat → Nat) (v : SV) : v.soft.den f = v.den f := by
  cases v with
  | int k n => cases n <;> rfl
  | bool b => cases b <;> rfl
  | _ => rfl
theorem TV.soft_den (f : Nat → Nat) (v : TV) : v.soft.den f = v.den f := by
  cases v with
  | one v => exact SV.soft_den f v
  | agg l =>
    have h : l.map (SV.den f ∘ SV.soft) = l.map (SV.den f) := List.map_congr_left fun v _ => SV.soft_den f v
    simp only [TV.soft, TV.den, dens, List.map_map, h]
  | _ => rfl
def softIf (q : Bool) (v : TV) : TV := match q with
  | true => v.soft
  | false => v
def softL (q : Bool) (l : List SV) : List SV := match q with
  | true => l.map SV.soft
  | false => l
theorem softIf_den (f : Nat → Nat) (q : Bool) (v : TV) : (softIf q v).den f = v.den f := by
  cases q
  · rfl
  · exact TV.soft_den f v
theorem softIf_un {q : Bool} {v : TV} (h : softIf q v ≠ .un) : v ≠ .un := by
  rintro rfl
  cases q <;> exact h rfl
theorem softL_get {q : Bool} {l : List SV} {i : Nat} {v : SV} (h : (softL q l)[i]? = some v) : ∃ u, l[i]? = some u ∧ ∀ f, v.den f = u.den f := by
  cases q with
  | false => exact ⟨v, h, fun _ => rfl⟩
  | true =>
    simp only [softL, List.getElem?_map, Option.map_eq_some_iff] at h
    obtain ⟨u, hu, rfl⟩ := h
    exact ⟨u, hu, fun f => SV.soft_den f u⟩
theorem softL_length (q : Bool) (l : List SV) : (softL q l).length = l.length := by
  cases q <;> simp [softL]

def pickS (S : Nat → Option TV) : List (Nat × Bool) → SL
  | [] => []
  | (t, q) :: r => match S t with
    | some v => (t, softIf q v) :: pickS S r
    | none => pickS S r
def pickB (M : Mem) : List (Nat × Bool) → Option (List (Nat × BI))
  | [] => some []
  | (b, q) :: r => match look M.blks b with
    | some i => match rangeC M.get b 0 i.init.length with
      | some l => match pickB M r with
        | some t => some ((b, ⟨i.elem, softL q l, i.rw⟩) :: t)
        | none => none
      | none => none
    | none => none

theorem pickS_look {S : Nat → Option TV} : ∀ {ks : List (Nat × Bool)} {t : Nat} {v : TV}, look (pickS S ks) t = some v → ∃ u q, S t = some u ∧ v = softIf q u
  | [], t, v, h => by simp [pickS, look] at h
  | (k, q) :: r, t, v, h => by
    simp only [pickS] at h
    split at h
    · rename_i u hu
      rw [look_cons] at h
      split at h
      · rename_i hk
        simp only [Option.some.injEq] at h
        subst hk h
        exact ⟨u, q, hu, rfl⟩
      · exact pickS_look h
    · exact pickS_look h
theorem pickS_rel {f : Nat → Nat} {S : Nat → Option TV} {a : Act} (h : SRel f S a) (ks : List (Nat × Bool)) : SRel f (look (pickS S ks)) a := by
  intro t v hv hne
  obtain ⟨u, q, hu, rfl⟩ := pickS_look hv
  rw [softIf_den]
  exact h t u hu (softIf_un hne)
theorem pickB_look {M : Mem} : ∀ {bs : List (Nat × Bool)} {Bl : List (Nat × BI)} {b : Nat} {i : BI}, pickB M bs = some Bl → look Bl b = some i →
    (∃ q, (b, q) ∈ bs) ∧ ∃ j l q, look M.blks b = some j ∧ rangeC M.get b 0 j.init.length = some l ∧ i = ⟨j.elem, softL q l, j.rw⟩
  | [], Bl, b, i, h, hl => by
    simp only [pickB, Option.some.injEq] at h
    subst h
    simp [look] at hl
  | (k, q) :: r, Bl, b, i, h, hl => by
    simp only [pickB] at h
    split at h <;> try contradiction
    rename_i j hj
    split at h <;> try contradiction
    rename_i l hrl
    split at h <;> try contradiction
    rename_i t ht
    simp only [Option.some.injEq] at h
    subst h
    rw [look_cons] at hl
    split at hl
    · rename_i hk
      simp only [Option.some.injEq] at hl
      subst hk hl
      exact ⟨⟨q, by simp⟩, j, l, q, hj, hrl, rfl⟩
    · obtain ⟨⟨q', h1⟩, h2⟩ := pickB_look ht hl
      exact ⟨⟨q', List.mem_cons_of_mem _ h1⟩, h2⟩

theorem pickB_ok {w0 : World} {X : Nat → Prop} {f : Nat → Nat} {M : Mem} {w : World} (h : MOk w0 X f M w) {bs : List (Nat × Bool)} {Bl : List (Nat × BI)} {N : Nat}
    (hp : pickB M bs = some Bl) (hN : allB (fun p => Nat.blt p.1 N) bs = true) : MOk w0 X f ⟨[], Bl, N⟩ w := by
  have hget : ∀ b o v, (⟨[], Bl, N⟩ : Mem).get b o = some v → ∃ i, look Bl b = some i ∧ i.init[o]? = some v := by
    intro b o v hv
    simp only [Mem.get, findC] at hv
    split at hv
    · rename_i i hi; exact ⟨i, hi, hv⟩
    · cases hv
  refine ⟨?_, ?_, ?_, ?_, ?_, ?_⟩
  · intro b i hi
    obtain ⟨_, j, l, q, hj, hl, rfl⟩ := pickB_look hp hi
    obtain ⟨arr, ha, hs⟩ := h.blk b j hj
    exact ⟨arr, ha, by rw [hs, softL_length, (rangeC_get hl).1]⟩
  · intro b o v hv
    obtain ⟨i, hi, hv⟩ := hget b o v hv
    obtain ⟨_, j, l, q, hj, hl, rfl⟩ := pickB_look hp hi
    obtain ⟨u, hu, hd⟩ := softL_get hv
    have h2 := (rangeC_get hl).2 o u hu
    rw [Nat.zero_add] at h2
    rw [hd f]
    exact h.cell b o u h2
  · intro b o v hv
    obtain ⟨i, hi, _⟩ := hget b o v hv
    exact ⟨i, hi⟩
  · intro b c i j hi hj hf
    obtain ⟨_, j1, _, _, h1, _, _⟩ := pickB_look hp hi
    obtain ⟨_, j2, _, _, h2, _, _⟩ := pickB_look hp hj
    exact h.inj b c j1 j2 h1 h2 hf
  · intro b i hi hrw
    obtain ⟨_, j, l, q, hj, hl, rfl⟩ := pickB_look hp hi
    exact h.own b j hj hrw
  · intro b i hi
    obtain ⟨⟨q, hm⟩, _⟩ := pickB_look hp hi
    exact lt_of_blt (allB_iff hN _ hm)

/-! ### Contracts of loops -/
structure LH where
  ks : List (Nat × Bool)
  bs : List (Nat × Bool)
  N : Nat
  F : SL → List (Nat × BI) → Option (SB × Ex × SL × List (Nat × BI))
inductive HT where
  | plain
  | seq (a b : HT)
  | block (a : HT)
  | cond (a b : HT)
  | loop (h : LH)

def noMem : Mem := ⟨[], [], 0⟩
def runL (P : Program) (W : World) (G : List (Nat × Spec)) (n nt : Nat) : HT → Code → SL → Mem → R
  | .plain, c, s, m => run P W G n (.code c) ⟨nt, [], noMem⟩ s m
  | .seq x y, .seq a b, s, m => (runL P W G n nt x a s m).bind fun s' m' => runL P W G n nt y b s' m'
  | .block x, .block id c, s, m => (runL P W G n nt x c s m).unblock id
  | .cond x y, .cond c a b, s, m => match evalO (look s) c with
    | some (.one (.bool (.lit true))) => runL P W G n nt x a s m
    | some (.one (.bool (.lit false))) => runL P W G n nt y b s m
    | some (.one (.bool (.sym q))) => .br q (runL P W G n nt x a s m) (runL P W G n nt y b s m)
    | _ => .fail
  | .loop h, .loop _, s, m => match Nat.beq m.next h.N && allB (fun p => Nat.blt p.1 h.N) h.bs with
    | true => match pickB m h.bs with
      | some Bl => match h.F (pickS (look s) h.ks) Bl with
        | some (vc, e, S', Bl') => .leaf e vc S' ⟨[], Bl', h.N⟩
        | none => .fail
      | none => .fail
    | false => .fail
  | _, _, _, _ => .fail

theorem on_noMem (m : Mem) : m.on noMem = m := by cases m; simp [Mem.on, noMem]
def LPost (W w0 : World) (X : Nat → Prop) (nt : Nat) (f : Nat → Nat) (n0 : Nat) (r : R) (e : Exit) (a : Act) (w : World) : Prop := Post W w0 X nt [] noMem f n0 r e a w

def LoopOk (W : World) (P : Program) (nt : Nat) (body : Code) (h : LH) : Prop :=
  ∀ (w0 : World) (X : Nat → Prop) (f : Nat → Nat) (a : Act) (w : World) (S : SL) (Bl : List (Nat × BI)) (vc : SB) (e : Ex) (S' : SL) (Bl' : List (Nat × BI)),
    h.F S Bl = some (vc, e, S', Bl') → vc.val = true → Rel W w0 X nt S ⟨[], Bl, h.N⟩ f a w →
    (Code.loop body).wp P (LPost W w0 X nt f h.N (.leaf e vc S' ⟨[], Bl', h.N⟩)) a w
def HOk (W : World) (P : Program) (nt : Nat) : HT → Code → Prop
  | .plain, _ => True
  | .seq x y, .seq a b => HOk W P nt x a ∧ HOk W P nt y b
  | .block x, .block _ c => HOk W P nt x c
  | .cond x y, .cond _ a b => HOk W P nt x a ∧ HOk W P nt y b
  | .loop h, .loop body => LoopOk W P nt body h
  | _, _ => True

section
variable {W w0 : World} {X : Nat → Prop} {P : Program} {G : List (Nat × Spec)}
theorem nogoodR {p : Prop} : R.fail.good → p := by
  rintro ⟨_, _, _, _, h, _⟩
  simp [R.get] at h

theorem runL_sound (hG : GOk W P G) {n nt : Nat} : ∀ (t : HT) (c : Code) (s : SL) (m : Mem) (f : Nat → Nat) (a : Act) (w : World), HOk W P nt t c → (runL P W G n nt t c s m).good → Rel W w0 X nt s m f a w →
    c.wp P (LPost W w0 X nt f m.next (runL P W G n nt t c s m)) a w := by
  intro t
  induction t with
  | plain =>
    intro c s m f a w _ hg hrel
    have h := (sound hG (fun n hS => draw_sound hG n hS) n).code w0 X c ⟨nt, [], noMem⟩ s m f a w hg (by rw [List.append_nil, on_noMem]; exact hrel)
    exact h
  | seq x y ihx ihy =>
    intro c s m f a w hh hg hrel
    cases c with
    | seq p q =>
      simp only [runL] at hg ⊢
      obtain ⟨h1, h2⟩ := good_bind hg
      refine wp_seq (wp_mono (ihx p s m f a w hh.1 h1 hrel) ?_)
      intro e a1 w1 hp
      cases e with
      | normal =>
        obtain ⟨ex, v, s1, m1, f1, hr, hex, hrel1, hext, hn⟩ := hp
        have : ex = .nrm := by cases ex <;> simp_all [exOf]
        subst this
        rw [List.append_nil, on_noMem] at hrel1
        refine wp_mono (ihy q s1 m1 f1 a1 w1 hh.2 (h2 v s1 m1 hr) hrel1) ?_
        intro e a2 w2 hq
        exact Post.bind_nrm hr hext hn hq
      | exit i => exact Post.bind_other hp (by simp)
      | goto l => exact Post.bind_other hp (by simp)
      | ret => exact Post.bind_other hp (by simp)
      | panic c => exact Post.bind_other hp (by simp)
      | outgrown => exact Post.bind_other hp (by simp)
    | _ => exact nogoodR hg
  | block x ihx =>
    intro c s m f a w hh hg hrel
    cases c with
    | block id p =>
      simp only [runL] at hg ⊢
      refine wp_block (wp_mono (ihx p s m f a w hh (good_unblock hg) hrel) ?_)
      intro e a1 w1 hp
      exact Post.unblock hp
    | _ => exact nogoodR hg
  | cond x y ihx ihy =>
    intro c s m f a w hh hg hrel
    cases c with
    | cond q p1 p2 =>
      simp only [runL] at hg ⊢
      split at hg
      · rename_i hc
        exact wp_cond_true (evalO_sound hrel.slots hc).1 (ihx p1 s m f a w hh.1 hg hrel)
      · rename_i hc
        exact wp_cond_false (evalO_sound hrel.slots hc).1 (ihy p2 s m f a w hh.2 hg hrel)
      · rename_i b hc
        have h1 := (evalO_sound hrel.slots hc).1
        simp only [TV.den, SV.den, SB.val_sym] at h1
        refine wp_cond_split h1 ?_ ?_
        · rintro rfl
          exact ihx p1 s m f a w hh.1 hg hrel
        · rintro rfl
          exact ihy p2 s m f a w hh.2 hg hrel
      · exact nogoodR hg
    | _ => exact nogoodR hg
  | loop h =>
    intro c s m f a w hh hg hrel
    cases c with
    | loop body =>
      simp only [runL] at hg ⊢
      split at hg <;> try exact nogoodR hg
      rename_i hb
      simp only [Bool.and_eq_true, Nat.beq_eq] at hb
      split at hg <;> try exact nogoodR hg
      rename_i Bl hB
      split at hg <;> try exact nogoodR hg
      rename_i vc e S' Bl' hF
      obtain ⟨_, _, _, _, hg1, hv⟩ := hg
      simp only [R.get, Option.some.injEq, Prod.mk.injEq] at hg1
      obtain ⟨rfl, rfl, rfl, rfl⟩ := hg1
      rw [hb.1]
      refine hh w0 X f a w _ Bl _ _ _ _ hF hv ?_
      exact ⟨hrel.size, hrel.defers, pickS_rel hrel.slots h.ks, pickB_ok hrel.mem hB hb.2, hrel.fr⟩
    | _ => exact nogoodR hg

/-! ### A contract by rounds -/
inductive RL where
  | fail
  | leaf (e : Ex) (vc : SB) (s : SL) (b : List (Nat × BI))
  | br (b : Bool) (x y : RL)
/-- What is kept of each leaf: behind a round that goes on 'ks', 'bs', behind another 'ke', 'be'. -/
def R.slim (N : Nat) (ks bs ke be : List (Nat × Bool)) : R → RL
  | .fail => .fail
  | .leaf .nrm vc s m => match pickB m bs with
    | some l => .leaf .nrm vc (pickS (look s) ks) l
    | none => .fail
  | .leaf e vc s m => match pickB m be with
    | some l => .leaf e vc (pickS (look s) ke) l
    | none => .fail
  | .br b x y => .br b (x.slim N ks bs ke be) (y.slim N ks bs ke be)
def Ex.sel {α : Type} (e : Ex) (a b : α) : α := match e with
  | .nrm => a
  | _ => b
theorem Ex.sel_ne {α : Type} {e : Ex} (h : e ≠ .nrm) (a b : α) : e.sel a b = b := by
  cases e <;> first | rfl | exact absurd rfl h
def RL.get : RL → Option (Ex × SB × SL × List (Nat × BI))
  | .fail => none
  | .leaf e vc s b => some (e, vc, s, b)
  | .br b x y => bif b then x.get else y.get
theorem slim_get {N : Nat} {ks bs ke be : List (Nat × Bool)} : ∀ {r : R} {e : Ex} {vc : SB} {S : SL} {B : List (Nat × BI)}, (r.slim N ks bs ke be).get = some (e, vc, S, B) →
    ∃ s m, r.get = some (e, vc, s, m) ∧ S = pickS (look s) (e.sel ks ke) ∧ pickB m (e.sel bs be) = some B
  | .fail, e, vc, S, B, h => by simp [R.slim, RL.get] at h
  | .leaf e0 v0 s0 m0, e, vc, S, B, h => by
    cases e0 with
    | nrm =>
      simp only [R.slim] at h
      split at h
      · rename_i l hl
        simp only [RL.get, Option.some.injEq, Prod.mk.injEq] at h
        obtain ⟨rfl, rfl, rfl, rfl⟩ := h
        exact ⟨s0, m0, rfl, rfl, hl⟩
      · simp [RL.get] at h
    | ret =>
      simp only [R.slim] at h
      split at h
      · rename_i l hl
        simp only [RL.get, Option.some.injEq, Prod.mk.injEq] at h
        obtain ⟨rfl, rfl, rfl, rfl⟩ := h
        exact ⟨s0, m0, rfl, rfl, hl⟩
      · simp [RL.get] at h
    | exit id =>
      simp only [R.slim] at h
      split at h
      · rename_i l hl
        simp only [RL.get, Option.some.injEq, Prod.mk.injEq] at h
        obtain ⟨rfl, rfl, rfl, rfl⟩ := h
        exact ⟨s0, m0, rfl, rfl, hl⟩
      · simp [RL.get] at h
    | res v =>
      simp only [R.slim] at h
      split at h
      · rename_i l hl
        simp only [RL.get, Option.some.injEq, Prod.mk.injEq] at h
        obtain ⟨rfl, rfl, rfl, rfl⟩ := h
        exact ⟨s0, m0, rfl, rfl, hl⟩
      · simp [RL.get] at h
  | .br b x y, e, vc, S, B, h => by
    simp only [R.slim, RL.get] at h
    cases b
    · obtain ⟨s, m, h1, h2⟩ := slim_get (r := y) h
      exact ⟨s, m, h1, h2⟩
    · obtain ⟨s, m, h1, h2⟩ := slim_get (r := x) h
      exact ⟨s, m, h1, h2⟩

theorem loop_by (hG : GOk W P G) {n nt : Nat} {body : Code} {h : LH} (t : HT) (ht : HOk W P nt t body) {π : Type} (Inv : π → Prop) (μ : π → Nat) (SP : π → SL) (BP : π → List (Nat × BI)) (fin : π → Ex × SL × List (Nat × BI))
    (ke be : List (Nat × Bool)) (hbs : allB (fun p => Nat.blt p.1 h.N) h.bs = true) (hbe : allB (fun p => Nat.blt p.1 h.N) be = true)
    (start : ∀ S Bl vc e S' Bl', h.F S Bl = some (vc, e, S', Bl') → vc.val = true → ∃ p, Inv p ∧ S = SP p ∧ Bl = BP p ∧ fin p = (e, S', Bl'))
    (step : ∀ p, Inv p → ∃ e vc S B, ((runL P W G n nt t body (SP p) ⟨[], BP p, h.N⟩).slim h.N h.ks h.bs ke be).get = some (e, vc, S, B) ∧ vc.val = true ∧
      ((e = .nrm ∧ ∃ p', Inv p' ∧ μ p' < μ p ∧ S = SP p' ∧ B = BP p' ∧ fin p' = fin p) ∨ (e ≠ .nrm ∧ (∀ v, e ≠ .res v) ∧ fin p = (e, S, B)))) : LoopOk W P nt body h := by
  intro w0 X f a w S Bl vc e S' Bl' hF hv hrel
  obtain ⟨p, hI, rfl, rfl, hfin⟩ := start S Bl vc e S' Bl' hF hv
  have key : ∀ (k : Nat) (q : π) (f1 : Nat → Nat) (a : Act) (w : World), μ q < k → Inv q → fin q = (e, S', Bl') → Ext h.N f f1 → Rel W w0 X nt (SP q) ⟨[], BP q, h.N⟩ f1 a w →
      Code.rounds P body (LPost W w0 X nt f h.N (.leaf e vc S' ⟨[], Bl', h.N⟩)) k a w := by
    intro k
    induction k with
    | zero => intro q f1 a w hk; omega
    | succ k ih =>
      intro q f1 a w hk hI hfin hext hrel
      rw [rounds_succ]
      obtain ⟨e1, v1, S1, B1, hg, hv1, hnext⟩ := step q hI
      obtain ⟨s1, m1, hg1, rfl, hB⟩ := slim_get hg
      refine wp_mono (runL_sound hG t body (SP q) ⟨[], BP q, h.N⟩ f1 a w ht ⟨_, _, _, _, hg1, hv1⟩ hrel) ?_
      rintro e2 a2 w2 ⟨ex, v2, s2, m2, f2, hr, hex, hrel2, hext2, hn⟩
      rw [hg1] at hr
      simp only [Option.some.injEq, Prod.mk.injEq] at hr
      obtain ⟨rfl, rfl, rfl, rfl⟩ := hr
      rw [List.append_nil, on_noMem] at hrel2
      have hext' : Ext h.N f f2 := hext.trans hext2 (Nat.le_refl _)
      rcases hnext with ⟨rfl, p', hI', hlt, hS, rfl, hfin'⟩ | ⟨hne, hnr, hf⟩
      · simp only [exOf, Option.some.injEq] at hex
        subst hex
        have hrel3 : Rel W w0 X nt (SP p') ⟨[], BP p', h.N⟩ f2 a2 w2 := by
          rw [← hS]
          exact ⟨hrel2.size, hrel2.defers, pickS_rel hrel2.slots h.ks, pickB_ok hrel2.mem hB hbs, hrel2.fr⟩
        exact ih p' f2 a2 w2 (by omega) hI' (hfin'.trans hfin) hext' hrel3
      · rw [Ex.sel_ne hne] at hf hB
        rw [hfin] at hf
        simp only [Prod.mk.injEq] at hf
        obtain ⟨rfl, rfl, rfl⟩ := hf
        have hrel3 : Rel W w0 X nt (pickS (look s1) ke) ⟨[], Bl', h.N⟩ f2 a2 w2 := ⟨hrel2.size, hrel2.defers, pickS_rel hrel2.slots ke, pickB_ok hrel2.mem hB hbe, hrel2.fr⟩
        have hpost : LPost W w0 X nt f h.N (.leaf e vc (pickS (look s1) ke) ⟨[], Bl', h.N⟩) e2 a2 w2 :=
          ⟨e, vc, _, _, f2, rfl, hex, by rw [List.append_nil, on_noMem]; exact hrel3, hext', Nat.le_refl _⟩
        cases e2 with
        | normal =>
          cases e <;> simp_all [exOf]
        | _ => exact hpost
  exact wp_loop_rounds (μ p + 1) (key (μ p + 1) p f a w (Nat.lt_succ_self _) hI hfin (.refl _ _) hrel)

/-! ### A function with such loops -/
def runF (P : Program) (W : World) (G : List (Nat × Spec)) (t : HT) (g : FuncId) (args : List TV) (m : Mem) : R :=
  match P.funcs[g]? with
  | some fn => match fn.body with
    | some c => match fn.name == "runtime.NumGoroutine" || !Nat.ble args.length fn.ntmps with
      | true => .fail
      | false => (runL P W G 100000 fn.ntmps t c (argSlots 0 args) m).results P fn.results.toList [] noMem
    | none => .fail
  | none => .fail
def FHOk (W : World) (P : Program) (t : HT) (g : FuncId) : Prop := ∀ fn c, P.funcs[g]? = some fn → fn.body = some c → HOk W P fn.ntmps t c
theorem runF_sound (hG : GOk W P G) {t : HT} {g : FuncId} (ht : FHOk W P t g) {args : List TV} {m : Mem} {f : Nat → Nat} {w : World} (hg : (runF P W G t g args m).good) (hm : MOk w0 X f m w) (hf : Fr W w0 X w) :
    Calls P g (args.map (TV.den f)).toArray w (FnPost W w0 X noMem f m.next (runF P W G t g args m)) := by
  unfold runF at hg ⊢
  split at hg <;> try exact nogoodR hg
  rename_i fn hfn
  split at hg <;> try exact nogoodR hg
  rename_i c hc
  split at hg <;> try exact nogoodR hg
  rename_i hcond
  simp only [Bool.or_eq_false_iff, Bool.not_eq_false', Nat.ble_eq] at hcond
  obtain ⟨ex, v, s1, m1, hr, hv⟩ := hg
  have hr' := hr
  rw [R.get_results] at hr
  have hgood : (runL P W G 100000 fn.ntmps t c (argSlots 0 args) m).good := by
    have leafvc : ∀ {vc s2 m2}, (resultLeaf P fn.results.toList [] noMem vc s2 m2).get = some (ex, v, s1, m1) → vc = v := by
      intro vc s2 m2 h
      unfold resultLeaf at h
      split at h
      · split at h
        · simp only [R.get, Option.some.injEq, Prod.mk.injEq] at h
          exact h.2.1
        · simp [R.get] at h
      · simp [R.get] at h
    split at hr <;> try contradiction
    · rename_i c2 s2 m2 h2; exact ⟨_, _, _, _, h2, by rw [leafvc hr]; exact hv⟩
    · rename_i c2 s2 m2 h2; exact ⟨_, _, _, _, h2, by rw [leafvc hr]; exact hv⟩
  refine calls_of_wp hfn hc (wp_mono (runL_sound hG t c (argSlots 0 args) m f _ w (ht fn c hfn hc) hgood (fn_rel (by simpa using hcond.2) hm hf)) ?_)
  rintro e a1 w1 ⟨ex2, v2, s2, m2, f2, hr2, hex, hrel, hext, hn⟩
  rw [hr2] at hr
  have fin : (resultLeaf P fn.results.toList [] noMem v2 s2 m2).get = some (ex, v, s1, m1) → a1.defers = [] ∧ ∃ u, (results fn a1.tmps).run P w1 = .ok u w1 ∧
      FnPost W w0 X noMem f m.next ((runL P W G 100000 fn.ntmps t c (argSlots 0 args) m).results P fn.results.toList [] noMem) (.returned u) w1 := by
    intro h
    unfold resultLeaf at h
    split at h
    · rename_i ps hps
      split at h
      · rename_i x hx
        simp only [R.get, Option.some.injEq, Prod.mk.injEq] at h
        obtain ⟨rfl, rfl, rfl, rfl⟩ := h
        obtain ⟨h1, h2⟩ := results_run (P := P) hrel.slots hrel.mem.cell hps hx
        exact ⟨hrel.defers, _, h1, x, _, _, _, f2, hr', h2, rfl, hrel.mem, hrel.fr, hext, hn⟩
      · simp [R.get] at h
    · simp [R.get] at h
  cases ex2 with
  | nrm => simp only [exOf, Option.some.injEq] at hex; subst hex; exact fin hr
  | ret => simp only [exOf, Option.some.injEq] at hex; subst hex; exact fin hr
  | exit i => simp at hr
  | res x => simp at hr

/-- As 'eval', with loops by contract. -/
def evalL (P : Program) (W : World) (G : List (Nat × Spec)) (t : HT) (g : FuncId) (args : List TV) : Option TV := (runF P W G t g args noMem).val
theorem calls_of_evalL (hG : GOk W P G) {t : HT} {g : FuncId} (ht : FHOk W P t g) {args : List TV} {v : TV} (h : evalL P W G t g args = some v) (w : World) (hW : Old W w) :
    Calls P g (args.map (TV.den fun _ => 0)).toArray w fun en w' => (∃ f, en = .returned (v.den f)) ∧ Below w.heap.size w w' := by
  obtain ⟨c, s, m, h1, h2⟩ := val_get h
  have hm : MOk w (fun _ => False) (fun _ => 0) noMem w := by
    refine ⟨?_, ?_, ?_, ?_, ?_, ?_⟩ <;> intro b <;> simp [noMem, look, Mem.get, findC]
  have hf : Fr W w (fun _ => False) w := ⟨rfl, rfl, rfl, Nat.le_refl _, fun _ _ _ => rfl, hW.base⟩
  refine (runF_sound hG ht ⟨_, _, _, _, h1, h2⟩ hm hf).mono ?_
  rintro en w1 ⟨x, v2, s2, m2, f2, hr, hne, rfl, hm2, hf2, _, _⟩
  rw [h1] at hr
  simp only [Option.some.injEq, Prod.mk.injEq] at hr
  obtain ⟨hr, _⟩ := hr
  injection hr with hr
  subst hr
  exact ⟨⟨f2, rfl⟩, ⟨hf2.os, hf2.tape, hf2.output, hf2.size, fun i hi => hf2.same i hi (by simp)⟩⟩
/-- .. its results merged into one. -/
def evalC (P : Program) (W : World) (G : List (Nat × Spec)) (t : HT) (g : FuncId) (args : List TV) : Option TV := ((runF P W G t g args noMem).collapse [] noMem).val
theorem calls_of_evalC (hG : GOk W P G) {t : HT} {g : FuncId} (ht : FHOk W P t g) {args : List TV} {v : TV} (h : evalC P W G t g args = some v) (w : World) (hW : Old W w) :
    Calls P g (args.map (TV.den fun _ => 0)).toArray w fun en w' => (∃ f, en = .returned (v.den f)) ∧ Below w.heap.size w w' := by
  obtain ⟨c, s, m, h1, h2⟩ := val_get h
  have hk : BKnown noMem := by
    intro b o v hv
    simp [noMem, Mem.get, findC, look] at hv
  obtain ⟨⟨e5, v5, s5, m5⟩, h5, hL⟩ := R.collapse_get hk _ h1
  have hm : MOk w (fun _ => False) (fun _ => 0) noMem w := by
    refine ⟨?_, ?_, ?_, ?_, ?_, ?_⟩ <;> intro b <;> simp [noMem, look, Mem.get, findC]
  have hf : Fr W w (fun _ => False) w := ⟨rfl, rfl, rfl, Nat.le_refl _, fun _ _ _ => rfl, hW.base⟩
  refine (runF_sound hG ht ⟨_, _, _, _, h5, hL.2.1.symm.trans h2⟩ hm hf).mono ?_
  rintro en w1 ⟨x, v2, s2, m2, f2, hr, hne, rfl, hm2, hf2, _, _⟩
  rw [h5] at hr
  simp only [Option.some.injEq, Prod.mk.injEq] at hr
  obtain ⟨rfl, _⟩ := hr
  rcases hL.1 with ⟨_, hno⟩ | ⟨u, u', hu, hu', hd⟩
  · exact absurd rfl (hno x)
  · simp only at hu hu'
    injection hu with hu
    injection hu' with hu'
    subst hu hu'
    obtain ⟨_, hden⟩ := hd f2 hne
    exact ⟨⟨f2, by rw [hden]⟩, ⟨hf2.os, hf2.tape, hf2.output, hf2.size, fun i hi => hf2.same i hi (by simp)⟩⟩
end

/-! ### A loop that is entered in a known state -/
section
open Classical
def sameSI : SI → SI → Bool
  | .lit a, .lit b => decide (a = b)
  | .sym a, .sym b => decide (a = b)
  | _, _ => false
def sameSB : SB → SB → Bool
  | .lit a, .lit b => decide (a = b)
  | .sym a, .sym b => decide (a = b)
  | _, _ => false
noncomputable def sameSV : SV → SV → Bool
  | .int k a, .int k' b => kindEq k k' && sameSI a b
  | .bool a, .bool b => sameSB a b
  | .ptr b o, .ptr c p => Nat.beq b c && Nat.beq o p
  | .str a, .str b => @decide (a = b) (propDecidable _)
  | .sl a n c, .sl a' n' c' => @decide (a = a') (propDecidable _) && (decide (n = n') && decide (c = c'))
  | .row b o n c, .row b' o' n' c' => Nat.beq b b' && Nat.beq o o' && (Nat.beq n n' && Nat.beq c c')
  | .nilP, .nilP => true
  | .nilF, .nilF => true
  | .nilI, .nilI => true
  | .nilM, .nilM => true
  | _, _ => false
noncomputable def sameL : List SV → List SV → Bool
  | [], [] => true
  | a :: l, b :: m => sameSV a b && sameL l m
  | _, _ => false
noncomputable def sameTV : TV → TV → Bool
  | .one a, .one b => sameSV a b
  | .agg l, .agg m => sameL l m
  | _, _ => false
noncomputable def sameS : SL → SL → Bool
  | [], [] => true
  | (t, a) :: l, (u, b) :: m => Nat.beq t u && (sameTV a b && sameS l m)
  | _, _ => false
noncomputable def sameB : List (Nat × BI) → List (Nat × BI) → Bool
  | [], [] => true
  | (t, a) :: l, (u, b) :: m => Nat.beq t u && (Nat.beq a.elem b.elem && (sameL a.init b.init && ((a.rw == b.rw) && sameB l m)))
  | _, _ => false
end
theorem sameSI_eq {a b : SI} (h : sameSI a b = true) : a = b := by
  cases a <;> cases b <;> simp_all [sameSI]
theorem sameSB_eq {a b : SB} (h : sameSB a b = true) : a = b := by
  cases a <;> cases b <;> simp_all [sameSB]
theorem kindEq_eq' {k k' : IntKind} (h : kindEq k k' = true) : k = k' := by
  cases k <;> cases k' <;> first | rfl | exact absurd h (by decide)
theorem sameSV_eq {a b : SV} (h : sameSV a b = true) : a = b := by
  cases a <;> cases b <;> simp only [sameSV, Bool.and_eq_true, Nat.beq_eq, decide_eq_true_eq] at h <;> first
    | exact absurd h (by decide)
    | rfl
    | (obtain ⟨h1, h2⟩ := h; rw [kindEq_eq' h1, sameSI_eq h2])
    | (rw [sameSB_eq h])
    | (rw [h])
    | (obtain ⟨⟨rfl, rfl⟩, rfl, rfl⟩ := h; rfl)
    | (obtain ⟨rfl, rfl, rfl⟩ := h; rfl)
    | (obtain ⟨rfl, rfl⟩ := h; rfl)
theorem sameL_eq : ∀ {l m : List SV}, sameL l m = true → l = m
  | [], [], _ => rfl
  | a :: l, b :: m, h => by
    simp only [sameL, Bool.and_eq_true] at h
    rw [sameSV_eq h.1, sameL_eq h.2]
  | [], _ :: _, h => by simp [sameL] at h
  | _ :: _, [], h => by simp [sameL] at h
theorem sameTV_eq {a b : TV} (h : sameTV a b = true) : a = b := by
  cases a <;> cases b <;> simp only [sameTV] at h <;> first
    | exact absurd h (by decide)
    | rw [sameSV_eq h]
    | rw [sameL_eq h]
theorem sameS_eq : ∀ {l m : SL}, sameS l m = true → l = m
  | [], [], _ => rfl
  | (t, a) :: l, (u, b) :: m, h => by
    simp only [sameS, Bool.and_eq_true, Nat.beq_eq] at h
    rw [h.1, sameTV_eq h.2.1, sameS_eq h.2.2]
  | [], _ :: _, h => by simp [sameS] at h
  | _ :: _, [], h => by simp [sameS] at h
theorem sameB_eq : ∀ {l m : List (Nat × BI)}, sameB l m = true → l = m
  | [], [], _ => rfl
  | (t, ⟨e, i, r⟩) :: l, (u, ⟨e', i', r'⟩) :: m, h => by
    simp only [sameB, Bool.and_eq_true, Nat.beq_eq, beq_iff_eq] at h
    obtain ⟨rfl, rfl, h1, rfl, h2⟩ := h
    rw [sameL_eq h1, sameB_eq h2]
  | [], _ :: _, h => by simp [sameB] at h
  | _ :: _, [], h => by simp [sameB] at h
def SV.plain : SV → Bool
  | .clo _ _ => false
  | .pa _ => false
  | _ => true
def TV.plain : TV → Bool
  | .one v => v.plain
  | .agg l => allB SV.plain l
  | _ => false
theorem kindEq_refl' (k : IntKind) : kindEq k k = true := by cases k <;> rfl
theorem sameSV_refl {v : SV} (h : v.plain = true) : sameSV v v = true := by
  cases v with
  | int k n => cases n <;> simp [sameSV, sameSI, kindEq_refl']
  | bool b => cases b <;> simp [sameSV, sameSB]
  | ptr b o => simp [sameSV]
  | clo _ _ => exact absurd h (by simp [SV.plain])
  | str a => exact @decide_eq_true _ (Classical.propDecidable _) rfl
  | sl a n c => simp [sameSV]
  | row b o n c => simp [sameSV]
  | pa _ => exact absurd h (by simp [SV.plain])
  | _ => rfl
theorem sameL_refl : ∀ {l : List SV}, allB SV.plain l = true → sameL l l = true
  | [], _ => rfl
  | v :: l, h => by
    have h1 := allB_iff h v (by simp)
    have h2 : allB SV.plain l = true := by
      simp only [allB] at h
      split at h <;> try contradiction
      exact h
    simp only [sameL, sameSV_refl h1, sameL_refl h2, Bool.and_self]
theorem sameTV_refl {v : TV} (h : v.plain = true) : sameTV v v = true := by
  cases v with
  | one v => exact sameSV_refl h
  | agg l => exact sameL_refl h
  | _ => exact absurd h (by simp [TV.plain])
theorem sameS_refl : ∀ {l : SL}, allB (fun p => p.2.plain) l = true → sameS l l = true
  | [], _ => rfl
  | (t, v) :: l, h => by
    have h1 := allB_iff h (t, v) (by simp)
    have h2 : allB (fun p : Nat × TV => p.2.plain) l = true := by
      simp only [allB] at h
      split at h <;> try contradiction
      exact h
    simp only [sameS, sameTV_refl h1, sameS_refl h2, Bool.and_self, Nat.beq_refl]
theorem sameB_refl : ∀ {l : List (Nat × BI)}, allB (fun p => allB SV.plain p.2.init) l = true → sameB l l = true
  | [], _ => rfl
  | (t, v) :: l, h => by
    have h1 := allB_iff h (t, v) (by simp)
    have h2 : allB (fun p : Nat × BI => allB SV.plain p.2.init) l = true := by
      simp only [allB] at h
      split at h <;> try contradiction
      exact h
    simp only [sameB, sameL_refl h1, sameB_refl h2, Bool.and_self, Nat.beq_refl, beq_self_eq_true]

/-- The loop is entered at (S0, B0), under 'c'; it is left at (e, S', B'). -/
noncomputable def LH.at_ (c : Bool) (ks bs : List (Nat × Bool)) (N : Nat) (S0 : SL) (B0 : List (Nat × BI)) (e : Ex) (S' : SL) (B' : List (Nat × BI)) : LH :=
  ⟨ks, bs, N, fun S B => some (.sym (c && (sameS S S0 && sameB B B0)), e, S', B')⟩
theorem loop_at {W : World} {P : Program} {G : List (Nat × Spec)} (hG : GOk W P G) {n nt : Nat} {body : Code} {c : Bool} {ks bs : List (Nat × Bool)} {N : Nat} {S0 : SL} {B0 : List (Nat × BI)} {e : Ex} {S' : SL} {B' : List (Nat × BI)}
    (t : HT) (ht : HOk W P nt t body) {π : Type} (Inv : π → Prop) (μ : π → Nat) (SP : π → SL) (BP : π → List (Nat × BI)) (fin : π → Ex × SL × List (Nat × BI))
    (ke be : List (Nat × Bool)) (hbs : allB (fun p => Nat.blt p.1 N) bs = true) (hbe : allB (fun p => Nat.blt p.1 N) be = true)
    (start : c = true → ∃ p, Inv p ∧ S0 = SP p ∧ B0 = BP p ∧ fin p = (e, S', B'))
    (step : ∀ p, Inv p → ∃ e vc S B, ((runL P W G n nt t body (SP p) ⟨[], BP p, N⟩).slim N ks bs ke be).get = some (e, vc, S, B) ∧ vc.val = true ∧
      ((e = .nrm ∧ ∃ p', Inv p' ∧ μ p' < μ p ∧ S = SP p' ∧ B = BP p' ∧ fin p' = fin p) ∨ (e ≠ .nrm ∧ (∀ v, e ≠ .res v) ∧ fin p = (e, S, B)))) : LoopOk W P nt body (LH.at_ c ks bs N S0 B0 e S' B') := by
  refine loop_by hG (h := LH.at_ c ks bs N S0 B0 e S' B') t ht Inv μ SP BP fin ke be hbs hbe ?_ step
  intro S Bl vc e1 S1 B1 hF hv
  simp only [LH.at_, Option.some.injEq, Prod.mk.injEq] at hF
  obtain ⟨rfl, rfl, rfl, rfl⟩ := hF
  simp only [SB.val_sym, Bool.and_eq_true] at hv
  obtain ⟨p, h1, h2, h3, h4⟩ := start hv.1
  exact ⟨p, h1, (sameS_eq hv.2.1).trans h2, (sameB_eq hv.2.2).trans h3, h4⟩
end Go.Sx
