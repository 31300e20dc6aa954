/- Loops in which own slices grow; functions that hand such a slice back. No program of the seat is named here. -/
import Derived.Test.YtdglgiaegjkinaaDoorGapB
namespace Go.Sx
open Go Go.RowKit

def RG.All (Φ : Ex → SB → SL → Mem → Gh → Prop) : RG → Prop
  | .fail => False
  | .leaf e vc s m g => Φ e vc s m g
  | .br b x y => (b = true → x.All Φ) ∧ (b = false → y.All Φ)
  | .any k => ∀ a n, (k a n).All Φ
  | .pick _ k => ∀ y, (k y).All Φ
theorem RG.All.good {Φ : Ex → SB → SL → Mem → Gh → Prop} (h : ∀ e vc s m g, Φ e vc s m g → vc.val = true) : ∀ {r : RG}, r.All Φ → r.Good
  | .fail, hr => hr
  | .leaf _ _ _ _ _, hr => h _ _ _ _ _ hr
  | .br _ _ _, hr => ⟨fun hb => (hr.1 hb).good h, fun hb => (hr.2 hb).good h⟩
  | .any _, hr => fun a n => (hr a n).good h
  | .pick _ _, hr => fun y => (hr y).good h
theorem RG.All.meet {Φ : Ex → SB → SL → Mem → Gh → Prop} {Ψ : Ex → SL → Mem → Gh → Prop} : ∀ {r : RG}, r.All Φ → r.Is Ψ → ∃ e vc s m g, Φ e vc s m g ∧ Ψ e s m g
  | .fail, _, h => h.elim
  | .leaf e vc s m g, h1, h2 => ⟨e, vc, s, m, g, h1, h2⟩
  | .br b _ _, h1, h2 => by
    cases b
    · exact (h1.2 rfl).meet (h2.2 rfl)
    · exact (h1.1 rfl).meet (h2.1 rfl)
  | .any _, h1, ⟨a, n, h2⟩ => (h1 a n).meet h2
  | .pick _ _, h1, ⟨y, h2⟩ => (h1 y).meet h2

def RG.slim (N : Nat) (ks bs ke be : List (Nat × Bool)) : RG → RG
  | .fail => .fail
  | .leaf e vc s m g => match pickB m (e.sel bs be) with
    | some l => .leaf e vc (pickS (look s) (e.sel ks ke)) ⟨[], l, N⟩ g
    | none => .fail
  | .br b x y => .br b (x.slim N ks bs ke be) (y.slim N ks bs ke be)
  | .any k => .any fun a n => (k a n).slim N ks bs ke be
  | .pick x k => .pick x fun y => (k y).slim N ks bs ke be
section
variable {W : Bs} {P : Program} {G : List (Nat × Spec)}
theorem slim_good {N : Nat} {ks bs ke be : List (Nat × Bool)} : ∀ {r : RG}, (r.slim N ks bs ke be).Good → r.Good
  | .fail, h => h
  | .leaf e vc s m g, h => by
    simp only [RG.slim] at h
    split at h
    · exact h
    · exact h.elim
  | .br _ _ _, h => ⟨fun hb => slim_good (h.1 hb), fun hb => slim_good (h.2 hb)⟩
  | .any _, h => fun a n => slim_good (h a n)
  | .pick _ _, h => fun y => slim_good (h y)
theorem slim_post {nt N : Nat} (hpn : ∀ i, W.pin = some i → 0 < N) {ks bs ke be : List (Nat × Bool)} (hbs : allB (fun p => Nat.blt p.1 N) bs = true) (hbe : allB (fun p => Nat.blt p.1 N) be = true) {e : Exit} {a : Act} {w : World} :
    ∀ {r : RG}, (r.slim N ks bs ke be).Good → GPost W nt r e a w → GPost W nt (r.slim N ks bs ke be) e a w
  | .fail, h, _ => h.elim
  | .leaf ex vc s m g, h, ⟨hex, f, hst⟩ => by
    cases hp : pickB m (ex.sel bs be) with
    | none =>
      simp only [RG.slim, hp] at h
      exact h.elim
    | some l =>
      simp only [RG.slim, hp]
      refine ⟨hex, f, hst.pick hp ?_ hpn _⟩
      cases ex <;> first | exact hbs | exact hbe
  | .br _ _ _, h, hp => ⟨fun hb => slim_post hpn hbs hbe (h.1 hb) (hp.1 hb), fun hb => slim_post hpn hbs hbe (h.2 hb) (hp.2 hb)⟩
  | .any _, h, ⟨x, n, hp⟩ => ⟨x, n, slim_post hpn hbs hbe (h x n) hp⟩
  | .pick _ _, h, ⟨y, hp⟩ => ⟨y, slim_post hpn hbs hbe (h y) hp⟩

/-- A loop by one round. -/
theorem loopG_core (hG : GOk W.W P G) {n nt N : Nat} {body : Code} {ks bs : List (Nat × Bool)} {π : Type} (Inv : π → Prop) (t : π → HG) (ht : ∀ p, Inv p → HGOk W P nt (t p) body) (μ : π → Nat) (SP : π → SL) (BP : π → List (Nat × BI)) (GP : π → Gh) (End : RG)
    (ke be : List (Nat × Bool)) (hbs : allB (fun p => Nat.blt p.1 N) bs = true) (hbe : allB (fun p => Nat.blt p.1 N) be = true)
    (step : ∀ p, Inv p → ((runG P W.W G n nt (t p) body (SP p) ⟨[], BP p, N⟩ (GP p)).slim N ks bs ke be).All fun e vc s m g => vc.val = true ∧
      ((e = .nrm ∧ ∃ p', Inv p' ∧ μ p' < μ p ∧ s = SP p' ∧ m = ⟨[], BP p', N⟩ ∧ g = GP p') ∨ (e ≠ .nrm ∧ ∀ f a w, GSt W nt s m g f a w → ∀ e', exOf e = some e' → GPost W nt End e' a w)))
    (p : π) (f : Nat → Nat) (a : Act) (w : World) (hI : Inv p) (hst : GSt W nt (SP p) ⟨[], BP p, N⟩ (GP p) f a w) (hpn : ∀ i, W.pin = some i → 0 < N) : (Code.loop body).wp P (GPost W nt End) a w := by
  have key : ∀ (k : Nat) (q : π) (f1 : Nat → Nat) (a : Act) (w : World), μ q < k → Inv q → GSt W nt (SP q) ⟨[], BP q, N⟩ (GP q) f1 a w → Code.rounds P body (GPost W nt End) k a w := by
    intro k
    induction k with
    | zero => intro q f1 a w hk; omega
    | succ k ih =>
      intro q f1 a w hk hI hst
      rw [rounds_succ]
      have hs := step q hI
      have hgd := RG.All.good (fun _ _ _ _ _ h => h.1) hs
      refine wp_mono (runG_sound hG (t q) body _ _ _ f1 a w (ht q hI) (slim_good hgd) hst) ?_
      intro e a2 w2 hp
      have hp2 := slim_post hpn hbs hbe hgd hp
      obtain ⟨ex, vc, s, m, g, ⟨_, hnext⟩, hex, f2, hst2⟩ := RG.All.meet hs hp2
      rcases hnext with ⟨rfl, p', hI', hlt, rfl, rfl, rfl⟩ | ⟨hne, hout⟩
      · simp only [exOf, Option.some.injEq] at hex
        subst hex
        exact ih p' f2 a2 w2 (by omega) hI' hst2
      · have hpost := hout f2 a2 w2 hst2 e hex
        cases e with
        | normal => cases ex <;> simp_all [exOf]
        | _ => exact hpost
  exact wp_loop_rounds (μ p + 1) (key (μ p + 1) p f a w (Nat.lt_succ_self _) hI hst)

/-- A whole function, from a memory that is known in part. -/
theorem calls_of_runX (hG : GOk W.W P G) {n : Nat} {g : FuncId} {fn : Func} {c : Code} (hfn : P.funcs[g]? = some fn) (hc : fn.body = some c) {t : HG} (ht : HGOk W P fn.ntmps t c) {args : List TV} (hle : args.length ≤ fn.ntmps) {R : TV → Mem → Gh → Prop} {N : Nat} {ks bs ke be : List (Nat × Bool)} (hbs : allB (fun p => Nat.blt p.1 N) bs = true) (hbe : allB (fun p => Nat.blt p.1 N) be = true)
    {m0 : Mem} {f0 : Nat → Nat} (hm : MOk W.w0 (fun i => ∃ b j, look m0.blks b = some j ∧ f0 b = i) f0 m0 W.w0) (hX : ∀ b j, look m0.blks b = some j → W.X (f0 b)) (hp0 : ∀ i, W.pin = some i → f0 0 = i ∧ 0 < m0.next) (hpn : ∀ i, W.pin = some i → 0 < N)
    (hres : ((runG P W.W G n fn.ntmps t c (argSlots 0 args) m0 []).slim N ks bs ke be).All fun e vc s m g => vc.val = true ∧ (e = .nrm ∨ e = .ret) ∧ ∃ ps v, resultsS P (look s) m fn.results.toList = some ps ∧ resultV ps = some v ∧ R v m g) :
    Calls P g (args.map (TV.den f0)).toArray W.w0 fun en w' => ∃ v m g f, R v m g ∧ en = .returned (v.den f) ∧ (∀ (q : Nat) (o : Own), g[q]? = some o → o.rel W.w0.heap.size w') ∧ Fr W.W W.w0 W.X w' ∧ MOk w' (fun i => ∃ b j, look m.blks b = some j ∧ f b = i) f m w' ∧ (∀ b j, look m.blks b = some j → W.w0.heap.size ≤ f b ∨ W.X (f b)) ∧ ∀ i, W.pin = some i → f 0 = i := by
  have hf : Fr W.W W.w0 (fun i => ∃ b j, look m0.blks b = some j ∧ f0 b = i) W.w0 := ⟨rfl, rfl, rfl, Nat.le_refl _, fun _ _ _ => rfl, W.base.old, fun i ⟨b, j, hj, hi⟩ => W.base.out i (hi ▸ hX b j hj)⟩
  have hr := fn_rel (nt := fn.ntmps) hle hm hf
  have hst : GSt W fn.ntmps (argSlots 0 args) m0 [] f0 { tmps := (args.map (TV.den f0)).toArray ++ Array.replicate (fn.ntmps - (args.map (TV.den f0)).toArray.size) undef, defers := [] } W.w0 := by
    refine ⟨hr.size, hr.defers, hr.slots, hm, fun b j hj => .inr (hX b j hj), ⟨rfl, rfl, rfl, Nat.le_refl _, fun _ _ _ => rfl, W.base⟩, hp0, ?_, ?_, ?_⟩
    · intro q o ho; simp at ho
    · intro q o ho; simp at ho
    · intro q q' o p ho; simp at ho
  have hgd := RG.All.good (fun _ _ _ _ _ h => h.1) hres
  refine calls_of_wp hfn hc (wp_mono (runG_sound hG t c _ _ _ _ _ W.w0 ht (slim_good hgd) hst) ?_)
  intro e a1 w1 hp1
  have hp := slim_post hpn hbs hbe hgd hp1
  obtain ⟨ex, vc, s, m, gh, ⟨_, hexx, ps, v, hps, hv, hR⟩, hex, f2, hst2⟩ := RG.All.meet hres hp
  obtain ⟨h1, h2⟩ := results_run (P := P) hst2.slots hst2.mem.cell hps hv
  have fin : a1.defers = [] ∧ ∃ u, (results fn a1.tmps).run P w1 = .ok u w1 ∧ ∃ v m g f, R v m g ∧ Ending.returned u = .returned (v.den f) ∧ (∀ (q : Nat) (o : Own), g[q]? = some o → o.rel W.w0.heap.size w1) ∧ Fr W.W W.w0 W.X w1 ∧ MOk w1 (fun i => ∃ b j, look m.blks b = some j ∧ f b = i) f m w1 ∧ (∀ b j, look m.blks b = some j → W.w0.heap.size ≤ f b ∨ W.X (f b)) ∧ ∀ i, W.pin = some i → f 0 = i :=
    ⟨hst2.defers, _, h1, v, m, gh, f2, hR, rfl, hst2.gh.own, hst2.fr, hst2.mem, hst2.base, fun i hi => (hst2.pin i hi).1⟩
  rcases hexx with rfl | rfl
  · simp only [exOf, Option.some.injEq] at hex
    subst hex
    exact fin
  · simp only [exOf, Option.some.injEq] at hex
    subst hex
    exact fin
/-- A whole function. -/
theorem calls_of_runG {W : World} (hG : GOk W P G) {n : Nat} {g : FuncId} {fn : Func} {c : Code} (hfn : P.funcs[g]? = some fn) (hc : fn.body = some c) {t : HG} (ht : HGOk W P fn.ntmps t c) {args : List TV} (hle : args.length ≤ fn.ntmps) {R : TV → Gh → Prop} {N : Nat} {ks bs ke be : List (Nat × Bool)} (hbs : allB (fun p => Nat.blt p.1 N) bs = true) (hbe : allB (fun p => Nat.blt p.1 N) be = true)
    (hres : ((runG P W G n fn.ntmps t c (argSlots 0 args) noMem []).slim N ks bs ke be).All fun e vc s m g => vc.val = true ∧ (e = .nrm ∨ e = .ret) ∧ ∃ ps v, resultsS P (look s) m fn.results.toList = some ps ∧ resultV ps = some v ∧ R v g) :
    Calls P g (args.map (TV.den fun _ => 0)).toArray W fun en w' => ∃ v g f, R v g ∧ en = .returned (v.den f) ∧ (∀ (q : Nat) (o : Own), g[q]? = some o → o.rel W.heap.size w') ∧ Below W.heap.size W w' := by
  have hm : MOk W (fun i => ∃ b j, look noMem.blks b = some j ∧ (fun _ => 0) b = i) (fun _ => 0) noMem W := by
    refine ⟨?_, ?_, ?_, ?_, ?_, ?_⟩ <;> intro b <;> simp [noMem, look, Mem.get, findC]
  refine (calls_of_runX (W := Bs.of W) hG hfn hc ht hle (R := fun v _ g => R v g) hbs hbe hm (fun b j hj => by simp [noMem, look] at hj) (fun i hi => by cases hi) (fun i hi => by cases hi) hres).mono ?_
  rintro en w' ⟨v, m, g, f, hR, he, ho, hf, _, _, _⟩
  exact ⟨v, g, f, hR, he, ho, hf.os, hf.tape, hf.output, hf.size, fun i hi => hf.same i hi (fun h => h)⟩
end

/-! ### What the kernel can check -/
def gapB (P : Program) (sp : GapSp) (ops : Array Oper) : Bool :=
  match ops.toList[sp.k]? with
  | some o => (match o.guard with | none => true | some _ => false) && (match o.dst with | some d => Nat.beq d sp.d | none => false) &&
      (match o.op with
      | .call ⟨.builtin .append, as, ts⟩ => (match as.toList with | [.tmp s, .tmp x] => Nat.beq s sp.s && Nat.beq x sp.x | _ => false) && (match ts.toList with | [t, u] => Nat.beq t sp.t && Nat.beq u sp.t | _ => false)
      | _ => false) &&
      (match P.underlying sp.t with | some (.slice e) => Nat.beq e sp.e | _ => false) &&
      (match P.info? sp.e with
      | some i => (match i.zero with | some z => Nat.beq z.cells.size sp.size | none => false) && Nat.beq i.size sp.size && Nat.beq i.bytes sp.bytes
      | none => false) && Nat.blt 0 sp.size
  | none => false
theorem gapB_ok {P : Program} {sp : GapSp} {ops : Array Oper} (h : gapB P sp ops = true) : GapOk P sp ops := by
  unfold gapB at h
  split at h <;> try contradiction
  rename_i o ho
  simp only [Bool.and_eq_true] at h
  obtain ⟨⟨⟨⟨⟨h1, h2⟩, h3⟩, h4⟩, h5⟩, h6⟩ := h
  split at h1 <;> try contradiction
  rename_i hg
  split at h2 <;> try contradiction
  rename_i d hd
  split at h3 <;> try contradiction
  rename_i as ts hop
  rw [Bool.and_eq_true] at h3
  obtain ⟨h7, h8⟩ := h3
  split at h7 <;> try contradiction
  rename_i s x has
  split at h8 <;> try contradiction
  rename_i t u hts
  split at h4 <;> try contradiction
  rename_i e he
  split at h5 <;> try contradiction
  rename_i i hi
  simp only [Bool.and_eq_true, Nat.beq_eq] at h5 h7 h8 h2 h4
  obtain ⟨⟨h9, h10⟩, h11⟩ := h5
  split at h9 <;> try contradiction
  rename_i z hz
  rw [Nat.beq_eq] at h9
  have e1 : as = #[.tmp s, .tmp x] := by rw [← Array.toArray_toList (xs := as), has]
  have e2 : ts = #[t, u] := by rw [← Array.toArray_toList (xs := ts), hts]
  refine ⟨o, ho, hg, by rw [hd, h2], ?_, by rw [he, h4], ⟨z, by rw [hi, Option.map_some, hz, h10, h11], h9⟩, lt_of_blt h6⟩
  rw [hop, e1, e2, h7.1, h7.2, h8.1, h8.2]
def hgB (P : Program) (nt : Nat) : HG → Code → Bool
  | .plain, _ => true
  | .seq x y, .seq a b => hgB P nt x a && hgB P nt y b
  | .block x, .block _ c => hgB P nt x c
  | .cond x y, .cond _ a b => hgB P nt x a && hgB P nt y b
  | .gap sp, .region _ ops _ => gapB P sp ops && Nat.blt sp.d nt
  | _, _ => false
theorem hgB_ok {W : Bs} {P : Program} {nt : Nat} : ∀ (t : HG) (c : Code), hgB P nt t c = true → HGOk W P nt t c := by
  intro t
  induction t with
  | plain => intro c _; exact trivial
  | seq x y ihx ihy =>
    intro c h
    cases c <;> simp only [hgB, Bool.and_eq_true, Bool.false_eq_true] at h
    exact ⟨ihx _ h.1, ihy _ h.2⟩
  | block x ih =>
    intro c h
    cases c <;> simp only [hgB, Bool.false_eq_true] at h
    exact ih _ h
  | cond x y ihx ihy =>
    intro c h
    cases c <;> simp only [hgB, Bool.and_eq_true, Bool.false_eq_true] at h
    exact ⟨ihx _ h.1, ihy _ h.2⟩
  | gap sp =>
    intro c h
    cases c <;> simp only [hgB, Bool.and_eq_true, Bool.false_eq_true] at h
    exact ⟨gapB_ok h.1, lt_of_blt h.2⟩
  | loop _ =>
    intro c h
    cases c <;> simp [hgB] at h
  | cust _ =>
    intro c h
    cases c <;> simp [hgB] at h

/-- A loop that is entered at (S0, B0, g0), under 'c', and comes to 'End'. -/
noncomputable def LG.at_ (c : Bool) (ks bs : List (Nat × Bool)) (N : Nat) (S0 : SL) (B0 : List (Nat × BI)) (g0 : Gh) (End : RG) : LG :=
  ⟨ks, bs, N, fun S B g => End.addVc (.sym (c && (sameS S S0 && (sameB B B0 && @decide (g = g0) (Classical.propDecidable _)))))⟩
theorem GSt.fresh {W : Bs} {nt : Nat} {s : SL} {m : Mem} {g : Gh} {f : Nat → Nat} {a : Act} {w : World} (h : GSt W nt s m g f a w) (e : TypeId) (size : Nat) : GSt W nt s m (g ++ [⟨e, size, none, 0, 0, []⟩]) f a w := by
  have hget : ∀ (q : Nat) (o : Own), (g ++ [(⟨e, size, none, 0, 0, []⟩ : Own)])[q]? = some o → g[q]? = some o ∨ o = ⟨e, size, none, 0, 0, []⟩ := by
    intro q o ho
    by_cases hq : q < g.length
    · rw [List.getElem?_append_left hq] at ho; exact .inl ho
    · rw [List.getElem?_append_right (by omega)] at ho
      right
      have := List.mem_of_getElem? ho
      simpa using this
  refine ⟨h.size, h.defers, h.slots, h.mem, h.base, h.fr, h.pin, ?_, ?_, ?_⟩
  · intro q o ho
    rcases hget q o ho with h1 | rfl
    · exact h.gh.own q o h1
    · exact World.ownsRow_nil _ _ _ _
  · intro q o ho k hk
    rcases hget q o ho with h1 | rfl
    · exact h.gh.off q o h1 k hk
    · cases hk
  · intro q q' o p ho hp hne k hk hk'
    rcases hget q o ho with h1 | rfl
    · rcases hget q' p hp with h2 | rfl
      · exact h.gh.two q q' o p h1 h2 hne k hk hk'
      · cases hk'
    · cases hk
section
variable {W : Bs} {P : Program} {G : List (Nat × Spec)}
theorem loopG_at (hG : GOk W.W P G) {n nt : Nat} {body : Code} {c : Bool} {ks bs : List (Nat × Bool)} {N : Nat} {S0 : SL} {B0 : List (Nat × BI)} {g0 : Gh} {End : RG} {π : Type} (Inv : π → Prop) (t : π → HG) (ht : ∀ p, Inv p → HGOk W P nt (t p) body) (μ : π → Nat)
    (SP : π → SL) (BP : π → List (Nat × BI)) (GP : π → Gh) (ke be : List (Nat × Bool)) (hbs : allB (fun p => Nat.blt p.1 N) bs = true) (hbe : allB (fun p => Nat.blt p.1 N) be = true) (hpn : ∀ i, W.pin = some i → 0 < N)
    (start : c = true → ∃ p, Inv p ∧ S0 = SP p ∧ B0 = BP p ∧ (GP p = g0 ∨ ∃ e size, GP p = g0 ++ [⟨e, size, none, 0, 0, []⟩]))
    (step : ∀ p, Inv p → ((runG P W.W G n nt (t p) body (SP p) ⟨[], BP p, N⟩ (GP p)).slim N ks bs ke be).All fun e vc s m g => vc.val = true ∧
      ((e = .nrm ∧ ∃ p', Inv p' ∧ μ p' < μ p ∧ s = SP p' ∧ m = ⟨[], BP p', N⟩ ∧ g = GP p') ∨ (e ≠ .nrm ∧ ∀ f a w, GSt W nt s m g f a w → ∀ e', exOf e = some e' → GPost W nt End e' a w))) :
    LoopGOk W P nt body (LG.at_ c ks bs N S0 B0 g0 End) := by
  intro S Bl g f a w hgood hst
  obtain ⟨h1, h2⟩ := RG.good_addVc hgood
  have h3 := h2 (RG.good_is h1)
  simp only [SB.val_sym, Bool.and_eq_true, decide_eq_true_eq] at h3
  obtain ⟨h4, h5, h6, h7⟩ := h3
  obtain ⟨p, hI, h8, h9, h10⟩ := start h4
  have e1 := sameS_eq h5
  have e2 := sameB_eq h6
  subst e1 e2 h7
  have hst' : GSt W nt (SP p) ⟨[], BP p, N⟩ (GP p) f a w := by
    rw [← h8, ← h9]
    rcases h10 with h10 | ⟨e, size, h10⟩
    · rw [h10]; exact hst
    · rw [h10]; exact hst.fresh e size
  exact wp_mono (loopG_core hG Inv t ht μ SP BP GP End ke be hbs hbe step p f a w hI hst' hpn) (fun e a w hp => RG.is_addVc hp)
/-- One round, as a word. -/
structure StepOk (W : Bs) (P : Program) (G : List (Nat × Spec)) (n nt : Nat) (t : HG) (body : Code) (N : Nat) (ks bs ke be : List (Nat × Bool)) {π : Type} (Inv : π → Prop) (μ : π → Nat) (SP : π → SL) (BP : π → List (Nat × BI)) (GP : π → Gh) (End : RG) : Prop where
  step : ∀ p, Inv p → ((runG P W.W G n nt t body (SP p) ⟨[], BP p, N⟩ (GP p)).slim N ks bs ke be).All fun e vc s m g => vc.val = true ∧
      ((e = .nrm ∧ ∃ p', Inv p' ∧ μ p' < μ p ∧ s = SP p' ∧ m = ⟨[], BP p', N⟩ ∧ g = GP p') ∨ (e ≠ .nrm ∧ ∀ f a w, GSt W nt s m g f a w → ∀ e', exOf e = some e' → GPost W nt End e' a w))
theorem loopG_step (hG : GOk W.W P G) {n nt : Nat} {body : Code} {c : Bool} {ks bs : List (Nat × Bool)} {N : Nat} {S0 : SL} {B0 : List (Nat × BI)} {g0 : Gh} {End : RG} {t : HG} (ht : HGOk W P nt t body) {π : Type} {Inv : π → Prop} {μ : π → Nat}
    {SP : π → SL} {BP : π → List (Nat × BI)} {GP : π → Gh} {ke be : List (Nat × Bool)} (hbs : allB (fun p => Nat.blt p.1 N) bs = true) (hbe : allB (fun p => Nat.blt p.1 N) be = true)
    (hst : StepOk W P G n nt t body N ks bs ke be Inv μ SP BP GP End)
    (start : c = true → ∃ p, Inv p ∧ S0 = SP p ∧ B0 = BP p ∧ (GP p = g0 ∨ ∃ e size, GP p = g0 ++ [⟨e, size, none, 0, 0, []⟩])) (hpn : ∀ i, W.pin = some i → 0 < N := by (intro i hi; first | (cases hi; done) | decide)) :
    LoopGOk W P nt body (LG.at_ c ks bs N S0 B0 g0 End) := loopG_at hG Inv (fun _ => t) (fun _ _ => ht) μ SP BP GP ke be hbs hbe hpn start hst.step
/-- One round, as a word; the tree may differ from round to round. -/
structure StepOkT (W : Bs) (P : Program) (G : List (Nat × Spec)) (n nt : Nat) (body : Code) (N : Nat) (ks bs ke be : List (Nat × Bool)) {π : Type} (t : π → HG) (Inv : π → Prop) (μ : π → Nat) (SP : π → SL) (BP : π → List (Nat × BI)) (GP : π → Gh) (End : RG) : Prop where
  step : ∀ p, Inv p → ((runG P W.W G n nt (t p) body (SP p) ⟨[], BP p, N⟩ (GP p)).slim N ks bs ke be).All fun e vc s m g => vc.val = true ∧
      ((e = .nrm ∧ ∃ p', Inv p' ∧ μ p' < μ p ∧ s = SP p' ∧ m = ⟨[], BP p', N⟩ ∧ g = GP p') ∨ (e ≠ .nrm ∧ ∀ f a w, GSt W nt s m g f a w → ∀ e', exOf e = some e' → GPost W nt End e' a w))
theorem loopG_stepT (hG : GOk W.W P G) {n nt : Nat} {body : Code} {c : Bool} {ks bs : List (Nat × Bool)} {N : Nat} {S0 : SL} {B0 : List (Nat × BI)} {g0 : Gh} {End : RG} {π : Type} {t : π → HG} {Inv : π → Prop} (ht : ∀ p, Inv p → HGOk W P nt (t p) body) {μ : π → Nat}
    {SP : π → SL} {BP : π → List (Nat × BI)} {GP : π → Gh} {ke be : List (Nat × Bool)} (hbs : allB (fun p => Nat.blt p.1 N) bs = true) (hbe : allB (fun p => Nat.blt p.1 N) be = true)
    (hst : StepOkT W P G n nt body N ks bs ke be t Inv μ SP BP GP End)
    (start : c = true → ∃ p, Inv p ∧ S0 = SP p ∧ B0 = BP p ∧ (GP p = g0 ∨ ∃ e size, GP p = g0 ++ [⟨e, size, none, 0, 0, []⟩])) (hpn : ∀ i, W.pin = some i → 0 < N := by (intro i hi; first | (cases hi; done) | decide)) :
    LoopGOk W P nt body (LG.at_ c ks bs N S0 B0 g0 End) := loopG_at hG Inv t ht μ SP BP GP ke be hbs hbe hpn start hst.step
end
end Go.Sx
