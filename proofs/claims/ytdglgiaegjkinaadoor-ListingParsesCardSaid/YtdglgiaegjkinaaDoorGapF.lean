/- New blocks that a call lays, as blocks of the executor's; slices that are built, as own ones. No program of the seat is named here. -/
import Derived.Test.YtdglgiaegjkinaaDoorNbf
namespace Go.Sx
open Go Go.RowKit
section
variable {W : Bs} {P : Program} {G : List (Nat × Spec)}
theorem GSt.laid {nt : Nat} {s : SL} {m : Mem} {g : Gh} {f : Nat → Nat} {a : Act} {w w' : World} (h : GSt W nt s m g f a w) {t : TypeId} {l : List SV} {j : Nat} (hL : LaidAt w w' j (dens f l) t) (hs : ltS m.next s = true) (hm : ltM m.next m = true) (hl : allB (SV.lt m.next) l = true)
    {d : Nat} (hd : d < nt) {v : TV} {u : Value} (hv : u = v.den (fun k => if k = m.next then j else f k)) :
    GSt W nt (putS (some d) v s) ⟨m.cells, (m.next, ⟨t, l, true⟩) :: m.blks, m.next + 1⟩ g (fun k => if k = m.next then j else f k) (a.put (some d) u) w' := by
  have hext : Ext m.next f (fun k => if k = m.next then j else f k) := fun b hb => by simp [Nat.ne_of_lt hb]
  have hm0 : MOk w (fun i => ∃ b j, look m.blks b = some j ∧ f b = i) f ⟨m.cells, m.blks, m.next + 1⟩ w := ⟨h.mem.blk, h.mem.cell, h.mem.known, h.mem.inj, h.mem.own, fun b i hi => Nat.lt_succ_of_lt (h.mem.lt b i hi)⟩
  have hnone : look m.blks m.next = none := by
    cases hh : look m.blks m.next with
    | none => rfl
    | some i => exact absurd (h.mem.lt _ _ hh) (Nat.lt_irrefl _)
  obtain ⟨h1, _⟩ := hm0.newAt h.rel.fr hL hnone (Nat.lt_succ_self _) (fun b o v hv => SV.lt_den (ltM_get hm hv) hext) (denL_lt hl hext)
  have hsl : SRel (fun k => if k = m.next then j else f k) (look s) a := by
    intro k y hy hne
    rw [h.slots k y hy hne]
    exact (TV.lt_den (ltS_look hs hy) hext).symm
  have hnew : ∀ b i, look ((m.next, (⟨t, l, true⟩ : BI)) :: m.blks) b = some i → (b = m.next ∧ (if b = m.next then j else f b) = j) ∨ ∃ i', look m.blks b = some i' ∧ (if b = m.next then j else f b) = f b := by
    intro b i hi
    rw [look_cons] at hi
    split at hi
    · rename_i hb
      exact .inl ⟨hb.symm, by rw [if_pos hb.symm]⟩
    · rename_i hb
      exact .inr ⟨i, hi, if_neg (fun e => hb e.symm)⟩
  refine ⟨by simp [Act.put, h.size], by simp [Act.put, h.defers], hsl.put h.size (by simp [dstOk, Nat.blt]; omega) (.inr hv), ?_, ?_, ?_, ?_, ?_, ?_, h.gh.two⟩
  · exact ⟨h1.blk, h1.cell, h1.known, h1.inj, fun b i hi _ => .inr ⟨b, i, hi, rfl⟩, h1.lt⟩
  · intro b i hi
    rcases hnew b i hi with ⟨_, h2⟩ | ⟨i', h2, h3⟩
    · left
      show _ ≤ (if b = m.next then j else f b)
      rw [h2]
      exact Nat.le_trans h.fr.size hL.ge
    · show _ ≤ (if b = m.next then j else f b) ∨ W.X (if b = m.next then j else f b)
      rw [h3]
      exact h.base b i' h2
  · exact ⟨hL.os.trans h.fr.os, hL.tape.trans h.fr.tape, hL.output.trans h.fr.output, Nat.le_trans h.fr.size hL.size, fun k hk hx => (hL.same k (Nat.lt_of_lt_of_le hk h.fr.size)).trans (h.fr.same k hk hx), W.base⟩
  · intro i hi
    obtain ⟨h2, h3⟩ := h.pin i hi
    exact ⟨by rw [← h2]; exact if_neg (by omega), Nat.lt_succ_of_lt h3⟩
  · intro q o ho
    exact World.ownsRow.same (h.gh.own q o ho) (fun k hk => hL.same k (World.ownsRow.lt (h.gh.own q o ho) k hk).2)
  · intro q o ho k hk b i hi
    have hlt := (World.ownsRow.lt (h.gh.own q o ho) k hk).2
    show (if b = m.next then j else f b) ≠ k
    rcases hnew b i hi with ⟨_, h2⟩ | ⟨i', h2, h3⟩
    · rw [h2]
      have := hL.ge
      omega
    · rw [h3]
      exact h.gh.off q o ho k hk b i' h2
theorem GSt.callOwnV {nt : Nat} {s : SL} {m : Mem} {g : Gh} {f : Nat → Nat} {a : Act} {w w' : World} (h : GSt W nt s m g f a w) (hb : Below w.heap.size w w') {d : Nat} (hd : d < nt) {o : Own} (hown : w'.ownsRow w.heap.size o.e o.size o.v o.n o.vals) {v : TV} {u : Value} (hv : u = v.den f) :
    GSt W nt (putS (some d) v s) m (g ++ [o]) f (a.put (some d) u) w' := by
  have h0 := h.callOwn hb hd hown
  have h1 := h.call hb hd hv
  exact ⟨h1.size, h1.defers, h1.slots, h1.mem, h1.base, h1.fr, h1.pin, h0.gh⟩
/-- A slice built of one integer, as an own one. -/
noncomputable def bld1 (e x d : Nat) (s : SL) (m : Mem) (g : Gh) : RG := match look s x with
  | some (.one (.int k n)) => .any fun a c => .leaf .nrm (.lit true) (putS (some d) (.one (.sl a 1 c)) s) m (g ++ [⟨e, 1, a, 1, c, [.int k n]⟩])
  | _ => .fail
theorem below_alloc (w : World) (o : Obj) : Below w.heap.size w (w.alloc o) := by
  refine ⟨rfl, rfl, rfl, ?_, fun k hk => ?_⟩
  · show w.heap.size ≤ (w.heap.push o).size
    rw [Array.size_push]
    omega
  · show (w.heap.push o)[k]? = _
    rw [Array.getElem?_push, if_neg (by omega)]
theorem bld1_ok {nt e t x d : Nat} {o : Oper} (hdst : o.dst = some d) (hop : o.op = .buildSlice t 1 #[(0, .tmp x)]) (hd : d < nt)
    (hpr : ∀ (S : Nat → Option TV) (k : IntKind) (n : SI), S x = some (.one (.int k n)) → (prim P W.W o 0 S (fun _ _ => none) (fun _ => none)).get = some ⟨.lit true, .one (.row 0 0 1 1), [], some (e, [.int k n])⟩) : CallOk W P nt o (bld1 e x d) := by
  intro s m g f a w Q hgood h
  unfold bld1 at hgood ⊢
  split at hgood <;> try exact hgood.elim
  rename_i k n hx
  obtain ⟨r, q, hrun, hr, hval, _, _⟩ := prim_buildSlice (w := w) (f := f) (nid := 0) (a := a) hop (hpr (look s) k n hx) h.slots
  have hq : q = .slice (some ⟨w.heap.size, 0, none⟩) 1 1 := by
    rcases hval with hval | hval
    · cases hval
    · rw [hval]
      simp [TV.den, SV.den, updF]
  have hr' : r = .value (.slice (some ⟨w.heap.size, 0, none⟩) 1 1) := by
    rcases hr with rfl | ⟨_, h2⟩
    · rw [hq]
    · rw [hq] at h2
      cases h2
  subst hr'
  have hw : effW f ⟨.lit true, .one (.row 0 0 1 1), [], some (e, [.int k n])⟩ w = w.alloc (.cells #[.int k n.val] e) := rfl
  rw [hw] at hrun
  unfold Oper.wp
  rw [hrun, Oper.upon_value]
  refine ⟨some ⟨w.heap.size, 0, none⟩, 1, rfl, f, ?_⟩
  rw [hdst]
  refine h.callOwn (below_alloc w _) hd (o := ⟨e, 1, some ⟨w.heap.size, 0, none⟩, 1, 1, [.int k n]⟩) ⟨rfl, .inr ⟨w.heap.size, 1, #[.int k n.val], rfl, Nat.le_refl _, heap_alloc_at, Nat.le_refl _, by decide, rfl, rfl⟩⟩
/-- A whole function, all its leaves as they are. -/
theorem calls_of_runS {W : World} (hG : GOk W P G) {n : Nat} {g : FuncId} {fn : Func} {c : Code} (hfn : P.funcs[g]? = some fn) (hc : fn.body = some c) {t : HG} (ht : HGOk W P fn.ntmps t c) {args : List TV} (hle : args.length ≤ fn.ntmps) {R : TV → Mem → Gh → Prop}
    (hres : (runG P W G n fn.ntmps t c (argSlots 0 args) noMem []).All fun e vc s m g => vc.val = true ∧ (e = .nrm ∨ e = .ret) ∧ ∃ ps v, resultsS P (look s) m fn.results.toList = some ps ∧ resultV ps = some v ∧ R v m g) :
    Calls P g (args.map (TV.den fun _ => 0)).toArray W fun en w' => ∃ v m g f, R v m g ∧ en = .returned (v.den f) ∧ (∀ (q : Nat) (o : Own), g[q]? = some o → o.rel W.heap.size w') ∧ Below W.heap.size W w' ∧ MOk w' (fun i => ∃ b j, look m.blks b = some j ∧ f b = i) f m w' ∧ (∀ b j, look m.blks b = some j → W.heap.size ≤ f b) := by
  have hm : MOk W (fun _ => False) (fun _ => 0) noMem W := by
    refine ⟨?_, ?_, ?_, ?_, ?_, ?_⟩ <;> intro b <;> simp [noMem, look, Mem.get, findC]
  have hf : Fr W W (fun _ => False) W := ⟨rfl, rfl, rfl, Nat.le_refl _, fun _ _ _ => rfl, (Old.refl W).base⟩
  have hr := fn_rel (nt := fn.ntmps) hle hm hf
  have hst : GSt (Bs.of W) fn.ntmps (argSlots 0 args) noMem [] (fun _ => 0) { tmps := (args.map (TV.den fun _ => 0)).toArray ++ Array.replicate (fn.ntmps - (args.map (TV.den fun _ => 0)).toArray.size) undef, defers := [] } W := by
    refine ⟨hr.size, hr.defers, hr.slots, ?_, fun b j hj => by simp [noMem, look] at hj, ⟨rfl, rfl, rfl, Nat.le_refl _, fun _ _ _ => rfl, (Old.refl W).base⟩, fun i hi => (by cases hi), ?_, ?_, ?_⟩
    · refine ⟨?_, ?_, ?_, ?_, ?_, ?_⟩ <;> intro b <;> simp [noMem, look, Mem.get, findC]
    · intro q o ho; simp at ho
    · intro q o ho; simp at ho
    · intro q q' o p ho; simp at ho
  have hgd := RG.All.good (fun _ _ _ _ _ h => h.1) hres
  refine calls_of_wp hfn hc (wp_mono (runG_sound (W := Bs.of W) hG t c _ _ _ _ _ W ht hgd hst) ?_)
  intro e a1 w1 hp
  obtain ⟨ex, vc, s, m, gh, ⟨_, hexx, ps, v, hps, hv, hR⟩, hex, f2, hst2⟩ := RG.All.meet hres hp
  obtain ⟨h1, h2⟩ := results_run (P := P) hst2.slots hst2.mem.cell hps hv
  have fin : a1.defers = [] ∧ ∃ u, (results fn a1.tmps).run P w1 = .ok u w1 ∧ ∃ v m g f, R v m g ∧ Ending.returned u = .returned (v.den f) ∧ (∀ (q : Nat) (o : Own), g[q]? = some o → o.rel W.heap.size w1) ∧ Below W.heap.size W w1 ∧ MOk w1 (fun i => ∃ b j, look m.blks b = some j ∧ f b = i) f m w1 ∧ (∀ b j, look m.blks b = some j → W.heap.size ≤ f b) :=
    ⟨hst2.defers, _, h1, v, m, gh, f2, hR, rfl, hst2.gh.own, hst2.below, hst2.mem, fun b j hj => (hst2.base b j hj).resolve_right (fun h => h)⟩
  rcases hexx with rfl | rfl
  · simp only [exOf, Option.some.injEq] at hex
    subst hex
    exact fin
  · simp only [exOf, Option.some.injEq] at hex
    subst hex
    exact fin
/-- The pair that such a function hands back: the cells of a new slice, or none. -/
def zOf (v : TV) (m : Mem) : Option (Option (TypeId × List SV)) := match v with
  | .tup [(false, [.row b 0 n c]), (false, [.bool (.lit true)])] => match look m.blks b with
    | some i => match Nat.beq i.init.length n && Nat.beq n c with
      | true => match rangeC m.get b 0 n with
        | some l => match allB (SV.lt 0) l with
          | true => some (some (i.elem, l))
          | false => none
        | none => none
      | false => none
    | none => none
  | .tup [(false, [.sl none 0 0]), (false, [.bool (.lit false)])] => some none
  | _ => none
def gZ (P : Program) (rs : List ResultVar) : RG → Option (Option (TypeId × List SV) × Bool)
  | .leaf e vc s m _ => match (match e with | .nrm => true | .ret => true | _ => false) with
    | true => match resultsS P (look s) m rs with
      | some ps => match resultV ps with
        | some v => match zOf v m with
          | some z => some (z, vc.val)
          | none => none
        | none => none
      | none => none
    | false => none
  | .br b x y => bif b then gZ P rs x else gZ P rs y
  | _ => none
theorem gZ_all {rs : List ResultVar} {z : Option (TypeId × List SV)} : ∀ {r : RG}, gZ P rs r = some (z, true) → r.All fun e vc s m _ => vc.val = true ∧ (e = .nrm ∨ e = .ret) ∧ ∃ ps v, resultsS P (look s) m rs = some ps ∧ resultV ps = some v ∧ zOf v m = some z
  | .fail, h => by cases h
  | .leaf e vc s m g, h => by
    simp only [gZ] at h
    split at h <;> try contradiction
    rename_i he
    split at h <;> try contradiction
    rename_i ps hps
    split at h <;> try contradiction
    rename_i v hv
    split at h <;> try contradiction
    rename_i z' hz
    simp only [Option.some.injEq, Prod.mk.injEq] at h
    obtain ⟨rfl, h2⟩ := h
    refine ⟨h2, ?_, ps, v, hps, hv, hz⟩
    cases e with
    | nrm => exact .inl rfl
    | ret => exact .inr rfl
    | exit i => cases he
    | res v => cases he
  | .br b x y, h => by
    cases b
    · exact ⟨nofun, fun _ => gZ_all (r := y) h⟩
    · exact ⟨fun _ => gZ_all (r := x) h, nofun⟩
  | .any _, h => by cases h
  | .pick _ _, h => by cases h
theorem zOf_laid {v : TV} {m : Mem} {t : TypeId} {l : List SV} (h : zOf v m = some (some (t, l))) {f : Nat → Nat} {W w' : World} (hb : Below W.heap.size W w') (hm : MOk w' (fun i => ∃ b j, look m.blks b = some j ∧ f b = i) f m w') (hB : ∀ b j, look m.blks b = some j → W.heap.size ≤ f b) :
    ∃ j, v.den f = .tuple #[.slice (some ⟨j, 0, none⟩) l.length l.length, .bool true] ∧ LaidAt W w' j (dens (fun _ => 0) l) t := by
  unfold zOf at h
  split at h
  · rename_i b n c
    split at h <;> try contradiction
    rename_i i hi
    split at h <;> try contradiction
    rename_i hc
    split at h <;> try contradiction
    rename_i l' hl
    split at h <;> try contradiction
    rename_i hlt
    simp only [Option.some.injEq, Prod.mk.injEq] at h
    obtain ⟨rfl, rfl⟩ := h
    rw [Bool.and_eq_true, Nat.beq_eq, Nat.beq_eq] at hc
    obtain ⟨hlen, hget⟩ := rangeC_get hl
    obtain ⟨arr, harr, hsz⟩ := hm.blk b i hi
    refine ⟨f b, by rw [hlen, ← hc.2]; rfl, ⟨hb.os, hb.tape, hb.output, hb.size, fun j hj => hb.block j hj, hB b i hi, ?_⟩⟩
    rw [harr]
    have : arr = dens (fun _ => 0) l' := by
      apply Array.ext
      · rw [hsz, hc.1]
        simp [dens, hlen]
      · intro j h1 h2
        have hj : j < l'.length := by simpa [dens] using h2
        have hcl := hm.cell b j l'[j] (by have := hget j l'[j] (List.getElem?_eq_getElem hj); simpa using this)
        rw [cell_of_blk harr, Array.getElem?_eq_getElem h1] at hcl
        simp only [Option.some.injEq] at hcl
        rw [hcl]
        simp only [dens, List.getElem_toArray, List.getElem_map]
        exact SV.lt_den (allB_iff hlt _ (List.getElem_mem hj)) (fun b hb => by omega)
    rw [this]
  · cases h
  · cases h
theorem zOf_none {v : TV} {m : Mem} (h : zOf v m = some none) (f : Nat → Nat) : v.den f = .tuple #[.slice none 0 0, .bool false] := by
  unfold zOf at h
  split at h
  · split at h <;> try contradiction
    split at h <;> try contradiction
    split at h <;> try contradiction
    split at h <;> try contradiction
    simp only [Option.some.injEq, reduceCtorEq] at h
  · rfl
  · cases h
def PairPost (W : World) (z : Option (TypeId × List SV)) (en : Ending) (w' : World) : Prop := match z with
  | none => en = .returned (.tuple #[.slice none 0 0, .bool false]) ∧ Below W.heap.size W w'
  | some (t, l) => ∃ j, en = .returned (.tuple #[.slice (some ⟨j, 0, none⟩) l.length l.length, .bool true]) ∧ LaidAt W w' j (dens (fun _ => 0) l) t
/-- A whole function that hands back such a pair. -/
theorem calls_of_gZ {W : World} (hG : GOk W P G) {n : Nat} {g : FuncId} {fn : Func} {c : Code} (hfn : P.funcs[g]? = some fn) (hc : fn.body = some c) {t : HG} (ht : HGOk W P fn.ntmps t c) {args : List TV} (hle : args.length ≤ fn.ntmps) {r : RG} (hr : runG P W G n fn.ntmps t c (argSlots 0 args) noMem [] = r) {z : Option (TypeId × List SV)}
    (hz : gZ P fn.results.toList r = some (z, true)) :
    Calls P g (args.map (TV.den fun _ => 0)).toArray W (PairPost W z) := by
  subst hr
  refine (calls_of_runS hG hfn hc ht hle (R := fun v m _ => zOf v m = some z) (gZ_all hz)).mono ?_
  rintro en w' ⟨v, m, g, f, hz, rfl, _, hb, hm, hB⟩
  cases z with
  | none => exact ⟨by rw [zOf_none hz f], hb⟩
  | some p =>
    obtain ⟨t, l⟩ := p
    obtain ⟨j, h1, h2⟩ := zOf_laid hz hb hm hB
    exact ⟨j, by rw [h1], h2⟩
end
end Go.Sx
