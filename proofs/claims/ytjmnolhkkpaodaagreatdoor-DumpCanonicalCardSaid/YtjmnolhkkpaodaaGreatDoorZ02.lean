/- A part of the proof: the reference is safe, both packages write and read alike. Several texts in one; printed by slim28.py out of the texts of wip. -/
import Derived.Test.YtjmnolhkkpaodaaGreatDoorZ01
import Derived.Laws.Slices
import Derived.Laws.BytesArg
set_option linter.all false
namespace Go.Sx
open Go
def PR.get : PR → Option Eff
 | .fail => none
 | .ok e => some e
 | .br b x y => bif b then x.get else y.get
def updF (f : Nat → Nat) (nid : Nat) (w : World) (e : Eff) : Nat → Nat :=
 match e.nb with
 | none => f
 | some _ => fun k => if k = nid then w.heap.size else f k
def effW (f : Nat → Nat) (e : Eff) (w : World) : World :=
 match e.nb with
 | none => applyWs f e.ws w
 | some (t, l) => w.alloc (.cells (dens f l) t)
def EffRun (P : Program) (o : Oper) (a : Act) (w : World) (f : Nat → Nat) (nid : Nat) (K : Nat → Option BI) (e : Eff) : Prop :=
 ∃ x u, (execOp a.eval o).run P w = .ok x (effW f e w) ∧ (x = .value u ∨ (x = .skip ∧ u = undef)) ∧ (e.val = .un ∨ u = e.val.den (updF f nid w e)) ∧
  (∀ p ∈ e.ws, ∃ i, K p.1 = some i ∧ i.rw = true ∧ p.2.1 < i.init.length) ∧ (e.nb ≠ none → e.ws = [])
section
variable {W : World} {P : Program} {o : Oper} {a : Act} {w : World} {f : Nat → Nat} {nid : Nat} {S : Nat → Option TV} {C : Nat → Nat → Option SV} {K : Nat → Option BI}
theorem effRun_ret {v : TV} {e : Eff} (he : (Eff.ret v).get = some e) (hrun : (execOp a.eval o).run P w = .ok (.value (v.den f)) w) : EffRun P o a w f nid K e := by
 simp only [Eff.ret, PR.get, Option.some.injEq] at he
 subst he
 exact ⟨_, _, hrun, .inl rfl, .inr rfl, by simp [Eff.pure], by simp [Eff.pure]⟩
theorem get_withIndex {n : Nat} {ix : SI} {F : Nat → PR} {e : Eff} (h : (withIndex n ix F).get = some e) (hvc : e.vc.val = true) : ∃ i e', i < n ∧ ix.val = (i : Int) ∧ (F i).get = some e' ∧ e'.vc.val = true ∧ e.val = e'.val ∧ e.ws = e'.ws ∧ e.nb = e'.nb := by
 unfold withIndex at h
 split at h
 · rename_i x
   split at h
   · rename_i i
     split at h
     · rename_i hi
       have h2 : i + 1 ≤ n := by simpa [Nat.blt] using hi
       exact ⟨i, e, by omega, rfl, h, hvc, rfl, rfl, rfl⟩
     · simp [PR.get] at h
   · simp [PR.get] at h
 · rename_i x
   have key : ∀ (n i : Nat), (onIndex x F n i).get = some e → ∃ j e', i ≤ j ∧ j < i + n ∧ x = (j : Int) ∧ (F j).get = some e' ∧ e'.vc.val = true ∧ e.val = e'.val ∧ e.ws = e'.ws ∧ e.nb = e'.nb := by
    intro n
    induction n with
    | zero => intro i h; simp [onIndex, PR.get] at h
    | succ n ih =>
     intro i h
     cases n with
     | zero =>
      simp only [onIndex] at h
      split at h
      · rename_i e1 he1
        simp only [PR.get, Option.some.injEq] at h
        subst h
        simp only [SB.and_val, SB.val_sym, Bool.and_eq_true, decide_eq_true_eq] at hvc
        exact ⟨i, e1, Nat.le_refl _, by omega, hvc.1, by rw [he1]; rfl, hvc.2, rfl, rfl, rfl⟩
      · simp [PR.get] at h
     | succ n =>
      simp only [onIndex, PR.get] at h
      by_cases hx : x = (i : Int)
      · rw [decide_eq_true hx] at h
        exact ⟨i, e, Nat.le_refl _, by omega, hx, h, hvc, rfl, rfl, rfl⟩
      · rw [decide_eq_false hx] at h
        obtain ⟨j, e', h1, h2, h3⟩ := ih (i + 1) h
        exact ⟨j, e', by omega, by omega, h3⟩
   obtain ⟨j, e', h1, h2, h3⟩ := key n 0 h
   exact ⟨j, e', by omega, h3⟩
theorem effRun_same {e e' : Eff} (h : EffRun P o a w f nid K e') (h1 : e.val = e'.val) (h2 : e.ws = e'.ws) (h3 : e.nb = e'.nb) : EffRun P o a w f nid K e := by
 obtain ⟨c, v, ws, nb⟩ := e
 obtain ⟨c', v', ws', nb'⟩ := e'
 simp only at h1 h2 h3
 subst h1 h2 h3
 exact h
theorem prim_pick {c x y : Operand} (hop : o.op = .pick c x y) {e : Eff} (h : (prim P W o nid S C K).get = some e) (hS : SRel f S a) : EffRun P o a w f nid K e := by
 simp only [prim, hop] at h
 split at h
 · rename_i hc
   split at h
   · rename_i v hv
     refine effRun_ret h ?_
     have h1 := (evalO_sound hS hc).1
     simp only [TV.den, SV.den, SB.val] at h1
     simp [execOp, hop, h1, asBool, (evalO_sound hS hv).1]
   · simp [PR.get] at h
 · rename_i hc
   split at h
   · rename_i v hv
     refine effRun_ret h ?_
     have h1 := (evalO_sound hS hc).1
     simp only [TV.den, SV.den, SB.val] at h1
     simp [execOp, hop, h1, asBool, (evalO_sound hS hv).1]
   · simp [PR.get] at h
 · rename_i q hc
   have h1 := (evalO_sound hS hc).1
   simp only [TV.den, SV.den, SB.val] at h1
   cases q
   · simp only [PR.get, cond_false] at h
     split at h
     · rename_i v hv
       exact effRun_ret h (by simp [execOp, hop, h1, asBool, (evalO_sound hS hv).1])
     · simp [PR.get] at h
   · simp only [PR.get, cond_true] at h
     split at h
     · rename_i v hv
       exact effRun_ret h (by simp [execOp, hop, h1, asBool, (evalO_sound hS hv).1])
     · simp [PR.get] at h
 · simp [PR.get] at h
theorem prim_alloc {t : TypeId} (hop : o.op = .alloc t) {e : Eff} (h : (prim P W o nid S C K).get = some e) : EffRun P o a w f nid K e := by
 simp only [prim, hop] at h
 split at h
 · rename_i z hz
   simp only [PR.get, Option.some.injEq] at h
   subst h
   obtain ⟨zv, hzr, hzc⟩ := zero_run hz w
   have hz2 := hzc f
   refine ⟨.value (.pointer (some ⟨w.heap.size, 0, none⟩)), _, ?_, .inl rfl, .inr ?_, by simp, by simp⟩
   · simp only [execOp, hop, Instr.alloc, newVar, newRow, Sem.run_bind, hzr, Result.andThen_ok, run_newObj, Sem.run_pure, effW]
     have : zv.cells = dens f z := by rw [dens, ← hz2]
     rw [this]
     rfl
   · simp [TV.den, SV.den, updF]
 · simp [PR.get] at h
theorem prim_box {t : TypeId} {x : Operand} (hop : o.op = .box t x) {e : Eff} (h : (prim P W o nid S C K).get = some e) (hS : SRel f S a) : EffRun P o a w f nid K e := by
 simp only [prim, hop] at h
 split at h
 · rename_i v hv
   split at h
   · rename_i l hl
     simp only [PR.get, Option.some.injEq] at h
     subst h
     refine ⟨.value (.pointer (some ⟨w.heap.size, 0, none⟩)), _, ?_, .inl rfl, .inr ?_, by simp, by simp⟩
     · simp only [execOp, hop, Instr.box, newVar, newRow, Sem.run_bind, Result.andThen_ok, run_newObj, Sem.run_pure, effW]
       have : (a.eval x).cells = dens f l := by rw [(evalO_sound hS hv).1, dens, ← TV.cells_den hl f]
       rw [this]
       rfl
     · simp [TV.den, SV.den, updF]
   · simp [PR.get] at h
 · simp [PR.get] at h
theorem zero_info {t : TypeId} {l : List SV} (h : zeroT P t = some l) : ∃ i z, P.info? t = some i ∧ i.zero = some z ∧ ∀ f : Nat → Nat, z.cells = dens f l := by
 unfold zeroT at h
 split at h <;> try contradiction
 rename_i i hi
 split at h <;> try contradiction
 rename_i z hz
 exact ⟨i, z, hi, hz, fun f => by rw [dens, ofCells_den h f]⟩
theorem prim_build {t : TypeId} {ps : Array (Nat × Operand)} (hop : o.op = .build t ps) {e : Eff} (h : (prim P W o nid S C K).get = some e) (hS : SRel f S a) : EffRun P o a w f nid K e := by
 simp only [prim, hop] at h
 split at h
 · simp [PR.get] at h
 rename_i l hl
 split at h
 · simp [PR.get] at h
 rename_i z hz
 obtain ⟨i, zv, hi, hzz, hzc⟩ := zero_info hz
 have hparts := evalParts_sound hS hl
 have hmap : (ps.map fun x => (x.1, a.eval x.2)).toList = l.map fun x => (x.1, x.2.den f) := by rw [Array.toList_map, hparts]
 split at h
 · rename_i fs ht
   split at h
   · rename_i pl hpl
     split at h
     · rename_i c hc
       refine effRun_ret h ?_
       have hb : P.built t (ps.map fun x => (x.1, a.eval x.2)).toList = some (dens f c) := by
        unfold Program.built
        rw [hi, ht]
        simp only [hzz, places_mapM hpl]
        rw [hmap, hzc f]
        have := fillS_fill f hc
        simpa using this
       have := run_build (P := P) w t _ _ hb
       simp only [execOp, hop, Sem.run_bind]
       have e2 : (ps.map fun (x : Nat × Operand) => match x with | (i, x) => (i, a.eval x)) = ps.map fun x => (x.1, a.eval x.2) := rfl
       rw [e2, this]
       rfl
     · simp [PR.get] at h
   · simp [PR.get] at h
 · rename_i n el ht
   split at h
   · rename_i sz hsz
     split at h
     · rename_i c hc
       refine effRun_ret h ?_
       unfold sizeT at hsz
       split at hsz <;> try contradiction
       rename_i ie hie
       simp only [Option.some.injEq] at hsz
       have hb : P.built t (ps.map fun x => (x.1, a.eval x.2)).toList = some (dens f c) := by
        unfold Program.built
        rw [hi, ht]
        simp only [hzz, hie, hsz]
        rw [hmap, hzc f]
        exact fillS_fill f hc
       have := run_build (P := P) w t _ _ hb
       simp only [execOp, hop, Sem.run_bind]
       have e2 : (ps.map fun (x : Nat × Operand) => match x with | (i, x) => (i, a.eval x)) = ps.map fun x => (x.1, a.eval x.2) := rfl
       rw [e2, this]
       rfl
     · simp [PR.get] at h
   · simp [PR.get] at h
 · simp [PR.get] at h
theorem filled_row {z : List SV} {n len : Nat} {zv : Value} (hz : ∀ f : Nat → Nat, zv.cells.toList = z.map (SV.den f)) (hl : z.length = n) (hn : 0 < n) (f : Nat → Nat) :
  (Array.range (len * n)).map (fun i => zv.cells[i % zv.cells.size]!) = dens f ((List.range (len * n)).map fun i => (z[i % n]?).getD .nilP) := by
 have hs : zv.cells.size = n := by rw [← Array.length_toList, hz f, List.length_map, hl]
 rw [← Array.toList_inj, Array.toList_map, Array.toList_range, dens, List.map_map]
 apply List.map_congr_left
 intro i _
 have hi : i % n < n := Nat.mod_lt _ hn
 have h1 : zv.cells[i % n]? = some ((z[i % n]'(by omega)).den f) := by
  rw [← Array.getElem?_toList, hz f, List.getElem?_map, List.getElem?_eq_getElem (by omega)]
  rfl
 simp only [hs, Function.comp_apply, List.getElem?_eq_getElem (show i % n < z.length by omega), Option.getD_some]
 rw [getElem!_def, h1]
theorem prim_buildSlice {t : TypeId} {len : Nat} {ps : Array (Nat × Operand)} (hop : o.op = .buildSlice t len ps) {e : Eff} (h : (prim P W o nid S C K).get = some e) (hS : SRel f S a) : EffRun P o a w f nid K e := by
 simp only [prim, hop] at h
 split at h
 case h_2 => simp [PR.get] at h
 rename_i el ht
 split at h
 case h_2 => simp [PR.get] at h
 rename_i n hn
 split at h
 case h_2 => simp [PR.get] at h
 rename_i hb
 simp only [Bool.and_eq_true, Nat.ble_eq] at hb
 have hb2 : 0 < len * n := by
  have h0 := hb.2
  simp only [Nat.blt, Nat.ble_eq] at h0
  exact h0
 split at h
 case h_2 => simp [PR.get] at h
 rename_i z hz
 split at h
 case h_2 => simp [PR.get] at h
 rename_i hzl
 have hzl' : z.length = n := Nat.eq_of_beq_eq_true hzl
 have hn0 : 0 < n := by
  rcases Nat.eq_zero_or_pos n with rfl | h0
  · simp at hb2
  · exact h0
 split at h
 case h_2 => simp [PR.get] at h
 rename_i l hl
 split at h
 case h_2 => simp [PR.get] at h
 rename_i c hc
 simp only [PR.get, Option.some.injEq] at h
 subst h
 obtain ⟨zv, hzr, hzc⟩ := zero_run hz w
 have hparts := evalParts_sound hS hl
 have hmap : (ps.map fun x => (x.1, a.eval x.2)).toList = l.map fun x => (x.1, x.2.den f) := by rw [Array.toList_map, hparts]
 refine ⟨.value (.slice (some ⟨w.heap.size, 0, none⟩) len len), _, ?_, .inl rfl, .inr ?_, by simp, by simp⟩
 · have _e2 : (ps.map fun (x : Nat × Operand) => match x with | (i, x) => (i, a.eval x)) = ps.map fun x => (x.1, a.eval x.2) := rfl
   have hgt : ¬ len * n > 2 ^ 24 := by omega
   have hne : ¬ len * n = 0 := by omega
   have hfill := fillS_fill f hc
   rw [← filled_row hzc hzl' hn0 f, ← hmap] at hfill
   simp only [execOp, hop, Instr.buildSlice, newRow, Sem.run_bind, run_underlying ht, Result.andThen_ok, sizeOf_run hn, hgt, if_false, hne, hzr, Sem.run_pure, effW, Sem.run_ite]
   rw [hfill]
   simp only [Sem.run_bind, run_newObj, Result.andThen_ok, Sem.run_pure]
   rfl
 · simp [TV.den, SV.den, updF]
theorem prim_load {t : TypeId} {x : Operand} (hop : o.op = .load t x) {e : Eff} (h : (prim P W o nid S C K).get = some e) (hvc : e.vc.val = true) (hS : SRel f S a) (hC : CRel f C w) (hO : Old W w) : EffRun P o a w f nid K e := by
 simp only [prim, hop] at h
 split at h
 · rename_i b off hx
   have hx' := (evalO_sound hS hx).1
   simp only [TV.den, SV.den] at hx'
   split at h
   · rename_i hagg
     split at h
     · rename_i n hn
       split at h
       · rename_i l hl
         refine effRun_ret h ?_
         simp only [execOp, hop, Instr.loadAt, hx', Instr.sureAddr, loadVar, Sem.run_bind, Sem.run_pure, Result.andThen_ok, isAgg_run hagg, if_true, sizeOf_run hn, loadCells_run hC hl]
         rfl
       · simp [PR.get] at h
     · simp [PR.get] at h
   · rename_i hagg
     split at h
     · rename_i v hv
       refine effRun_ret h ?_
       have hcell := hC b off v hv
       simp only [execOp, hop, Instr.loadAt, hx', Instr.sureAddr, loadVar, Sem.run_bind, Sem.run_pure, Result.andThen_ok, isAgg_run hagg]
       simp [run_load, hcell, TV.den]
     · simp [PR.get] at h
   · simp [PR.get] at h
 · rename_i q hx
   have hx' := (evalO_sound hS hx).1
   simp only [TV.den, SV.den] at hx'
   split at h
   · rename_i hagg
     split at h
     · rename_i n ts hn hts
       split at h
       · rename_i hlen
         split at h
         · rename_i l hl
           simp only [PR.get, Option.some.injEq] at h
           subst h
           obtain ⟨h1, h2⟩ := oldCells_get f hl hvc
           have h3 := run_loadCells_list (P := P) w q ((l.map (·.2)).map (SV.den f)) (by
            intro j v hj
            rw [List.getElem?_map, Option.map_eq_some_iff] at hj
            obtain ⟨u, hu, rfl⟩ := hj
            have := hO.cell (h2 j u hu)
            rwa [Nat.zero_add] at this)
           rw [List.length_map, List.length_map, h1, Nat.eq_of_beq_eq_true hlen] at h3
           refine ⟨_, _, ?_, .inl rfl, .inr rfl, by simp, by simp⟩
           simp only [execOp, hop, Instr.loadAt, hx', Instr.sureAddr, loadVar, Sem.run_bind, Sem.run_pure, Result.andThen_ok, isAgg_run hagg, if_true, sizeOf_run hn, h3]
           rfl
         · simp [PR.get] at h
       · simp [PR.get] at h
     · simp [PR.get] at h
   · rename_i hagg
     split at h
     · rename_i c v hv
       simp only [PR.get, Option.some.injEq] at h
       subst h
       have hcell := hO.cell (oldCell_cell hv hvc f)
       refine ⟨_, _, ?_, .inl rfl, .inr rfl, by simp, by simp⟩
       simp only [execOp, hop, Instr.loadAt, hx', Instr.sureAddr, loadVar, Sem.run_bind, Sem.run_pure, Result.andThen_ok, isAgg_run hagg]
       simp [run_load, hcell, TV.den, effW, applyWs, updF]
     · simp [PR.get] at h
   · simp [PR.get] at h
 · simp [PR.get] at h
theorem mem_wsOf {b : Nat} : ∀ (l : List SV) (o : Nat) (acc : List (Nat × Nat × SV)) (p : Nat × Nat × SV), p ∈ wsOf b o l acc → p ∈ acc ∨ (p.1 = b ∧ o ≤ p.2.1 ∧ p.2.1 < o + l.length)
 | [], o, acc, p, h => .inl h
 | v :: l, o, acc, p, h => by
  simp only [wsOf] at h
  rcases mem_wsOf l (o + 1) _ p h with h1 | ⟨h1, h2, h3⟩
  · rcases List.mem_cons.1 h1 with rfl | h1
    · exact .inr ⟨rfl, by simp, by simp⟩
    · exact .inl h1
  · exact .inr ⟨h1, by omega, by simp; omega⟩
theorem prim_store {t : TypeId} {x y : Operand} (hop : o.op = .store t x y) {e : Eff} (h : (prim P W o nid S C K).get = some e) (hS : SRel f S a) (hK : KRel f K w) : EffRun P o a w f nid K e := by
 simp only [prim, hop] at h
 split at h
 · rename_i b off hx
   have hx' := (evalO_sound hS hx).1
   simp only [TV.den, SV.den] at hx'
   split at h
   · rename_i v hv
     have hv' := (evalO_sound hS hv).1
     split at h
     · rename_i l hl
       have hcl := TV.cells_den hl f
       split at h
       · rename_i n hn
         split at h
         · rename_i i hi
           split at h
           · rename_i hcond
             simp only [Bool.and_eq_true, Nat.beq_eq, Nat.ble_eq] at hcond
             obtain ⟨⟨hlen, hrw⟩, hle⟩ := hcond
             simp only [PR.get, Option.some.injEq] at h
             subst h
             obtain ⟨arr, harr, hsz⟩ := hK b i hi
             refine ⟨.skip, undef, ?_, .inr ⟨rfl, rfl⟩, .inl rfl, ?_, by simp⟩
             · simp only [execOp, hop, Instr.storeAt, hx', hv', Instr.sureAddr, storeVar, Sem.run_bind, Sem.run_pure, Result.andThen_ok, sizeOf_run hn]
               have hs : (v.den f).cells.size = n := by rw [← Array.length_toList, hcl, List.length_map, hlen]
               simp only [hs, ne_eq, not_true_eq_false, if_false, hcl]
               have := storeCells_run (P := P) (f := f) (w := w) (b := b) (off := off) harr l 0 [] (by rw [hsz]; omega)
               simp only [applyWs, Nat.add_zero] at this
               rw [this]
               rfl
             · intro p hp
               rcases mem_wsOf l off [] p hp with h1 | ⟨h1, h2, h3⟩
               · simp at h1
               · rw [h1]
                 exact ⟨i, hi, hrw, by omega⟩
           · simp [PR.get] at h
         · simp [PR.get] at h
       · simp [PR.get] at h
     · simp [PR.get] at h
   · simp [PR.get] at h
 · simp [PR.get] at h
theorem prim_move {x : Operand} (hop : o.op = .move x ∨ o.op = .assign x) {e : Eff} (h : (prim P W o nid S C K).get = some e) (hS : SRel f S a) : EffRun P o a w f nid K e := by
 rcases hop with hop | hop <;> simp only [prim, hop] at h <;> split at h
 · rename_i v hv
   exact effRun_ret h (by simp [execOp, hop, (evalO_sound hS hv).1])
 · simp [PR.get] at h
 · rename_i v hv
   exact effRun_ret h (by simp [execOp, hop, (evalO_sound hS hv).1])
 · simp [PR.get] at h
theorem prim_nilCheck {x : Operand} (hop : o.op = .nilCheck x) {e : Eff} (h : (prim P W o nid S C K).get = some e) (hS : SRel f S a) : EffRun P o a w f nid K e := by
 simp only [prim, hop] at h
 split at h
 · rename_i b off hx
   have hx' := (evalO_sound hS hx).1
   refine effRun_ret h ?_
   simp only [TV.den, SV.den] at hx'
   simp [execOp, hop, hx', TV.den, SV.den]
 · rename_i q hx
   have hx' := (evalO_sound hS hx).1
   refine effRun_ret h ?_
   simp only [TV.den, SV.den] at hx'
   simp [execOp, hop, hx', TV.den, SV.den]
 · simp [PR.get] at h
theorem sBin_nilI {op : BinOp} {t : TypeId} {b : SV} : sBin P op t .nilI b = none := by cases b <;> rfl
theorem prim_binOp {op : BinOp} {t t' : TypeId} {x y : Operand} (hop : o.op = .binOp op t x y t') {e : Eff} (h : (prim P W o nid S C K).get = some e) (hvc : e.vc.val = true) (hS : SRel f S a) : EffRun P o a w f nid K e := by
 simp only [prim, hop] at h
 split at h
 · rename_i u hx
   have hx' := (evalO_sound hS hx).1
   split at h
   · rename_i v hy
     have hy' := (evalO_sound hS hy).1
     split at h
     · rename_i c r hr
       simp only [PR.get, Option.some.injEq] at h
       subst h
       have hn : u ≠ .nilI := by rintro rfl; rw [sBin_nilI] at hr; cases hr
       simp only [TV.den] at hx' hy'
       refine ⟨.value (r.den f), _, ?_, .inl rfl, .inr rfl, by simp, by simp⟩
       simp only [execOp, hop, hx', hy', Sem.run_bind, eqGuard_one op t x y u v f w hn, Result.andThen_ok, sBin_run hr hvc f w, Sem.run_pure, effW, applyWs]
     · simp [PR.get] at h
   · simp [PR.get] at h
 · rename_i xs hx
   have hx' := (evalO_sound hS hx).1
   split at h
   · rename_i ys hy
     have hy' := (evalO_sound hS hy).1
     split at h
     · simp [PR.get] at h
     · rename_i hg
       split at h
       · rename_i c hc
         have heq := eqTV_run (P := P) f (d := 10000) w hc (by omega)
         simp only [TV.den] at hx' hy' heq
         split at h
         · refine effRun_ret h ?_
           simp only [execOp, hop, hx', hy', Sem.run_bind, run_eqGuard_agg w .eql t x y _ _ hg, Result.andThen_ok, run_eql_struct, heq, Sem.run_pure]
           rfl
         · refine effRun_ret h ?_
           simp only [execOp, hop, hx', hy', Sem.run_bind, run_eqGuard_agg w .neq t x y _ _ hg, Result.andThen_ok, run_neq_struct, heq, Sem.run_pure, TV.den, SV.den, SB.not_val]
         · simp [PR.get] at h
       · simp [PR.get] at h
   · simp [PR.get] at h
 · simp [PR.get] at h
theorem prim_unOp {op : UnOp} {t : TypeId} {x : Operand} (hop : o.op = .unOp op t x) {e : Eff} (h : (prim P W o nid S C K).get = some e) (hS : SRel f S a) : EffRun P o a w f nid K e := by
 simp only [prim, hop] at h
 split at h
 · rename_i b hx
   have hx' := (evalO_sound hS hx).1
   simp only [TV.den, SV.den] at hx'
   split at h
   · refine effRun_ret h ?_
     simp [execOp, hop, hx', Op.unary, TV.den, SV.den, SB.not_val]
   · simp [PR.get] at h
 · rename_i k n hx
   have hx' := (evalO_sound hS hx).1
   simp only [TV.den, SV.den] at hx'
   split at h
   · refine effRun_ret h ?_
     simp [execOp, hop, hx', Op.unary, Op.intArith, TV.den, SV.den, SI.map1_val, gsub]
   · refine effRun_ret h ?_
     simp [execOp, hop, hx', Op.unary, intBits_xor, TV.den, SV.den, SI.map1_val]
   · simp [PR.get] at h
 · simp [PR.get] at h
theorem bytesOf_den : ∀ {l : List SV} {xs : List Int}, bytesOf l = some xs → ∀ (f : Nat → Nat), l.map (SV.den f) = xs.map (Value.int .u8)
 | [], xs, h, f => by simp [bytesOf] at h; subst h; rfl
 | v :: r, xs, h, f => by
  cases v with
  | int k n =>
   cases k <;> simp only [bytesOf, reduceCtorEq] at h
   split at h <;> try contradiction
   rename_i l hl
   simp only [Option.some.injEq] at h
   subst h
   simp [bytesOf_den hl f, SV.den]
  | _ => simp [bytesOf] at h
theorem prim_convert {s t : TypeId} {x : Operand} (hop : o.op = .convert s t x) {e : Eff} (h : (prim P W o nid S C K).get = some e) (hS : SRel f S a) (hC : CRel f C w) : EffRun P o a w f nid K e := by
 simp only [prim, hop] at h
 split at h
 · rename_i k n hx
   have hx' := (evalO_sound hS hx).1
   simp only [TV.den, SV.den] at hx'
   split at h
   · rename_i d hd
     split at h
     · rename_i k' hk
       refine effRun_ret h ?_
       simp [execOp, hop, hx', convert, run_underlying hd, run_underlying hk, Conv.intToInt, TV.den, SV.den, SI.map1_val]
     · simp [PR.get] at h
   · simp [PR.get] at h
 · rename_i b off len cp hx
   have hx' := (evalO_sound hS hx).1
   simp only [TV.den, SV.den] at hx'
   split at h
   · rename_i el hs hd
     split at h
     · rename_i he
       split at h
       · rename_i l hl
         split at h
         · rename_i xs hxs
           refine effRun_ret h ?_
           obtain ⟨hlen, hget⟩ := rangeC_get hl
           have hden := bytesOf_den hxs f
           have hxl : xs.length = len := by
            have := congrArg List.length hden
            rw [List.length_map, List.length_map] at this
            omega
           have hcell : ∀ i, i < len → w.cell? ⟨f b, off + i, none⟩ = some (.int .u8 (xs.getD i 0)) := by
            intro i hi
            have h1 : l[i]? = some l[i] := by simp [hlen, hi]
            rw [hC b (off + i) _ (hget i _ h1)]
            have h2 := congrArg (fun z => z[i]?) hden
            simp only [List.getElem?_map, h1, Option.map_some] at h2
            rw [h2, List.getD, List.getElem?_eq_getElem (by omega)]
            rfl
           simp only [execOp, hop, hx', run_convert_bytes_arg w s el hs he (f b) off len cp xs hxl hcell t hd, Sem.run_bind, Result.andThen_ok, Sem.run_pure]
           rfl
         · simp [PR.get] at h
       · simp [PR.get] at h
     · simp [PR.get] at h
   · simp [PR.get] at h
 · simp [PR.get] at h
theorem capsOf_den {f : Nat → Nat} : ∀ {l : List TV} {cs : List (Nat × Nat)}, capsOf l = some cs → l.map (TV.den f) = cs.map (caddr f)
 | [], cs, h => by simp [capsOf] at h; subst h; rfl
 | v :: l, cs, h => by
  cases v with
  | one s =>
   cases s with
   | ptr b o =>
    simp only [capsOf] at h
    split at h <;> try contradiction
    rename_i r' hr
    simp only [Option.some.injEq] at h
    subst h
    simp [capsOf_den hr, TV.den, SV.den, caddr]
   | _ => simp [capsOf] at h
  | _ => simp [capsOf] at h
theorem prim_makeFunc {fn : Fn} {first captured : Array Operand} (hop : o.op = .makeFunc fn first captured) {e : Eff} (h : (prim P W o nid S C K).get = some e) (hS : SRel f S a) : EffRun P o a w f nid K e := by
 simp only [prim, hop] at h
 split at h
 · rename_i g
   split at h
   · rename_i hf
     split at h
     · rename_i l hl
       split at h
       · rename_i cs hcs
         refine effRun_ret h ?_
         have h1 : first.map a.eval = #[] := by
          have : first = #[] := by rw [← Array.toList_eq_nil_iff]; exact hf
          subst this; simp
         have h2 : captured.map a.eval = (cs.map (caddr f)).toArray := by
          have := (evalList_sound hS hl).1
          rw [capsOf_den hcs] at this
          rw [← this, ← Array.toList_map]
         simp only [execOp, hop, Instr.makeFunc, Sem.run_bind, Sem.run_pure, Result.andThen_ok, h1, h2]
         rfl
       · simp [PR.get] at h
     · simp [PR.get] at h
   · simp [PR.get] at h
 · simp [PR.get] at h
theorem fieldAt_eq {fs : Array Field} {i : Nat} {fd : Field} (h : fs.toList[i]? = some fd) : fs[i]? = some fd := by rw [← Array.getElem?_toList]; exact h
theorem prim_fieldAddr {s : TypeId} {x : Operand} {i : Nat} (hop : o.op = .fieldAddr s x i) {e : Eff} (h : (prim P W o nid S C K).get = some e) (hS : SRel f S a) : EffRun P o a w f nid K e := by
 simp only [prim, hop] at h
 split at h
 · rename_i b off hx
   have hx' := (evalO_sound hS hx).1
   simp only [TV.den, SV.den] at hx'
   split at h
   · rename_i fs ht
     split at h
     · rename_i fd hfd
       split at h
       · simp [PR.get] at h
       · rename_i n hn0 hn
         refine effRun_ret h ?_
         have hne : ¬ n = 0 := by rintro rfl; simp at hn0
         simp only [execOp, hop, hx', Instr.fieldAt, Instr.sureAddr, Sem.run_bind, run_underlying ht, Result.andThen_ok, fieldAt_eq hfd, Sem.run_pure, fieldPlace, sizeOf_run hn, Sem.run_ite, hne, if_false, Addr.add_lit, TV.den, SV.den]
       · simp [PR.get] at h
     · simp [PR.get] at h
   · simp [PR.get] at h
 · rename_i q hx
   have hx' := (evalO_sound hS hx).1
   simp only [TV.den, SV.den] at hx'
   split at h
   · rename_i fs ht
     split at h
     · rename_i fd hfd
       split at h
       · simp [PR.get] at h
       · rename_i n hn0 hn
         refine effRun_ret h ?_
         have hne : ¬ n = 0 := by rintro rfl; simp at hn0
         simp only [execOp, hop, hx', Instr.fieldAt, Instr.sureAddr, Sem.run_bind, run_underlying ht, Result.andThen_ok, fieldAt_eq hfd, Sem.run_pure, fieldPlace, sizeOf_run hn, Sem.run_ite, hne, if_false, TV.den, SV.den]
       · simp [PR.get] at h
     · simp [PR.get] at h
   · simp [PR.get] at h
 · simp [PR.get] at h
theorem prim_field {s : TypeId} {x : Operand} {i : Nat} (hop : o.op = .field s x i) {e : Eff} (h : (prim P W o nid S C K).get = some e) (hS : SRel f S a) : EffRun P o a w f nid K e := by
 simp only [prim, hop] at h
 split at h
 · rename_i l hx
   have hx' := (evalO_sound hS hx).1
   simp only [TV.den] at hx'
   split at h
   · rename_i fs ht
     split at h
     · rename_i fd hfd
       split at h
       · rename_i v hv
         refine effRun_ret h ?_
         simp only [execOp, hop, hx', Instr.field, asAgg, Sem.run_bind, run_underlying ht, Result.andThen_ok, fieldAt_eq hfd, Sem.run_pure, (partS_run hv f w).1]
       · simp [PR.get] at h
     · simp [PR.get] at h
   · simp [PR.get] at h
 · simp [PR.get] at h
theorem prim_indexAddr {t : TypeId} {x y : Operand} (hop : o.op = .indexAddr t x y) {e : Eff} (h : (prim P W o nid S C K).get = some e) (hvc : e.vc.val = true) (hS : SRel f S a) : EffRun P o a w f nid K e := by
 simp only [prim, hop] at h
 split at h
 · rename_i b off hx
   have hx' := (evalO_sound hS hx).1
   simp only [TV.den, SV.den] at hx'
   split at h
   · rename_i k n hy
     have hy' := (evalO_sound hS hy).1
     simp only [TV.den, SV.den] at hy'
     split at h
     · rename_i len el ht
       split at h
       · rename_i sz hsz
         obtain ⟨i, e', hi, hn, hg, _, h1, h2, h3⟩ := get_withIndex h hvc
         refine effRun_same (effRun_ret hg ?_) h1 h2 h3
         have hr : 0 ≤ (i : Int) ∧ (i : Int) < (len : Int) := ⟨by omega, by omega⟩
         simp only [execOp, hop, hx', hy', hn, Instr.indexAt, asIntOf, Sem.run_bind, Sem.run_pure, Result.andThen_ok, run_underlying ht, Instr.sureAddr, hr, and_self, if_true, sizeOf_run hsz, Int.toNat_natCast, Addr.add_lit, TV.den, SV.den]
       · simp [PR.get] at h
     · simp [PR.get] at h
   · simp [PR.get] at h
 · rename_i b off len cp hx
   have hx' := (evalO_sound hS hx).1
   simp only [TV.den, SV.den] at hx'
   split at h
   · rename_i k n hy
     have hy' := (evalO_sound hS hy).1
     simp only [TV.den, SV.den] at hy'
     split at h
     · rename_i el ht
       split at h
       · rename_i sz hsz
         obtain ⟨i, e', hi, hn, hg, _, h1, h2, h3⟩ := get_withIndex h hvc
         refine effRun_same (effRun_ret hg ?_) h1 h2 h3
         have hr : 0 ≤ (i : Int) ∧ (i : Int) < (len : Int) := ⟨by omega, by omega⟩
         simp only [execOp, hop, hx', hy', hn, Instr.indexAt, asIntOf, Sem.run_bind, Sem.run_pure, Result.andThen_ok, run_underlying ht, hr, and_self, if_true, sizeOf_run hsz, Int.toNat_natCast, Addr.add_lit, TV.den, SV.den]
       · simp [PR.get] at h
     · simp [PR.get] at h
   · simp [PR.get] at h
 · rename_i q len cp hx
   have hx' := (evalO_sound hS hx).1
   simp only [TV.den, SV.den] at hx'
   split at h
   · rename_i k n hy
     have hy' := (evalO_sound hS hy).1
     simp only [TV.den, SV.den] at hy'
     split at h
     · rename_i el ht
       split at h
       · rename_i sz hsz
         simp only [PR.get, Option.some.injEq] at h
         subst h
         simp only [SB.val_sym, inRow, Bool.and_eq_true, decide_eq_true_eq] at hvc
         obtain ⟨⟨hq, h0⟩, h1⟩ := hvc
         cases q with
         | none => simp at hq
         | some q =>
          refine ⟨_, _, ?_, .inl rfl, .inr rfl, by simp, by simp⟩
          have hr : 0 ≤ n.val ∧ n.val < (len : Int) := ⟨h0, h1⟩
          simp only [execOp, hop, hx', hy', Instr.indexAt, asIntOf, Sem.run_bind, Sem.run_pure, Result.andThen_ok, run_underlying ht, hr, and_self, if_true, sizeOf_run hsz, TV.den, SV.den, atRow, Option.getD_some, effW, applyWs]
       · simp [PR.get] at h
     · simp [PR.get] at h
   · simp [PR.get] at h
 · simp [PR.get] at h
theorem prim_index {t : TypeId} {x y : Operand} (hop : o.op = .index t x y) {e : Eff} (h : (prim P W o nid S C K).get = some e) (hvc : e.vc.val = true) (hS : SRel f S a) : EffRun P o a w f nid K e := by
 simp only [prim, hop] at h
 split at h
 · rename_i l hx
   have hx' := (evalO_sound hS hx).1
   simp only [TV.den] at hx'
   split at h
   · rename_i k n hy
     have hy' := (evalO_sound hS hy).1
     simp only [TV.den, SV.den] at hy'
     split at h
     · rename_i len el ht
       split at h
       · rename_i sz hsz
         obtain ⟨i, e', hi, hn, hg, _, h1, h2, h3⟩ := get_withIndex h hvc
         split at hg
         · rename_i v hv
           refine effRun_same (effRun_ret hg ?_) h1 h2 h3
           have hr : 0 ≤ (i : Int) ∧ (i : Int) < (len : Int) := ⟨by omega, by omega⟩
           simp only [execOp, hop, hx', hy', hn, Instr.index, asIntOf, Sem.run_bind, Sem.run_pure, Result.andThen_ok, run_underlying ht, hr, and_self, if_true, sizeOf_run hsz, Int.toNat_natCast, (partS_run hv f w).1]
         · simp [PR.get] at hg
       · simp [PR.get] at h
     · simp [PR.get] at h
   · simp [PR.get] at h
 · rename_i s hx
   have hx' := (evalO_sound hS hx).1
   simp only [TV.den, SV.den] at hx'
   split at h
   · rename_i k n hy
     have hy' := (evalO_sound hS hy).1
     simp only [TV.den, SV.den] at hy'
     split at h
     · rename_i ht
       simp only [PR.get, Option.some.injEq] at h
       subst h
       simp only [SI.cmp_val, inStr, Bool.and_eq_true, decide_eq_true_eq] at hvc
       refine ⟨_, _, ?_, .inl rfl, .inr rfl, by simp, by simp⟩
       have hlt : n.val.toNat < s.size := by omega
       have hget : s[n.val.toNat]? = some (s[n.val.toNat]'hlt) := by simp [hlt]
       have hb : byteAt s n.val = ((s[n.val.toNat]'hlt).toNat : Int) := by
        unfold byteAt
        have e1 : s.data.toList[n.val.toNat]? = some (s[n.val.toNat]'hlt) := by
         rw [Array.getElem?_toList]
         exact Array.getElem?_eq_getElem hlt
        rw [e1]
       simp only [execOp, hop, hx', hy', Instr.index, asIntOf, Sem.run_bind, Sem.run_pure, Result.andThen_ok, run_underlying ht, hvc.1, if_true, hget, TV.den, SV.den, SI.map1_val, hb, effW, applyWs]
     · simp [PR.get] at h
   · simp [PR.get] at h
 · simp [PR.get] at h
theorem ofPart_den {p : Part} {v : TV} (h : TV.ofPart p = some v) (f : Nat → Nat) : partDen f p = v.den f ∧ v ≠ .un := by
 unfold TV.ofPart at h
 split at h <;> simp only [Option.some.injEq, reduceCtorEq] at h
 · subst h; exact ⟨rfl, by simp⟩
 · subst h; exact ⟨rfl, by simp⟩
theorem prim_extract {x : Operand} {i : Nat} (hop : o.op = .extract x i) {e : Eff} (h : (prim P W o nid S C K).get = some e) (hS : SRel f S a) : EffRun P o a w f nid K e := by
 simp only [prim, hop] at h
 split at h
 · rename_i ps hx
   have hx' := (evalO_sound hS hx).1
   simp only [TV.den] at hx'
   split at h
   · rename_i p hp
     split at h
     · rename_i v hv
       refine effRun_ret h ?_
       simp [execOp, hop, hx', Instr.extract, hp, (ofPart_den hv f).1]
     · simp [PR.get] at h
   · simp [PR.get] at h
 · simp [PR.get] at h
theorem prim_call {c : Call} (hop : o.op = .call c) {e : Eff} (h : (prim P W o nid S C K).get = some e) (hS : SRel f S a) : EffRun P o a w f nid K e := by
 simp only [prim, hop] at h
 split at h
 · rename_i hcal
   split at h
   · rename_i x hargs
     have hmap : c.args.map a.eval = #[a.eval x] := by
      rw [← Array.toList_inj, Array.toList_map, hargs]; rfl
     split at h
     · rename_i ad n cp hx
       have hx' := (evalO_sound hS hx).1
       simp only [TV.den, SV.den] at hx'
       split at h
       · rename_i t ht
         split at h
         · rename_i el hel
           refine effRun_ret h ?_
           simp [execOp, hop, resolve, hcal, hmap, hx', invoke, builtin, Builtin.len_, ht, run_underlying hel, goInt, TV.den, SV.den, SI.val]
         · simp [PR.get] at h
       · simp [PR.get] at h
     · rename_i rb ro n cp hx
       have hx' := (evalO_sound hS hx).1
       simp only [TV.den, SV.den] at hx'
       split at h
       · rename_i t ht
         split at h
         · rename_i el hel
           refine effRun_ret h ?_
           simp [execOp, hop, resolve, hcal, hmap, hx', invoke, builtin, Builtin.len_, ht, run_underlying hel, goInt, TV.den, SV.den, SI.val]
         · simp [PR.get] at h
       · simp [PR.get] at h
     · rename_i s hx
       have hx' := (evalO_sound hS hx).1
       simp only [TV.den, SV.den] at hx'
       split at h
       · rename_i t ht
         split at h
         · rename_i hel
           refine effRun_ret h ?_
           simp [execOp, hop, resolve, hcal, hmap, hx', invoke, builtin, Builtin.len_, ht, run_underlying hel, goInt, TV.den, SV.den, SI.val]
         · simp [PR.get] at h
       · simp [PR.get] at h
     · simp [PR.get] at h
   · simp [PR.get] at h
 · rename_i hcal
   split at h
   · rename_i k p k' q hl
     split at h
     · rename_i hk
       have := kindEq_eq hk
       subst this
       have hm := (evalList_sound hS hl).1
       simp only [List.map_cons, List.map_nil, TV.den, SV.den] at hm
       refine effRun_ret h ?_
       have hmap : (c.args.map a.eval).toList = [.int k p.val, .int k q.val] := by rw [Array.toList_map, hm]
       simp [execOp, hop, resolve, hcal, invoke, builtin, Builtin.min_, hm, Builtin.min2, TV.den, SV.den, SI.map2_val, gmin]
     · simp [PR.get] at h
   · simp [PR.get] at h
 · rename_i hcal
   split at h
   · rename_i k p k' q hl
     split at h
     · rename_i hk
       have := kindEq_eq hk
       subst this
       have hm := (evalList_sound hS hl).1
       simp only [List.map_cons, List.map_nil, TV.den, SV.den] at hm
       refine effRun_ret h ?_
       simp [execOp, hop, resolve, hcal, invoke, builtin, Builtin.max_, hm, Builtin.max2, TV.den, SV.den, SI.map2_val, gmax]
     · simp [PR.get] at h
   · simp [PR.get] at h
 · simp [PR.get] at h
theorem row_add_at (b o k : Nat) : Addr.add ⟨b, o, none⟩ k = ⟨b, o + k, none⟩ := by
 unfold Addr.add
 split
 · rename_i h0; subst h0; rfl
 · rfl
theorem updF_none {f : Nat → Nat} {nid : Nat} {w : World} {vc : SB} {v : TV} {ws : List _} : updF f nid w ⟨vc, v, ws, none⟩ = f := by
 unfold updF
 simp
theorem prim_slice {t : TypeId} {x : Operand} {lo hi mx : Option Operand} (hop : o.op = .slice t x lo hi mx) {e : Eff} (h : (prim P W o nid S C K).get = some e) (hvc : e.vc.val = true) (hS : SRel f S a) : EffRun P o a w f nid K e := by
 cases mx with
 | some m => simp [prim, hop, PR.get] at h
 | none =>
  simp only [prim, hop] at h
  split at h
  · rename_i s hx
    have hx' := (evalO_sound hS hx).1
    simp only [TV.den, SV.den] at hx'
    split at h
    · rename_i ht
      split at h
      · rename_i l
        split at h
        · rename_i k n hl
          have hl' := (evalO_sound hS hl).1
          simp only [TV.den, SV.den] at hl'
          simp only [PR.get, Option.some.injEq] at h
          subst h
          simp only [SI.cmp_val, Bool.and_eq_true, decide_eq_true_eq] at hvc
          refine ⟨_, _, ?_, .inl rfl, .inr rfl, by simp, by simp⟩
          have hr1 : 0 ≤ n.val ∧ n.val ≤ ((s.size : Nat) : Int) := hvc
          simp [execOp, hop, hx', hl', Instr.sliceAt, Instr.slice, run_underlying ht, Instr.sliceBounds, Instr.sliceBound, asIntOf, hr1, TV.den, SV.den, effW, applyWs]
        · simp [PR.get] at h
      · rename_i hh
        split at h
        · rename_i k n hl
          have hl' := (evalO_sound hS hl).1
          simp only [TV.den, SV.den] at hl'
          simp only [PR.get, Option.some.injEq] at h
          subst h
          simp only [SI.cmp_val, Bool.and_eq_true, decide_eq_true_eq] at hvc
          refine ⟨_, _, ?_, .inl rfl, .inr rfl, by simp, by simp⟩
          have hr1 : 0 ≤ n.val ∧ n.val ≤ ((s.size : Nat) : Int) := hvc
          simp [execOp, hop, hx', hl', Instr.sliceAt, Instr.slice, run_underlying ht, Instr.sliceBounds, Instr.sliceBound, asIntOf, hr1, TV.den, SV.den, effW, applyWs]
        · simp [PR.get] at h
      · rename_i l hh
        split at h
        · rename_i k n k' m hl hm
          have hl' := (evalO_sound hS hl).1
          have hm' := (evalO_sound hS hm).1
          simp only [TV.den, SV.den] at hl' hm'
          simp only [PR.get, Option.some.injEq] at h
          subst h
          simp only [SI.cmp_val, Bool.and_eq_true, decide_eq_true_eq] at hvc
          refine ⟨_, _, ?_, .inl rfl, .inr rfl, by simp, by simp⟩
          have hr1 : 0 ≤ m.val ∧ m.val ≤ ((s.size : Nat) : Int) := ⟨by omega, hvc.2.2⟩
          have hr2 : 0 ≤ n.val ∧ n.val ≤ ((m.val.toNat : Nat) : Int) := ⟨hvc.1, by omega⟩
          simp [execOp, hop, hx', hl', hm', Instr.sliceAt, Instr.slice, run_underlying ht, Instr.sliceBounds, Instr.sliceBound, asIntOf, hr1, hr2, TV.den, SV.den, effW, applyWs]
          intro hlt
          exfalso
          omega
        · simp [PR.get] at h
      · simp [PR.get] at h
    · simp [PR.get] at h
  · rename_i q len cp hx
    have hx' := (evalO_sound hS hx).1
    simp only [TV.den, SV.den] at hx'
    split at h
    · rename_i el ht
      have hel : P.elem t = el := by simp [Program.elem, ht]
      split at h
      · rename_i sz hsz
        have ht' : P.underlying t = some (.slice (P.elem t)) := by rw [hel]; exact ht
        have hsz' : (sizeOf (P.elem t)).run P w = .ok sz w := by rw [hel]; exact sizeOf_run hsz w
        split at h
        · rename_i l
          split at h
          · rename_i k n hl
            have hl' := (evalO_sound hS hl).1
            simp only [TV.den, SV.den] at hl'
            simp only [PR.get, Option.some.injEq] at h
            subst h
            simp only [SB.val_sym, Bool.and_eq_true, decide_eq_true_eq] at hvc
            refine ⟨_, _, ?_, .inl rfl, .inr rfl, by simp, by simp⟩
            simp only [execOp, hop, hx', Option.map_some, Option.map_none, hl', Sem.run_bind, run_sliceAt_slice w t _ _ _ _ ht', run_slice_l w t q len cp ht' k n.val hvc.1 hvc.2, hsz', Result.andThen_ok, Sem.run_pure, sliced, TV.den, SV.den, cutA, effW, applyWs]
          · simp [PR.get] at h
        · rename_i hh
          split at h
          · rename_i k n hl
            have hl' := (evalO_sound hS hl).1
            simp only [TV.den, SV.den] at hl'
            simp only [PR.get, Option.some.injEq] at h
            subst h
            simp only [SB.val_sym, Bool.and_eq_true, decide_eq_true_eq] at hvc
            refine ⟨_, _, ?_, .inl rfl, .inr rfl, by simp, by simp⟩
            simp only [execOp, hop, hx', Option.map_some, Option.map_none, hl', Sem.run_bind, run_sliceAt_slice w t _ _ _ _ ht', run_slice_h w t q len cp ht' k n.val hvc.1 hvc.2, hsz', Result.andThen_ok, Sem.run_pure, sliced, Nat.sub_zero, TV.den, SV.den, cutA, effW, applyWs]
          · simp [PR.get] at h
        · simp [PR.get] at h
      · simp [PR.get] at h
    · simp [PR.get] at h
  · rename_i b off len cp hx
    have hx' := (evalO_sound hS hx).1
    simp only [TV.den, SV.den] at hx'
    split at h
    · rename_i el ht
      have hel : P.elem t = el := by simp [Program.elem, ht]
      split at h
      · rename_i sz hsz
        have ht' : P.underlying t = some (.slice (P.elem t)) := by rw [hel]; exact ht
        have hsz' : (sizeOf (P.elem t)).run P w = .ok sz w := by rw [hel]; exact sizeOf_run hsz w
        split at h
        · rename_i l
          split at h
          · rename_i k n hl
            have hl' := (evalO_sound hS hl).1
            simp only [TV.den, SV.den] at hl'
            simp only [PR.get, Option.some.injEq] at h
            subst h
            simp only [SB.val_sym, Bool.and_eq_true, decide_eq_true_eq] at hvc
            refine ⟨_, _, ?_, .inl rfl, .inr rfl, by simp, by simp⟩
            simp only [execOp, hop, hx', Option.map_some, Option.map_none, hl', Sem.run_bind, run_sliceAt_slice w t _ _ _ _ ht', run_slice_l w t (some ⟨f b, off, none⟩) len cp ht' k n.val hvc.1 hvc.2.1, hsz', Result.andThen_ok, Sem.run_pure, sliced, TV.den, SV.den, effW, applyWs, updF_none]
            rw [if_neg (show ¬ cp = n.val.toNat by omega), row_add_at]
          · simp [PR.get] at h
        · rename_i hh
          split at h
          · rename_i k n hl
            have hl' := (evalO_sound hS hl).1
            simp only [TV.den, SV.den] at hl'
            simp only [PR.get, Option.some.injEq] at h
            subst h
            simp only [SB.val_sym, Bool.and_eq_true, decide_eq_true_eq] at hvc
            refine ⟨_, _, ?_, .inl rfl, .inr rfl, by simp, by simp⟩
            simp only [execOp, hop, hx', Option.map_some, Option.map_none, hl', Sem.run_bind, run_sliceAt_slice w t _ _ _ _ ht', run_slice_h w t (some ⟨f b, off, none⟩) len cp ht' k n.val hvc.1 hvc.2, hsz', Result.andThen_ok, Sem.run_pure, sliced, Nat.sub_zero, TV.den, SV.den, effW, applyWs, updF_none]
            rw [row_add_at, Nat.zero_mul, Nat.add_zero, ite_self]
          · simp [PR.get] at h
        · simp [PR.get] at h
      · simp [PR.get] at h
    · simp [PR.get] at h
  · simp [PR.get] at h
theorem prim_arrayAt {arr : TypeId} {x : Operand} (hop : o.op = .sliceToArrayPointer arr x) {e : Eff} (h : (prim P W o nid S C K).get = some e) (hvc : e.vc.val = true) (hS : SRel f S a) : EffRun P o a w f nid K e := by
 simp only [prim, hop] at h
 split at h
 · rename_i q len cp hx
   have hx' := (evalO_sound hS hx).1
   simp only [TV.den, SV.den] at hx'
   split at h
   · rename_i k el ht
     simp only [PR.get, Option.some.injEq] at h
     subst h
     simp only [SB.val_sym, Bool.and_eq_true, decide_eq_true_eq] at hvc
     cases q with
     | none => simp at hvc
     | some q =>
      refine ⟨_, _, ?_, .inl rfl, .inr rfl, by simp, by simp⟩
      have hlt : ¬ len < k := by omega
      simp only [execOp, hop, hx', Instr.arrayAt, Sem.run_bind, Sem.run_pure, Result.andThen_ok, run_underlying ht, hlt, if_false, TV.den, SV.den, Option.getD_some, effW, applyWs]
   · simp [PR.get] at h
 · simp [PR.get] at h
theorem prim_sound {e : Eff} (h : (prim P W o nid S C K).get = some e) (hvc : e.vc.val = true) (hS : SRel f S a) (hC : CRel f C w) (hK : KRel f K w) (hO : Old W w) : EffRun P o a w f nid K e := by
 cases hop : o.op
 case move x => exact prim_move (.inl hop) h hS
 case assign x => exact prim_move (.inr hop) h hS
 case pick => exact prim_pick hop h hS
 case alloc => exact prim_alloc hop h
 case box => exact prim_box hop h hS
 case build => exact prim_build hop h hS
 case buildSlice => exact prim_buildSlice hop h hS
 case load => exact prim_load hop h hvc hS hC hO
 case store => exact prim_store hop h hS hK
 case nilCheck => exact prim_nilCheck hop h hS
 case binOp => exact prim_binOp hop h hvc hS
 case unOp => exact prim_unOp hop h hS
 case convert => exact prim_convert hop h hS hC
 case makeFunc => exact prim_makeFunc hop h hS
 case fieldAddr => exact prim_fieldAddr hop h hS
 case field => exact prim_field hop h hS
 case indexAddr => exact prim_indexAddr hop h hvc hS
 case index => exact prim_index hop h hvc hS
 case extract => exact prim_extract hop h hS
 case slice => exact prim_slice hop h hvc hS
 case sliceToArrayPointer => exact prim_arrayAt hop h hvc hS
 case call => exact prim_call hop h hS
 all_goals simp [prim, hop, PR.get] at h
end
end Go.Sx
