/- A part of the proof: the reference is safe, both packages write and read alike. Several texts in one; printed by slim28.py out of the texts of wip. -/
import Derived.Test.YtjmnolhkkpaodaaGreatDoorZ00
import Derived.WalkKit
set_option linter.all false
namespace Go.Sx
open Go
theorem look_append {α : Type} (a b : List (Nat × α)) (k : Nat) : look (a ++ b) k = match look a k with | some v => some v | none => look b k := by
 induction a with
 | nil => rfl
 | cons x r ih =>
  obtain ⟨i, v⟩ := x
  simp only [List.cons_append, look]
  cases Nat.beq i k <;> simp [ih]
theorem look_cons {α : Type} (i : Nat) (v : α) (r : List (Nat × α)) (k : Nat) : look ((i, v) :: r) k = if i = k then some v else look r k := by
 simp only [look]
 cases h : Nat.beq i k
 · rw [if_neg (Nat.ne_of_beq_eq_false h)]
 · rw [if_pos (Nat.eq_of_beq_eq_true h)]
theorem findC_append (a b : List (Nat × Nat × SV)) (k o : Nat) : findC (a ++ b) k o = match findC a k o with | some v => some v | none => findC b k o := by
 induction a with
 | nil => rfl
 | cons x r ih =>
  obtain ⟨i, p, v⟩ := x
  simp only [List.cons_append, findC]
  cases Nat.beq i k <;> cases Nat.beq p o <;> simp [ih]
theorem findC_cons (i p : Nat) (v : SV) (r : List (Nat × Nat × SV)) (k o : Nat) : findC ((i, p, v) :: r) k o = if i = k ∧ p = o then some v else findC r k o := by
 simp only [findC]
 cases h : Nat.beq i k
 · rw [if_neg (fun hh => Nat.ne_of_beq_eq_false h hh.1)]
 · cases h' : Nat.beq p o
   · rw [if_neg (fun hh => Nat.ne_of_beq_eq_false h' hh.2)]
   · rw [if_pos ⟨Nat.eq_of_beq_eq_true h, Nat.eq_of_beq_eq_true h'⟩]
theorem ofCell_den {v : Value} {s : SV} (h : ofCell v = some s) (f : Nat → Nat) : s.den f = v := by
 unfold ofCell at h
 split at h <;> simp at h <;> subst h <;> rfl
theorem ofCells_den : ∀ {l : List Value} {r : List SV}, ofCells l = some r → ∀ f : Nat → Nat, r.map (SV.den f) = l
 | [], r, h, f => by simp [ofCells] at h; subst h; rfl
 | v :: l, r, h, f => by
  simp only [ofCells] at h
  split at h <;> try contradiction
  rename_i s hs
  split at h <;> try contradiction
  rename_i r' hr
  simp at h
  subst h
  simp [ofCell_den hs, ofCells_den hr]
theorem ofValue_den {v : Value} {t : TV} (h : ofValue v = some t) (f : Nat → Nat) : t.den f = v ∧ t ≠ .un := by
 unfold ofValue at h
 split at h
 · rename_i cs
   split at h <;> try contradiction
   rename_i l hl
   simp at h
   subst h
   refine ⟨?_, by simp⟩
   simp [TV.den, dens, ofCells_den hl f]
 · split at h <;> try contradiction
   rename_i s hs
   simp at h
   subst h
   exact ⟨ofCell_den hs f, by simp⟩
def SRel (f : Nat → Nat) (S : Nat → Option TV) (a : Act) : Prop := ∀ t v, S t = some v → v ≠ .un → a.tmps.getD t undef = v.den f
def CRel (f : Nat → Nat) (C : Nat → Nat → Option SV) (w : World) : Prop := ∀ b o v, C b o = some v → w.cell? ⟨f b, o, none⟩ = some (v.den f)
def KRel (f : Nat → Nat) (K : Nat → Option BI) (w : World) : Prop := ∀ b i, K b = some i → ∃ arr, w.heap[f b]? = some (.cells arr i.elem (0, 0)) ∧ arr.size = i.init.length
structure Old (W w : World) : Prop where
 cell : ∀ {a : Addr} {v : Value}, W.cell? a = some v → w.cell? a = some v
theorem cell_lt {W : World} {a : Addr} {v : Value} (hc : W.cell? a = some v) : a.block < W.heap.size := by
 rcases Nat.lt_or_ge a.block W.heap.size with h1 | h1
 · exact h1
 · unfold World.cell? at hc
   rw [Array.getElem?_eq_none h1] at hc
   cases hc
def Free (W : World) (i : Nat) : Prop := ∀ a : Addr, a.block = i → W.cell? a = none
theorem free_of {W : World} {i : Nat} (h : ∀ (a : Addr) (v : Value), a.block = i → W.cell? a = some v → False) : Free W i := by
 intro a ha
 cases hc : W.cell? a with
 | none => rfl
 | some v => exact (h a v ha hc).elim
theorem Free.of_size {W : World} {i : Nat} (h : W.heap.size ≤ i) : Free W i := free_of fun a v ha hc => by
 have := cell_lt hc
 omega
theorem Old.free {W w : World} (h : Old W w) {i : Nat} (hi : w.heap.size ≤ i) : Free W i := free_of fun a v ha hc => by
 have := cell_lt (h.cell hc)
 omega
theorem isInt_cell {W : World} {k : IntKind} {a : Addr} (h : isInt W k a = true) : W.cell? a = some (.int k (rdInt W a)) := by
 unfold isInt at h
 split at h
 · rename_i k' n hc
   simp only [decide_eq_true_eq] at h
   subst h
   simp [rdInt, hc]
 · cases h
theorem isBool_cell {W : World} {a : Addr} (h : isBool W a = true) : W.cell? a = some (.bool (rdBool W a)) := by
 unfold isBool at h
 split at h
 · rename_i b hc
   simp [rdBool, hc]
 · cases h
theorem isStr_cell {W : World} {a : Addr} (h : isStr W a = true) : W.cell? a = some (.string (rdStr W a)) := by
 unfold isStr at h
 split at h
 · rename_i b hc
   simp [rdStr, hc]
 · cases h
theorem oldCell_cell {P : Program} {W : World} {t : TypeId} {a : Addr} {c : Bool} {v : SV} (h : oldCell P W t a = some (c, v)) (hc : c = true) (f : Nat → Nat) : W.cell? a = some (v.den f) := by
 unfold oldCell at h
 split at h
 · simp only [Option.some.injEq, Prod.mk.injEq] at h
   obtain ⟨rfl, rfl⟩ := h
   exact isInt_cell hc
 · simp only [Option.some.injEq, Prod.mk.injEq] at h
   obtain ⟨rfl, rfl⟩ := h
   exact isBool_cell hc
 · simp only [Option.some.injEq, Prod.mk.injEq] at h
   obtain ⟨rfl, rfl⟩ := h
   exact isStr_cell hc
 · cases h
theorem oldCells_get {P : Program} {W : World} {a : Addr} (f : Nat → Nat) : ∀ {ts : List TypeId} {i : Nat} {l : List (Bool × SV)}, oldCells P W a i ts = some l → l.all (·.1) = true →
  l.length = ts.length ∧ ∀ j v, (l.map (·.2))[j]? = some v → W.cell? (a.add (i + j)) = some (v.den f)
 | [], i, l, h, _ => by simp [oldCells] at h; subst h; simp
 | t :: ts, i, l, h, hc => by
  simp only [oldCells] at h
  split at h <;> try contradiction
  rename_i v hv
  split at h <;> try contradiction
  rename_i r hr
  simp only [Option.some.injEq] at h
  subst h
  simp only [List.all_cons, Bool.and_eq_true] at hc
  obtain ⟨h1, h2⟩ := oldCells_get f hr hc.2
  refine ⟨by simp [h1], ?_⟩
  intro j u hj
  cases j with
  | zero =>
   simp at hj
   subst hj
   obtain ⟨c, v⟩ := v
   exact oldCell_cell hv hc.1 f
  | succ j =>
   simp at hj
   have := h2 j u (by simpa using hj)
   rw [show i + (j + 1) = i + 1 + j by omega]
   exact this
theorem evalO_sound {f : Nat → Nat} {S : Nat → Option TV} {a : Act} (hS : SRel f S a) {x : Operand} {v : TV} (h : evalO S x = some v) : a.eval x = v.den f ∧ v ≠ .un := by
 cases x with
 | tmp t =>
  simp only [evalO] at h
  split at h
  · contradiction
  · contradiction
  · rename_i hne _
    have hv : v ≠ .un := by rintro rfl; exact hne h
    exact ⟨hS t v h hv, hv⟩
 | const c =>
  have := ofValue_den (f := f) h
  exact ⟨this.1.symm, this.2⟩
 | func g =>
  simp only [evalO, Option.some.injEq] at h
  subst h
  exact ⟨by simp [Act.eval, TV.den, SV.den], by simp⟩
 | global g => simp [evalO] at h
theorem evalList_sound {f : Nat → Nat} {S : Nat → Option TV} {a : Act} (hS : SRel f S a) : ∀ {xs : List Operand} {l : List TV}, evalList S xs = some l → xs.map a.eval = l.map (TV.den f) ∧ ∀ v ∈ l, v ≠ .un
 | [], l, h => by simp [evalList] at h; subst h; simp
 | x :: xs, l, h => by
  simp only [evalList] at h
  split at h <;> try contradiction
  rename_i v hv
  split at h <;> try contradiction
  rename_i r hr
  simp at h
  subst h
  have h1 := evalO_sound hS hv
  have h2 := evalList_sound hS hr
  refine ⟨by simp [h1.1, h2.1], ?_⟩
  intro u hu
  rcases List.mem_cons.1 hu with rfl | hu
  · exact h1.2
  · exact h2.2 u hu
theorem TV.cells_den {v : TV} {l : List SV} (h : v.cells = some l) (f : Nat → Nat) : (v.den f).cells.toList = l.map (SV.den f) := by
 cases v with
 | un => simp [TV.cells] at h
 | ud => simp [TV.cells] at h
 | one s => simp [TV.cells] at h; subst h; cases s <;> rfl
 | agg c => simp [TV.cells] at h; subst h; simp [TV.den, dens, Value.cells]
 | tup _ => simp [TV.cells] at h
theorem SV.den_one (s : SV) (f : Nat → Nat) : (s.den f).oneCell' = true := by cases s <;> rfl
theorem isAgg_run {P : Program} {t : TypeId} {b : Bool} (h : aggT P t = some b) (w : World) : (isAgg t).run P w = .ok b w := by
 unfold aggT at h
 unfold isAgg
 split at h <;> try contradiction
 all_goals
  rename_i hd
  simp only [Option.some.injEq] at h
  subst h
  rw [Sem.run_bind, run_underlying hd]
 · simp
 · simp
 · rename_i d h1 h2 _
   cases d <;> simp_all
theorem sizeOf_run {P : Program} {t : TypeId} {n : Nat} (h : sizeT P t = some n) (w : World) : (sizeOf t).run P w = .ok n w := by
 unfold sizeT at h
 split at h <;> try contradiction
 rename_i i hi
 simp at h
 simp [sizeOf, typeInfo, hi, h]
theorem zero_run {P : Program} {t : TypeId} {l : List SV} (h : zeroT P t = some l) (w : World) : ∃ z, (zeroValue t).run P w = .ok z w ∧ ∀ f : Nat → Nat, z.cells.toList = l.map (SV.den f) := by
 unfold zeroT at h
 split at h <;> try contradiction
 rename_i i hi
 split at h <;> try contradiction
 rename_i z hz
 exact ⟨z, by simp [zeroValue, typeInfo, hi, hz], fun f => (ofCells_den h f).symm⟩
theorem rangeC_get {C : Nat → Nat → Option SV} {b : Nat} : ∀ {n o : Nat} {l : List SV}, rangeC C b o n = some l → l.length = n ∧ ∀ j v, l[j]? = some v → C b (o + j) = some v
 | 0, o, l, h => by simp [rangeC] at h; subst h; simp
 | n + 1, o, l, h => by
  simp only [rangeC] at h
  split at h <;> try contradiction
  rename_i v hv
  split at h <;> try contradiction
  rename_i r hr
  simp at h
  subst h
  obtain ⟨h1, h2⟩ := rangeC_get hr
  refine ⟨by simp [h1], ?_⟩
  intro j u hj
  cases j with
  | zero => simp at hj; subst hj; exact hv
  | succ j =>
   simp at hj
   have := h2 j u hj
   rw [← this]
   congr 1
   omega
theorem loadCells_run {P : Program} {f : Nat → Nat} {C : Nat → Nat → Option SV} {w : World} (hC : CRel f C w) {b o n : Nat} {l : List SV} (h : rangeC C b o n = some l) :
  (loadCells ⟨f b, o, none⟩ n).run P w = .ok (dens f l) w := by
 obtain ⟨hl, hg⟩ := rangeC_get h
 have := run_loadCells_list (P := P) w ⟨f b, o, none⟩ (l.map (SV.den f)) (by
  intro j v hj
  simp only [List.getElem?_map, Option.map_eq_some_iff] at hj
  obtain ⟨s, hs, rfl⟩ := hj
  rw [Addr.add_lit]
  exact hC b (o + j) s (hg j s hs))
 rw [List.length_map, hl] at this
 exact this
def applyWs (f : Nat → Nat) : List (Nat × Nat × SV) → World → World
 | [], w => w
 | (b, o, v) :: r, w => (applyWs f r w).setCell ⟨f b, o, none⟩ (v.den f)
theorem blk_setCell {w : World} {i : Nat} {arr : Array Value} {e : TypeId} (h : w.heap[i]? = some (.cells arr e (0, 0))) (a : Addr) (v : Value) :
  ∃ arr', (w.setCell a v).heap[i]? = some (.cells arr' e (0, 0)) ∧ arr'.size = arr.size := by
 unfold World.setCell
 simp only [Array.getElem?_modify]
 split
 · rw [h]
   refine ⟨if a.spot.isSome then arr else arr.setIfInBounds a.off v, by simp, ?_⟩
   split <;> simp
 · exact ⟨arr, h, rfl⟩
theorem blk_applyWs {w : World} {f : Nat → Nat} {i : Nat} {arr : Array Value} {e : TypeId} (h : w.heap[i]? = some (.cells arr e (0, 0))) : ∀ ws : List (Nat × Nat × SV),
  ∃ arr', (applyWs f ws w).heap[i]? = some (.cells arr' e (0, 0)) ∧ arr'.size = arr.size
 | [] => ⟨arr, h, rfl⟩
 | (b, o, v) :: r => by
  obtain ⟨arr1, h1, hs1⟩ := blk_applyWs h r
  obtain ⟨arr2, h2, hs2⟩ := blk_setCell h1 ⟨f b, o, none⟩ (v.den f)
  exact ⟨arr2, h2, hs2.trans hs1⟩
theorem cell_of_blk {w : World} {b o : Nat} {arr : Array Value} {e : TypeId} (h : w.heap[b]? = some (.cells arr e (0, 0))) : w.cell? ⟨b, o, none⟩ = arr[o]? := by
 simp [World.cell?, h]
theorem frozen_of_blk {w : World} {b o : Nat} {arr : Array Value} {e : TypeId} (h : w.heap[b]? = some (.cells arr e (0, 0))) : w.frozen? ⟨b, o, none⟩ = false := by
 simp [World.frozen?, h]
theorem store_run {P : Program} {w : World} {b o : Nat} {arr : Array Value} {e : TypeId} (h : w.heap[b]? = some (.cells arr e (0, 0))) (ho : o < arr.size) (v : SV) (f : Nat → Nat) :
  (store ⟨b, o, none⟩ (v.den f)).run P w = .ok () (w.setCell ⟨b, o, none⟩ (v.den f)) := by
 rw [run_store P w _ _ _ (SV.den_one v f), cell_of_blk h, frozen_of_blk h]
 simp [ho]
theorem storeCells_run {P : Program} {f : Nat → Nat} {w : World} {b off : Nat} {arr : Array Value} {e : TypeId} (h : w.heap[f b]? = some (.cells arr e (0, 0))) :
  ∀ (vs : List SV) (i : Nat) (acc : List (Nat × Nat × SV)), off + i + vs.length ≤ arr.size →
   (storeCells ⟨f b, off, none⟩ (vs.map (SV.den f)) i).run P (applyWs f acc w) = .ok () (applyWs f (wsOf b (off + i) vs acc) w)
 | [], i, acc, _ => by simp [storeCells, wsOf]
 | v :: vs, i, acc, hle => by
  obtain ⟨arr', h', hs'⟩ := blk_applyWs (f := f) h acc
  simp only [List.map_cons, storeCells, Sem.run_bind, Addr.add_lit]
  have ho : off + i < arr'.size := by rw [hs']; simp at hle; omega
  rw [store_run h' ho v f]
  simp only [Result.andThen_ok, wsOf]
  have hlen : off + (i + 1) + vs.length ≤ arr.size := by simp at hle; omega
  have := storeCells_run (P := P) h vs (i + 1) ((b, off + i, v) :: acc) hlen
  simp only [applyWs] at this
  rw [this]
  rfl
theorem partS_run {P : Program} {t : TypeId} {l : List SV} {off : Nat} {v : TV} (h : partS P t l off = some v) (f : Nat → Nat) (w : World) :
  (part t (dens f l) off).run P w = .ok (v.den f) w ∧ v ≠ .un := by
 unfold partS at h
 split at h
 · rename_i hagg
   split at h <;> try contradiction
   rename_i n hn
   split at h <;> try contradiction
   rename_i hle
   simp at h
   subst h
   refine ⟨?_, by simp⟩
   unfold part
   rw [Sem.run_bind, isAgg_run hagg]
   simp only [Result.andThen_ok, if_true]
   rw [Sem.run_bind, sizeOf_run hn]
   simp [TV.den, dens, List.map_drop, List.map_take]
 · rename_i hagg
   split at h <;> try contradiction
   rename_i s hs
   simp at h
   subst h
   refine ⟨?_, by simp⟩
   unfold part
   rw [Sem.run_bind, isAgg_run hagg]
   have : (dens f l)[off]? = some (s.den f) := by simp [dens, hs]
   simp [this, TV.den]
 · contradiction
theorem fillRow (off : Nat) : ∀ (l : List Value) (k : Nat) (cells : Array Value), off + k + l.length ≤ cells.size →
  (l.zipIdx k).foldl (fun cs (x : Value × Nat) => cs.setIfInBounds (off + x.2) x.1) cells = (cells.toList.take (off + k) ++ l ++ cells.toList.drop (off + k + l.length)).toArray
 | [], k, cells, _ => by simp
 | v :: l, k, cells, h => by
  simp only [List.zipIdx_cons, List.foldl_cons]
  rw [fillRow off l (k + 1) _ (by simp at h ⊢; omega)]
  have hk : off + k < cells.toList.length := by simp at h ⊢; omega
  simp only [Array.toList_setIfInBounds, List.length_cons]
  congr 1
  have e1 : (cells.toList.set (off + k) v).take (off + (k + 1)) = cells.toList.take (off + k) ++ [v] := by
   rw [show off + (k + 1) = off + k + 1 by omega, List.take_succ_eq_append_getElem (by simpa using hk), List.take_set_of_le (Nat.le_refl _)]
   simp
  have e2 : (cells.toList.set (off + k) v).drop (off + (k + 1) + l.length) = cells.toList.drop (off + k + (l.length + 1)) := by
   rw [List.drop_set_of_lt (by omega)]
   congr 1
   omega
  rw [e1, e2]
  simp
theorem fillS_fill {place : Nat → Option (Nat × Nat)} (f : Nat → Nat) : ∀ {parts : List (Nat × TV)} {cells r : List SV}, fillS place cells parts = some r →
  Instr.fill place (dens f cells) (parts.map fun x => (x.1, x.2.den f)) = some (dens f r)
 | [], cells, r, h => by simp [fillS] at h; subst h; simp [Instr.fill]
 | (i, v) :: parts, cells, r, h => by
  simp only [fillS] at h
  split at h <;> try contradiction
  rename_i off size hp
  split at h <;> try contradiction
  rename_i l hl
  split at h <;> try contradiction
  rename_i hc
  simp only [Bool.and_eq_true, Nat.beq_eq, Nat.ble_eq] at hc
  have hcl := TV.cells_den hl f
  have hsz : (v.den f).cells.size = size := by rw [← Array.length_toList, hcl, List.length_map, hc.1]
  simp only [List.map_cons, Instr.fill, hp, hsz]
  rw [if_neg (by simp [dens, hc.2])]
  have := fillS_fill f h
  rw [← this]
  congr 1
  rw [← Array.foldl_toList, Array.toList_zipIdx, hcl]
  have h2 := fillRow off (l.map (SV.den f)) 0 (dens f cells) (by simp [dens, hc.1, hc.2])
  simp only [Nat.add_zero] at h2
  rw [h2]
  simp [dens, List.map_take, List.map_drop, hc.1]
theorem places_mapM {P : Program} : ∀ {fs : List Field} {pl : List (Nat × Nat)}, places P fs = some pl → fs.mapM (fun f => (P.info? f.type).map fun i => (f.offset, i.size)) = some pl
 | [], pl, h => by simp [places] at h; subst h; rfl
 | f :: fs, pl, h => by
  simp only [places] at h
  split at h <;> try contradiction
  rename_i n hn
  split at h <;> try contradiction
  rename_i l hl
  simp at h
  subst h
  unfold sizeT at hn
  split at hn <;> try contradiction
  rename_i i hi
  simp at hn
  simp [List.mapM_cons, hi, hn, places_mapM hl]
theorem evalParts_sound {f : Nat → Nat} {S : Nat → Option TV} {a : Act} (hS : SRel f S a) : ∀ {ps : List (Nat × Operand)} {l : List (Nat × TV)}, evalParts S ps = some l →
  ps.map (fun x => (x.1, a.eval x.2)) = l.map fun x => (x.1, x.2.den f)
 | [], l, h => by simp [evalParts] at h; subst h; rfl
 | (i, x) :: ps, l, h => by
  simp only [evalParts] at h
  split at h <;> try contradiction
  rename_i v hv
  split at h <;> try contradiction
  rename_i r hr
  simp at h
  subst h
  simp [(evalO_sound hS hv).1, evalParts_sound hS hr]
theorem kindEq_eq {a b : IntKind} (h : kindEq a b = true) : a = b := by cases a <;> cases b <;> first | rfl | (simp [kindEq] at h)
theorem SI.val_lit (n : Int) : (SI.lit n).val = n := rfl
theorem SB.val_lit (b : Bool) : (SB.lit b).val = b := rfl
theorem SB.val_sym (b : Bool) : (SB.sym b).val = b := rfl
theorem SB.not_val (a : SB) : a.not.val = !a.val := by cases a <;> rfl
theorem SB.and_val (a b : SB) : (a.and b).val = (a.val && b.val) := by
 cases a with
 | lit x => cases x <;> cases b <;> simp [SB.and, SB.val]
 | sym x => cases b with
  | lit y => cases y <;> simp [SB.and, SB.val]
  | sym y => simp [SB.and, SB.val]
theorem SB.eq_val (a b : SB) : (SB.eq a b).val = (a.val == b.val) := by cases a <;> cases b <;> rfl
theorem SB.ite_val (c : Bool) (a b : SB) : (SB.ite c a b).val = bif c then a.val else b.val := by
 cases a with
 | lit x => cases b with
  | lit y => cases x <;> cases y <;> cases c <;> rfl
  | sym y => cases x <;> rfl
 | sym x => cases b <;> rfl
theorem SI.ite_val (c : Bool) (a b : SI) : (SI.ite c a b).val = bif c then a.val else b.val := by
 cases a with
 | lit x => cases b with
  | lit y =>
   simp only [SI.ite]
   split
   · rename_i h; simp at h; subst h; cases c <;> rfl
   · rfl
  | sym y => rfl
 | sym x => cases b <;> rfl
theorem SI.map2_val (g : Int → Int → Int) (a b : SI) : (SI.map2 g a b).val = g a.val b.val := by cases a <;> cases b <;> rfl
theorem SI.map1_val (g : Int → Int) (a : SI) : (SI.map1 g a).val = g a.val := by cases a <;> rfl
theorem SI.cmp_val (g : Int → Int → Bool) (a b : SI) : (SI.cmp g a b).val = g a.val b.val := by cases a <;> cases b <;> rfl
theorem intBin_run {P : Program} {op : BinOp} {k : IntKind} {a b : SI} {c : SB} {v : SV} (h : intBin op k a b = some (c, v)) (hc : c.val = true) (t : TypeId) (f : Nat → Nat) (w : World) :
  (binOp op t (.int k a.val) (.int k b.val)).run P w = .ok (v.den f) w := by
 cases op <;> simp only [intBin, Option.some.injEq, Prod.mk.injEq, reduceCtorEq] at h <;> obtain ⟨rfl, rfl⟩ := h <;> simp only [SV.den, SI.map2_val, SI.cmp_val, SI.val_lit] at hc ⊢
 case quo =>
  have hc' : ¬ b.val = 0 := by intro h0; simp [h0] at hc
  simp [binOp, Op.intDiv, hc', gquo]
 case rem =>
  have hc' : ¬ b.val = 0 := by intro h0; simp [h0] at hc
  simp [binOp, Op.intDiv, hc']
 all_goals simp [binOp, Op.intArith, Op.intCmp, intBits_and, intBits_or, intBits_xor, intBits_andNot, gadd, gsub, gmul]
theorem shift_run {P : Program} {op : BinOp} {k k' : IntKind} {a b : Int} (h : 0 ≤ b) (t : TypeId) (w : World) (ho : op = .shl ∨ op = .shr) :
  (binOp op t (.int k a) (.int k' b)).run P w = .ok (.int k (if op = .shl then gshl k a b else gshr k a b)) w := by
 rcases ho with rfl | rfl <;> simp [binOp, Op.shift, show ¬ b < 0 by omega, gshl, gshr]
theorem catB_eq (a b : ByteArray) : a ++ b = catB a b := by
 apply ByteArray.ext
 apply Array.ext'
 simp [catB, ByteArray.data_append]
theorem sBin_run {P : Program} {op : BinOp} {t : TypeId} {a b v : SV} {c : SB} (h : sBin P op t a b = some (c, v)) (hc : c.val = true) (f : Nat → Nat) (w : World) :
  (binOp op t (a.den f) (b.den f)).run P w = .ok (v.den f) w := by
 unfold sBin at h
 split at h
 · rename_i k a k' b
   split at h
   · simp only [Option.some.injEq, Prod.mk.injEq] at h
     obtain ⟨rfl, rfl⟩ := h
     simp only [SI.cmp_val, SI.val_lit] at hc
     simp only [SV.den, SI.map2_val]
     rw [shift_run (of_decide_eq_true hc) t w (.inl rfl)]
     simp
   · simp only [Option.some.injEq, Prod.mk.injEq] at h
     obtain ⟨rfl, rfl⟩ := h
     simp only [SI.cmp_val, SI.val_lit] at hc
     simp only [SV.den, SI.map2_val]
     rw [shift_run (of_decide_eq_true hc) t w (.inr rfl)]
     simp
   · split at h <;> try contradiction
     rename_i hk
     have := kindEq_eq hk
     subst this
     exact intBin_run h hc t f w
 · rename_i a b
   split at h <;> try contradiction
   rename_i hb
   unfold isBoolT at hb
   split at hb <;> try contradiction
   rename_i ht
   split at h <;> simp only [Option.some.injEq, Prod.mk.injEq, reduceCtorEq] at h <;> obtain ⟨rfl, rfl⟩ := h
   · simp [SV.den, binOp, Op.equal, Op.maxDepth, run_equalIn_bool' w 9999 t _ _ ht, SB.eq_val]
   · simp [SV.den, binOp, Op.equal, Op.maxDepth, run_equalIn_bool' w 9999 t _ _ ht, SB.eq_val, SB.not_val]
 · rename_i a b
   split at h <;> simp only [Option.some.injEq, Prod.mk.injEq, reduceCtorEq] at h <;> obtain ⟨rfl, rfl⟩ := h
   · simp [SV.den, binOp, Op.stringOp, SB.val_sym]
   · simp [SV.den, binOp, Op.stringOp, SB.val_sym]
   · simp only [SB.val_sym, decide_eq_true_eq] at hc
     have hm : ¬ ((a.size + b.size : Nat) : Int) > IntKind.i64.max := by
      have e : IntKind.i64.max = 9223372036854775807 := by decide
      rw [e]
      omega
     simp only [SV.den, binOp, Op.stringOp, if_neg hm, Sem.run_pure, catB_eq]
 · contradiction
theorem eqGuard_one {P : Program} (op : BinOp) (t : TypeId) (x y : Operand) (a b : SV) (f : Nat → Nat) (w : World) (hn : a ≠ .nilI) : (eqGuard op t x y (a.den f) (b.den f)).run P w = .ok () w := by
 cases a <;> first | contradiction | (simp [SV.den, eqGuard_at_int, eqGuard_at_bool, eqGuard_at_pointer, eqGuard_at_func, eqGuard_at_string, eqGuard_at_slice, eqGuard_at_nilFunc, eqGuard_at_map])
theorem eqCell_run {P : Program} {t : TypeId} {a b : SV} {c : SB} (h : eqCell P t a b = some c) (f : Nat → Nat) (w : World) (d : Nat) : (Op.equalIn (d + 1) t (a.den f) (b.den f)).run P w = .ok c.val w := by
 unfold eqCell at h
 split at h
 · split at h <;> try contradiction
   rename_i hk
   split at h <;> try contradiction
   rename_i ht
   simp only [Option.some.injEq] at h
   subst h
   have := kindEq_eq hk
   subst this
   simp only [SV.den, SI.cmp_val]
   exact run_equalIn_int w d t _ _ _ _ ht
 · split at h <;> try contradiction
   rename_i ht
   simp only [Option.some.injEq] at h
   subst h
   simp only [SV.den, SB.eq_val]
   exact run_equalIn_bool' w d t _ _ ht
 · split at h <;> try contradiction
   rename_i ht
   simp only [Option.some.injEq] at h
   subst h
   simp [SV.den, SB.val_sym, Op.equalIn, run_underlying ht]
 · contradiction
theorem eqFields_run {P : Program} {E : TypeId → TV → TV → Option SB} {d : Nat} (f : Nat → Nat) (xs ys : List SV)
  (hE : ∀ {t a b c} (w : World), E t a b = some c → (Op.equalIn d t (a.den f) (b.den f)).run P w = .ok c.val w) : ∀ {fs : List Field} {c : SB} (w : World), eqFields P E xs ys fs = some c →
   (Op.eqFields d (dens f xs) (dens f ys) fs).run P w = .ok c.val w
 | [], c, w, h => by simp [eqFields] at h; subst h; rfl
 | x :: fs, c, w, h => by
  simp only [eqFields] at h
  split at h <;> try contradiction
  rename_i hn
  split at h <;> try contradiction
  rename_i a ha
  split at h <;> try contradiction
  rename_i b hb
  split at h <;> try contradiction
  rename_i c1 hc1
  split at h <;> try contradiction
  rename_i c2 hc2
  simp only [Option.some.injEq] at h
  subst h
  simp only [Op.eqFields]
  rw [if_pos (by simpa using hn)]
  simp only [Sem.run_bind, (partS_run ha f w).1, (partS_run hb f w).1, Result.andThen_ok, hE w hc1]
  have := eqFields_run f xs ys hE w hc2
  cases hv : c1.val <;> simp [SB.and_val, hv, this]
theorem eqTV_run {P : Program} (f : Nat → Nat) : ∀ {n : Nat} {t : TypeId} {a b : TV} {c : SB} {d : Nat} (w : World), eqTV P n t a b = some c → n ≤ d → (Op.equalIn d t (a.den f) (b.den f)).run P w = .ok c.val w
 | 0, _, _, _, _, _, _, h, _ => by simp [eqTV] at h
 | n + 1, t, a, b, c, 0, w, h, hd => by omega
 | n + 1, t, a, b, c, d + 1, w, h, hd => by
  simp only [eqTV] at h
  split at h
  · exact eqCell_run h f w d
  · rename_i xs ys
    split at h <;> try contradiction
    rename_i fs ht
    split at h <;> try contradiction
    rename_i hs
    have hfo : P.fieldsOf t = fs := by simp [Program.fieldsOf, ht]
    have ht' : P.underlying t = some (.struct (P.fieldsOf t)) := by rw [hfo]; exact ht
    simp only [TV.den]
    rw [run_equalIn_struct w d t _ _ ht' hs, hfo]
    exact eqFields_run f xs ys (fun w' h' => eqTV_run f w' h' (by omega)) w h
  · contradiction
end Go.Sx
