/- A part of the proof: the reference is safe, both packages write and read alike. Several texts in one; printed by slim28.py out of the texts of wip. -/
import Derived.Test.YtjmnolhkkpaodaaGreatDoorZ02
set_option linter.all false
namespace Go.Sx
open Go
structure Base (W w0 : World) (X : Nat → Prop) : Prop where
 old : Old W w0
 out : ∀ i, X i → Free W i
structure Fr (W w0 : World) (X : Nat → Prop) (w : World) : Prop where
 os : w.os = w0.os
 tape : w.tape = w0.tape
 output : w.output = w0.output
 size : w0.heap.size ≤ w.heap.size
 same : ∀ i, i < w0.heap.size → ¬ X i → w.heap[i]? = w0.heap[i]?
 base : Base W w0 X
theorem Old.refl (W : World) : Old W W := ⟨fun h => h⟩
theorem Old.base {W w : World} (h : Old W w) : Base W w (fun _ => False) := ⟨h, fun _ h => h.elim⟩
theorem Fr.old {W w0 : World} {X : Nat → Prop} {w : World} (h : Fr W w0 X w) : Old W w :=
 ⟨fun {a v} hc => by
  have h1 := h.base.old.cell hc
  have h2 := h.same a.block (cell_lt h1) (fun hx => by
   have h3 := h.base.out _ hx a rfl
   rw [h3] at hc
   cases hc)
  rw [← h1]
  exact World.cell?_of_block h2⟩
structure MOk (w0 : World) (X : Nat → Prop) (f : Nat → Nat) (M : Mem) (w : World) : Prop where
 blk : KRel f (look M.blks) w
 cell : CRel f M.get w
 known : ∀ b o v, M.get b o = some v → ∃ i, look M.blks b = some i
 inj : ∀ b c i j, look M.blks b = some i → look M.blks c = some j → f b = f c → b = c
 own : ∀ b i, look M.blks b = some i → i.rw = true → w0.heap.size ≤ f b ∨ X (f b)
 lt : ∀ b i, look M.blks b = some i → b < M.next
def OwnK (W : World) (f : Nat → Nat) (K : Nat → Option BI) : Prop := ∀ b i, K b = some i → i.rw = true → Free W (f b)
theorem MOk.ownK {W w0 : World} {X : Nat → Prop} {f : Nat → Nat} {M : Mem} {w : World} (h : MOk w0 X f M w) (hf : Fr W w0 X w) : OwnK W f (look M.blks) := by
 intro b i hi hrw
 rcases h.own b i hi hrw with h1 | h1
 · exact hf.base.old.free h1
 · exact hf.base.out _ h1
structure Rel (W w0 : World) (X : Nat → Prop) (nt : Nat) (s : SL) (M : Mem) (f : Nat → Nat) (a : Act) (w : World) : Prop where
 size : a.tmps.size = nt
 defers : a.defers = []
 slots : SRel f (look s) a
 mem : MOk w0 X f M w
 fr : Fr W w0 X w
def Ext (n : Nat) (f f' : Nat → Nat) : Prop := ∀ b, b < n → f' b = f b
theorem Ext.refl (n : Nat) (f : Nat → Nat) : Ext n f f := fun _ _ => rfl
theorem Ext.trans {n n' : Nat} {f f' f'' : Nat → Nat} (h : Ext n f f') (h' : Ext n' f' f'') (hn : n ≤ n') : Ext n f f'' :=
 fun b hb => (h' b (by omega)).trans (h b hb)
theorem lt_of_blt {a b : Nat} (h : Nat.blt a b = true) : a < b := by
 have h2 : a + 1 ≤ b := by simpa [Nat.blt] using h
 omega
theorem allB_iff {α : Type} {p : α → Bool} : ∀ {l : List α}, allB p l = true → ∀ x ∈ l, p x = true
 | [], _, x, hx => by simp at hx
 | y :: l, h, x, hx => by
  simp only [allB] at h
  split at h <;> try contradiction
  rename_i hy
  rcases List.mem_cons.1 hx with rfl | hx
  · exact hy
  · exact allB_iff h x hx
theorem SV.lt_den {v : SV} {n : Nat} (h : v.lt n = true) {f f' : Nat → Nat} (he : Ext n f f') : v.den f' = v.den f := by
 cases v with
 | ptr b o => simp only [SV.lt] at h; simp [SV.den, he b (lt_of_blt h)]
 | row b o n c => simp only [SV.lt] at h; simp [SV.den, he b (lt_of_blt h)]
 | clo g cs =>
  simp only [SV.lt] at h
  simp only [SV.den]
  congr 2
  refine List.map_congr_left fun c hc => ?_
  simp [caddr, he c.1 (lt_of_blt (allB_iff h c hc))]
 | _ => rfl
theorem denL_lt {l : List SV} {n : Nat} (h : allB (SV.lt n) l = true) {f f' : Nat → Nat} (he : Ext n f f') : l.map (SV.den f') = l.map (SV.den f) :=
 List.map_congr_left fun v hv => SV.lt_den (allB_iff h v hv) he
theorem TV.lt_den {v : TV} {n : Nat} (h : v.lt n = true) {f f' : Nat → Nat} (he : Ext n f f') : v.den f' = v.den f := by
 cases v with
 | un => rfl
 | ud => rfl
 | one s => exact SV.lt_den h he
 | agg l => simp only [TV.den, dens, denL_lt h he]
 | tup ps =>
  simp only [TV.lt] at h
  simp only [TV.den]
  congr 2
  refine List.map_congr_left fun p hp => ?_
  have hl := allB_iff h p hp
  obtain ⟨k, l⟩ := p
  cases k with
  | true => simp only [partDen, dens, denL_lt hl he]
  | false =>
   match l, hl with
   | [], _ => rfl
   | [v], hl => exact SV.lt_den (allB_iff hl v (by simp)) he
   | _ :: _ :: _, _ => rfl
theorem mem_of_look {α : Type} : ∀ {l : List (Nat × α)} {k : Nat} {v : α}, look l k = some v → (k, v) ∈ l
 | [], k, v, h => by simp [look] at h
 | (i, u) :: l, k, v, h => by
  rw [look_cons] at h
  split at h
  · rename_i hk; simp only [Option.some.injEq] at h; subst hk h; simp
  · exact List.mem_cons_of_mem _ (mem_of_look h)
theorem mem_of_findC : ∀ {l : List (Nat × Nat × SV)} {k p : Nat} {v : SV}, findC l k p = some v → (k, p, v) ∈ l
 | [], k, p, v, h => by simp [findC] at h
 | (i, j, u) :: l, k, p, v, h => by
  rw [findC_cons] at h
  split at h
  · rename_i hk; simp only [Option.some.injEq] at h; obtain ⟨rfl, rfl⟩ := hk; subst h; simp
  · exact List.mem_cons_of_mem _ (mem_of_findC h)
theorem ltS_look {s : SL} {n : Nat} (h : ltS n s = true) {k : Nat} {v : TV} (hv : look s k = some v) : v.lt n = true :=
 allB_iff h (k, v) (mem_of_look hv)
theorem ltM_get {M : Mem} {n : Nat} (h : ltM n M = true) {b o : Nat} {v : SV} (hv : M.get b o = some v) : v.lt n = true := by
 simp only [ltM, Bool.and_eq_true] at h
 unfold Mem.get at hv
 split at hv
 · rename_i u hu
   simp only [Option.some.injEq] at hv
   subst hv
   exact allB_iff h.1 _ (mem_of_findC hu)
 · split at hv <;> try contradiction
   rename_i i hi
   have := allB_iff h.2 (b, i) (mem_of_look hi)
   simp only [Bool.and_eq_true] at this
   exact allB_iff this.2 v (List.mem_of_getElem? hv)
theorem heap_alloc_old {w : World} {o : Obj} {i : Nat} (h : i < w.heap.size) : (w.alloc o).heap[i]? = w.heap[i]? := by
 show (w.heap.push o)[i]? = _
 rw [Array.getElem?_push, if_neg (Nat.ne_of_lt h)]
theorem heap_alloc_at {w : World} {o : Obj} : (w.alloc o).heap[w.heap.size]? = some o := by
 show (w.heap.push o)[w.heap.size]? = _
 rw [Array.getElem?_push, if_pos rfl]
theorem heap_setCell_far {w : World} {a : Addr} {v : Value} {i : Nat} (h : a.block ≠ i) : (w.setCell a v).heap[i]? = w.heap[i]? := by
 simp [World.setCell, Array.getElem?_modify, h]
theorem lt_of_blk {w : World} {i : Nat} {x : Obj} (h : w.heap[i]? = some x) : i < w.heap.size := by
 rcases Nat.lt_or_ge i w.heap.size with h1 | h1
 · exact h1
 · rw [Array.getElem?_eq_none h1] at h; cases h
section
variable {W w0 : World} {X : Nat → Prop} {f : Nat → Nat}
theorem Mem.get_write (M : Mem) (b o : Nat) (v : SV) (c p : Nat) : (Mem.mk ((b, o, v) :: M.cells) M.blks M.next).get c p = if b = c ∧ o = p then some v else M.get c p := by
 by_cases hc : b = c ∧ o = p
 · simp [Mem.get, findC_cons, hc]
 · simp [Mem.get, findC_cons, hc]
theorem MOk.write {M : Mem} {w : World} (h : MOk w0 X f M w) {b o : Nat} {v : SV} {i : BI} (hi : look M.blks b = some i) (ho : o < i.init.length) :
  MOk w0 X f ⟨(b, o, v) :: M.cells, M.blks, M.next⟩ (w.setCell ⟨f b, o, none⟩ (v.den f)) := by
 obtain ⟨arr, harr, hsz⟩ := h.blk b i hi
 refine ⟨?_, ?_, ?_, h.inj, h.own, h.lt⟩
 · intro c j hj
   obtain ⟨arr', h1, h2⟩ := h.blk c j hj
   obtain ⟨arr'', h3, h4⟩ := blk_setCell h1 ⟨f b, o, none⟩ (v.den f)
   exact ⟨arr'', h3, h4.trans h2⟩
 · intro c p u hu
   rw [Mem.get_write] at hu
   split at hu
   · rename_i hc
     obtain ⟨rfl, rfl⟩ := hc
     simp only [Option.some.injEq] at hu
     subst hu
     have hcell : w.cell? ⟨f b, o, none⟩ = some (arr[o]'(by omega)) := by rw [cell_of_blk harr]; simp [show o < arr.size by omega]
     exact World.cell?_setCell_same w _ _ hcell
   · rename_i hne
     rw [World.cell?_setCell_other]
     · exact h.cell c p u hu
     · intro heq
       simp only [Addr.mk.injEq, and_true] at heq
       obtain ⟨j, hj⟩ := h.known c p u hu
       exact hne ⟨h.inj b c i j hi hj heq.1, heq.2⟩
 · intro c p u hu
   rw [Mem.get_write] at hu
   split at hu
   · rename_i hc
     obtain ⟨rfl, rfl⟩ := hc
     exact ⟨i, hi⟩
   · exact h.known c p u hu
theorem Fr.write {w : World} (h : Fr W w0 X w) {a : Addr} {v : Value} (ho : w0.heap.size ≤ a.block ∨ X a.block) : Fr W w0 X (w.setCell a v) := by
 refine ⟨h.os, h.tape, h.output, by simpa using h.size, fun i hi hx => ?_, h.base⟩
 rw [heap_setCell_far]
 · exact h.same i hi hx
 · rintro rfl
   rcases ho with ho | ho
   · omega
   · exact hx ho
theorem MOk.writes {M : Mem} {w : World} (h : MOk w0 X f M w) (hf : Fr W w0 X w) : ∀ {ws : List (Nat × Nat × SV)}, (∀ p ∈ ws, ∃ i, look M.blks p.1 = some i ∧ i.rw = true ∧ p.2.1 < i.init.length) →
  MOk w0 X f ⟨ws ++ M.cells, M.blks, M.next⟩ (applyWs f ws w) ∧ Fr W w0 X (applyWs f ws w)
 | [], _ => ⟨h, hf⟩
 | (b, o, v) :: ws, hw => by
  obtain ⟨h1, h2⟩ := MOk.writes h hf (ws := ws) (fun p hp => hw p (by simp [hp]))
  obtain ⟨i, hi, hrw, ho⟩ := hw (b, o, v) (by simp)
  exact ⟨h1.write (v := v) hi ho, h2.write (by simpa using h1.own b i hi hrw)⟩
theorem Mem.get_new (M : Mem) (n : Nat) (i : BI) (nx : Nat) (hc : ∀ o, findC M.cells n o = none) (c p : Nat) :
  (Mem.mk M.cells ((n, i) :: M.blks) nx).get c p = if n = c then i.init[p]? else M.get c p := by
 unfold Mem.get
 simp only [look_cons]
 by_cases h : n = c
 · subst h
   rw [hc p]
   simp
 · simp [h]
theorem MOk.new {M : Mem} {w : World} (h : MOk w0 X f M w) (hf : Fr W w0 X w) {t : TypeId} {l : List SV} (hlt : ltM M.next M = true) (hl : allB (SV.lt M.next) l = true) :
  let f' := fun k => if k = M.next then w.heap.size else f k
  MOk w0 X f' ⟨M.cells, (M.next, ⟨t, l, true⟩) :: M.blks, M.next + 1⟩ (w.alloc (.cells (dens f l) t)) ∧ Fr W w0 X (w.alloc (.cells (dens f l) t)) ∧ Ext M.next f f' := by
 intro f'
 have hext : Ext M.next f f' := fun b hb => by simp [f', Nat.ne_of_lt hb]
 have hnone : look M.blks M.next = none := by
  cases hh : look M.blks M.next with
  | none => rfl
  | some i => have := h.lt _ _ hh; omega
 have hcn : ∀ o, findC M.cells M.next o = none := by
  intro o
  cases hh : findC M.cells M.next o with
  | none => rfl
  | some v =>
   have hg : M.get M.next o = some v := by simp [Mem.get, hh]
   obtain ⟨i, hi⟩ := h.known _ _ _ hg
   rw [hnone] at hi
   cases hi
 have hget := fun c p => Mem.get_new M M.next ⟨t, l, true⟩ (M.next + 1) hcn c p
 have hold : ∀ b i, look M.blks b = some i → f' b = f b ∧ f b < w.heap.size := by
  intro b i hi
  have hb := h.lt b i hi
  obtain ⟨arr, harr, _⟩ := h.blk b i hi
  exact ⟨hext b hb, lt_of_blk harr⟩
 refine ⟨⟨?_, ?_, ?_, ?_, ?_, ?_⟩, ?_, hext⟩
 · intro b i hi
   rw [look_cons] at hi
   split at hi
   · rename_i hb
     simp only [Option.some.injEq] at hi
     subst hi hb
     exact ⟨dens f l, by simp only [f', if_true]; exact heap_alloc_at, by simp [dens]⟩
   · obtain ⟨h1, h2⟩ := hold b i hi
     obtain ⟨arr, harr, hsz⟩ := h.blk b i hi
     exact ⟨arr, by rw [h1, heap_alloc_old h2]; exact harr, hsz⟩
 · intro c p v hv
   rw [hget] at hv
   split at hv
   · rename_i hc
     subst hc
     simp only [f', if_true]
     rw [World.cell?_alloc_new]
     have hmem := List.mem_of_getElem? hv
     have hd := SV.lt_den (allB_iff hl v hmem) hext
     simp only at hv
     have : (dens f l)[p]? = some (v.den f) := by simp [dens, hv]
     rw [this, ← hd]
   · obtain ⟨i, hi⟩ := h.known c p v hv
     obtain ⟨h1, h2⟩ := hold c i hi
     rw [h1, World.cell?_alloc_lt w _ _ (by exact h2), h.cell c p v hv, SV.lt_den (ltM_get hlt hv) hext]
 · intro c p v hv
   rw [hget] at hv
   rw [look_cons]
   split at hv
   · rename_i hc; simp [hc]
   · rename_i hc
     obtain ⟨i, hi⟩ := h.known c p v hv
     exact ⟨i, by rw [if_neg hc]; exact hi⟩
 · intro b c i j hb hc hfe
   rw [look_cons] at hb hc
   split at hb
   · rename_i hb'
     split at hc
     · rename_i hc'; rw [← hb', ← hc']
     · rename_i hc'
       obtain ⟨h1, h2⟩ := hold c j hc
       subst hb'
       rw [h1] at hfe
       simp only [f', if_true] at hfe
       omega
   · rename_i hb'
     obtain ⟨h1, h2⟩ := hold b i hb
     split at hc
     · rename_i hc'
       subst hc'
       rw [h1] at hfe
       simp only [f', if_true] at hfe
       omega
     · obtain ⟨h3, h4⟩ := hold c j hc
       rw [h1, h3] at hfe
       exact h.inj b c i j hb hc hfe
 · intro b i hi hrw
   rw [look_cons] at hi
   split at hi
   · rename_i hb
     subst hb
     left
     simp only [f', if_true]
     exact hf.size
   · obtain ⟨h1, _⟩ := hold b i hi
     rw [h1]
     exact h.own b i hi hrw
 · intro b i hi
   rw [look_cons] at hi
   split at hi
   · rename_i hb; subst hb; exact Nat.lt_succ_self _
   · have := h.lt b i hi; simp only; omega
 · refine ⟨hf.os, hf.tape, hf.output, Nat.le_trans hf.size (by simp), fun i hi hx => ?_, hf.base⟩
   rw [heap_alloc_old (Nat.lt_of_lt_of_le hi hf.size)]
   exact hf.same i hi hx
theorem SRel.put {nt : Nat} {s : SL} {a : Act} (h : SRel f (look s) a) (hsz : a.tmps.size = nt) {dst : Option Nat} (hd : dstOk nt dst = true) {v : TV} {u : Value} (hv : v = .un ∨ u = v.den f) :
  SRel f (look (putS dst v s)) (a.put dst u) := by
 cases dst with
 | none => exact h
 | some d =>
  have hd' : d < nt := lt_of_blt hd
  intro t x hx hne
  simp only [putS, look_cons] at hx
  simp only [Act.put, Array.getD_eq_getD_getElem?, Array.getElem?_setIfInBounds]
  split at hx
  · rename_i hdt
    simp only [Option.some.injEq] at hx
    subst hx hdt
    rcases hv with rfl | rfl
    · exact absurd rfl hne
    · simp [hsz, hd']
  · rename_i hdt
    rw [if_neg hdt]
    have := h t x hx hne
    rwa [Array.getD_eq_getD_getElem?] at this
theorem putM_on (e : Eff) (m bm : Mem) : (putM e m).on bm = putM e (m.on bm) := by
 obtain ⟨c, v, ws, nb⟩ := e
 cases nb with
 | none => simp [putM, Mem.on]
 | some x => simp [putM, Mem.on]
theorem putS_append (d : Option Nat) (v : TV) (s bs : SL) : putS d v s ++ bs = putS d v (s ++ bs) := by cases d <;> rfl
theorem Rel.step {P : Program} {o : Oper} {nt : Nat} {s : SL} {M : Mem} {a : Act} {w : World} (h : Rel W w0 X nt s M f a w) {e : Eff} (hr : EffRun P o a w f M.next (look M.blks) e)
  (hnew : newOk s M e = true) (hd : dstOk nt o.dst = true) :
  ∃ x u w' f', (execOp a.eval o).run P w = .ok x w' ∧ (x = .value u ∨ (x = .skip ∧ u = undef)) ∧ Rel W w0 X nt (putS o.dst e.val s) (putM e M) f' (a.put o.dst u) w' ∧ Ext M.next f f' ∧ M.next ≤ (putM e M).next := by
 obtain ⟨x, u, hrun, hx, hv, hws, hnb⟩ := hr
 refine ⟨x, u, _, updF f M.next w e, hrun, hx, ?_, ?_⟩
 · have hput : (a.put o.dst u).tmps.size = nt ∧ (a.put o.dst u).defers = [] := by
    cases o.dst <;> simp [Act.put, h.size, h.defers]
   obtain ⟨c, v, ws, nb⟩ := e
   cases nb with
   | none =>
    obtain ⟨h1, h2⟩ := h.mem.writes h.fr hws
    exact ⟨hput.1, hput.2, h.slots.put h.size hd hv, h1, h2⟩
   | some x =>
    obtain ⟨t, l⟩ := x
    have hw0 : ws = [] := hnb (by simp)
    subst hw0
    simp only [newOk, Bool.and_eq_true] at hnew
    obtain ⟨⟨hs, hm⟩, hl⟩ := hnew
    obtain ⟨h1, h2, h3⟩ := h.mem.new h.fr (t := t) hm hl
    have hsl : SRel (updF f M.next w ⟨c, v, [], some (t, l)⟩) (look s) a := by
     intro k y hy hne
     rw [h.slots k y hy hne]
     exact (TV.lt_den (ltS_look hs hy) h3).symm
    exact ⟨hput.1, hput.2, hsl.put h.size hd hv, h1, h2⟩
 · obtain ⟨c, v, ws, nb⟩ := e
   cases nb with
   | none => exact ⟨Ext.refl _ _, Nat.le_refl _⟩
   | some x => exact ⟨fun b hb => by simp [updF, Nat.ne_of_lt hb], Nat.le_succ _⟩
end
end Go.Sx
namespace Go.Sx
open Go
abbrev Leaf := Ex × SB × SL × Mem
theorem R.get_addVc (c : SB) : ∀ r : R, (r.addVc c).get = match r.get with | some (e, v, s, m) => some (e, c.and v, s, m) | none => none
 | .fail => rfl
 | .leaf _ _ _ _ => rfl
 | .br b x y => by
  simp only [R.addVc, R.get]
  cases b
  · exact R.get_addVc c y
  · exact R.get_addVc c x
theorem R.get_bind (g : SL → Mem → R) : ∀ r : R, (r.bind g).get = match r.get with
  | some (.nrm, v, s, m) => (match (g s m).get with | some (e, v', s', m') => some (e, v.and v', s', m') | none => none)
  | some (e, v, s, m) => some (e, v, s, m)
  | none => none
 | .fail => rfl
 | .leaf e v s m => by cases e <;> simp [R.bind, R.get, R.get_addVc]
 | .br b x y => by
  simp only [R.bind, R.get]
  cases b
  · exact R.get_bind g y
  · exact R.get_bind g x
theorem R.get_over (s : SL) (m : Mem) : ∀ r : R, (r.over s m).get = match r.get with | some (e, v, s', m') => some (e, v, s' ++ s, m'.on m) | none => none
 | .fail => rfl
 | .leaf _ _ _ _ => rfl
 | .br b x y => by
  simp only [R.over, R.get]
  cases b
  · exact R.get_over s m y
  · exact R.get_over s m x
theorem R.get_unblock (id : Nat) : ∀ r : R, (r.unblock id).get = match r.get with
  | some (.exit i, v, s, m) => some (if i = id then .nrm else .exit i, v, s, m)
  | some (e, v, s, m) => some (e, v, s, m)
  | none => none
 | .fail => rfl
 | .leaf e v s m => by
  cases e with
  | exit i =>
   simp only [R.unblock, R.get]
   cases h : Nat.beq i id
   · rw [if_neg (Nat.ne_of_beq_eq_false h)]
   · rw [if_pos (Nat.eq_of_beq_eq_true h)]
  | _ => rfl
 | .br b x y => by
  simp only [R.unblock, R.get]
  cases b
  · exact R.get_unblock id y
  · exact R.get_unblock id x
theorem R.get_land (dst : Option Nat) (s : SL) (m : Mem) : ∀ r : R, (r.land dst s m).get = match r.get with
  | some (.res v, c, _, m') => some (.nrm, c, putS dst v s, m'.on m)
  | _ => none
 | .fail => rfl
 | .leaf e v s m => by cases e <;> rfl
 | .br b x y => by
  simp only [R.land, R.get]
  cases b
  · exact R.get_land dst s m y
  · exact R.get_land dst s m x
theorem R.get_results (P : Program) (rs : List ResultVar) (bs : SL) (bm : Mem) : ∀ r : R, (r.results P rs bs bm).get = match r.get with
  | some (.nrm, c, s, m) => (resultLeaf P rs bs bm c s m).get
  | some (.ret, c, s, m) => (resultLeaf P rs bs bm c s m).get
  | _ => none
 | .fail => rfl
 | .leaf e v s m => by cases e <;> rfl
 | .br b x y => by
  simp only [R.results, R.get]
  cases b
  · exact R.get_results P rs bs bm y
  · exact R.get_results P rs bs bm x
theorem PR.get_toR (bs : SL) (bm : Mem) (dst : Option Nat) (s : SL) (m : Mem) : ∀ r : PR, (r.toR bs bm dst s m).get = match r.get with
  | some e => (match newOk (s ++ bs) (m.on bm) e with | true => some (.nrm, e.vc, putS dst e.val s, putM e m) | false => none)
  | none => none
 | .fail => rfl
 | .ok e => by simp only [PR.toR, PR.get]; split <;> simp_all [R.get]
 | .br b x y => by
  simp only [PR.toR, R.get, PR.get]
  cases b
  · exact PR.get_toR bs bm dst s m y
  · exact PR.get_toR bs bm dst s m x
theorem PR.get_onEff (k : Eff → R) : ∀ r : PR, (r.onEff k).get = match r.get with
  | some e => (match (k e).get with | some (x, v, s, m) => some (x, e.vc.and v, s, m) | none => none)
  | none => none
 | .fail => rfl
 | .ok e => by simp only [PR.onEff, PR.get, R.get_addVc]
 | .br b x y => by
  simp only [PR.onEff, R.get, PR.get]
  cases b
  · exact PR.get_onEff k y
  · exact PR.get_onEff k x
def R.good (r : R) : Prop := ∃ e v s m, r.get = some (e, v, s, m) ∧ v.val = true
theorem SV.merge_den {b : Bool} {x y v : SV} (h : SV.merge b x y = some v) (f : Nat → Nat) : v.den f = bif b then x.den f else y.den f := by
 unfold SV.merge at h
 split at h
 · split at h <;> try contradiction
   rename_i hk
   simp only [Option.some.injEq] at h
   subst h
   have := kindEq_eq hk
   subst this
   cases b <;> simp [SV.den, SI.ite_val]
 · simp only [Option.some.injEq] at h
   subst h
   cases b <;> simp [SV.den, SB.ite_val]
 · split at h <;> try contradiction
   rename_i hk
   simp only [Bool.and_eq_true, Nat.beq_eq] at hk
   simp only [Option.some.injEq] at h
   subst h
   obtain ⟨rfl, rfl⟩ := hk
   cases b <;> rfl
 · simp only [Option.some.injEq] at h
   subst h
   cases b <;> rfl
 · simp only [Option.some.injEq] at h
   subst h
   cases b <;> rfl
 · split at h <;> try contradiction
   rename_i hk
   simp only [Bool.and_eq_true, Nat.beq_eq] at hk
   simp only [Option.some.injEq] at h
   subst h
   obtain ⟨⟨⟨rfl, rfl⟩, rfl⟩, rfl⟩ := hk
   cases b <;> rfl
 · simp only [Option.some.injEq] at h; subst h; cases b <;> rfl
 · simp only [Option.some.injEq] at h; subst h; cases b <;> rfl
 · simp only [Option.some.injEq] at h; subst h; cases b <;> rfl
 · simp only [Option.some.injEq] at h; subst h; cases b <;> rfl
 · split at h <;> try contradiction
   rename_i hk
   simp only [Bool.and_eq_true, Nat.beq_eq, decide_eq_true_eq] at hk
   simp only [Option.some.injEq] at h
   subst h
   obtain ⟨rfl, rfl⟩ := hk
   cases b <;> rfl
 · contradiction
theorem mergeL_den {b : Bool} (f : Nat → Nat) : ∀ {x y v : List SV}, mergeL b x y = some v → v.map (SV.den f) = bif b then x.map (SV.den f) else y.map (SV.den f)
 | [], [], v, h => by simp [mergeL] at h; subst h; cases b <;> rfl
 | a :: x, c :: y, v, h => by
  simp only [mergeL] at h
  split at h <;> try contradiction
  rename_i s hs
  split at h <;> try contradiction
  rename_i l hl
  simp only [Option.some.injEq] at h
  subst h
  have h1 := SV.merge_den hs f
  have h2 := mergeL_den f hl
  cases b <;> simp_all
 | [], _ :: _, v, h => by simp [mergeL] at h
 | _ :: _, [], v, h => by simp [mergeL] at h
theorem partDen_congr {k : Bool} {l l' : List SV} {f : Nat → Nat} (h : l.map (SV.den f) = l'.map (SV.den f)) : partDen f (k, l) = partDen f (k, l') := by
 cases k with
 | true => simp [partDen, dens, h]
 | false =>
  match l, l', h with
  | [], [], _ => rfl
  | [a], [c], h => simpa [partDen] using h
  | [], _ :: _, h => simp at h
  | _ :: _, [], h => simp at h
  | [_], _ :: _ :: _, h => simp at h
  | _ :: _ :: _, [_], h => simp at h
  | _ :: _ :: _, _ :: _ :: _, _ => rfl
theorem mergeP_den {b : Bool} (f : Nat → Nat) : ∀ {x y v : List Part}, mergeP b x y = some v → v.map (partDen f) = bif b then x.map (partDen f) else y.map (partDen f)
 | [], [], v, h => by simp [mergeP] at h; subst h; cases b <;> rfl
 | (k, x) :: xs, (k', y) :: ys, v, h => by
  simp only [mergeP] at h
  split at h <;> try contradiction
  rename_i hk
  have := eq_of_beq hk
  subst this
  split at h <;> try contradiction
  rename_i s hs
  split at h <;> try contradiction
  rename_i l hl
  simp only [Option.some.injEq] at h
  subst h
  have h1 := mergeL_den f hs
  have h2 := mergeP_den f hl
  cases b
  · simp only [cond_false] at h1 h2 ⊢
    simp only [List.map_cons, h2, partDen_congr (k := k) h1]
  · simp only [cond_true] at h1 h2 ⊢
    simp only [List.map_cons, h2, partDen_congr (k := k) h1]
 | [], _ :: _, v, h => by simp [mergeP] at h
 | _ :: _, [], v, h => by simp [mergeP] at h
theorem TV.merge_den {b : Bool} {x y : TV} (h : TV.merge b x y ≠ .un) (f : Nat → Nat) : (TV.merge b x y).den f = (bif b then x else y).den f ∧ (bif b then x else y) ≠ .un := by
 revert h
 unfold TV.merge
 split
 · split
   · rename_i hm
     intro _
     have := SV.merge_den hm f
     cases b <;> exact ⟨this, by simp⟩
   · simp
 · split
   · rename_i hm
     intro _
     have := mergeL_den f hm
     cases b <;> exact ⟨by simp only [TV.den, dens, this]; rfl, by simp⟩
   · simp
 · split
   · rename_i hm
     intro _
     have := mergeP_den f hm
     cases b <;> exact ⟨by simp only [TV.den, this]; rfl, by simp⟩
   · simp
 · intro _
   cases b <;> exact ⟨rfl, by simp⟩
 · simp
theorem memN_iff {n : Nat} : ∀ {l : List Nat}, memN n l = true ↔ n ∈ l
 | [] => by simp [memN]
 | k :: r => by
  simp only [memN, List.mem_cons]
  cases h : Nat.beq k n
  · have := Nat.ne_of_beq_eq_false h
    simp [memN_iff (l := r), Ne.symm this]
  · have := Nat.eq_of_beq_eq_true h
    simp [this]
theorem memC_iff {b o : Nat} : ∀ {l : List (Nat × Nat)}, memC b o l = true ↔ (b, o) ∈ l
 | [] => by simp [memC]
 | (c, p) :: r => by
  simp only [memC, List.mem_cons, Prod.mk.injEq]
  cases h : (Nat.beq c b && Nat.beq p o)
  · have : ¬ (b = c ∧ o = p) := by
     rintro ⟨rfl, rfl⟩
     simp at h
    simp [memC_iff (l := r), this]
  · simp only [Bool.and_eq_true, Nat.beq_eq] at h
    simp [h.1, h.2]
theorem keysN_mem {k : Nat} : ∀ {s : SL} {acc : List Nat}, (k ∈ acc ∨ (look s k).isSome = true) → k ∈ keysN s acc
 | [], acc, h => by simpa [keysN, look] using h
 | (i, v) :: s, acc, h => by
  simp only [keysN]
  rw [look_cons] at h
  split
  · rename_i hm
    have := memN_iff.1 hm
    refine keysN_mem ?_
    by_cases hi : i = k
    · subst hi; exact .inl this
    · rw [if_neg hi] at h; exact h
  · refine keysN_mem ?_
    by_cases hi : i = k
    · subst hi; exact .inl (by simp)
    · rw [if_neg hi] at h
      exact h.imp (fun h => by simp [h]) id
theorem keysC_mem {b o : Nat} : ∀ {s : List (Nat × Nat × SV)} {acc : List (Nat × Nat)}, ((b, o) ∈ acc ∨ (findC s b o).isSome = true) → (b, o) ∈ keysC s acc
 | [], acc, h => by simpa [keysC, findC] using h
 | (i, p, v) :: s, acc, h => by
  simp only [keysC]
  rw [findC_cons] at h
  split
  · rename_i hm
    have := memC_iff.1 hm
    refine keysC_mem ?_
    by_cases hi : i = b ∧ p = o
    · obtain ⟨rfl, rfl⟩ := hi; exact .inl this
    · rw [if_neg hi] at h; exact h
  · refine keysC_mem ?_
    by_cases hi : i = b ∧ p = o
    · obtain ⟨rfl, rfl⟩ := hi; exact .inl (by simp)
    · rw [if_neg hi] at h
      exact h.imp (fun h => by simp [h]) id
theorem look_mergeS {b : Bool} {s1 s2 bs : SL} {k : Nat} : ∀ {ks : List Nat}, look (mergeS b s1 s2 bs ks) k = if k ∈ ks then some (TV.merge b (look2 s1 bs k) (look2 s2 bs k)) else none
 | [] => by simp [mergeS, look]
 | i :: ks => by
  simp only [mergeS, look_cons, List.mem_cons]
  by_cases h : i = k
  · subst h; simp
  · rw [if_neg h, look_mergeS]
    simp [Ne.symm h]
theorem look2_eq {s bs : SL} {k : Nat} : look2 s bs k = (look (s ++ bs) k).getD .un := by
 simp only [look2, look_append]
 cases look s k with
 | some v => rfl
 | none => cases look bs k <;> rfl
def BKnown (bm : Mem) : Prop := ∀ b o v, bm.get b o = some v → ∃ i, look bm.blks b = some i
section
variable {W w0 : World} {X : Nat → Prop} {f : Nat → Nat}
theorem SRel.merge {b : Bool} {s1 s2 bs : SL} {a : Act} (h : SRel f (look ((bif b then s1 else s2) ++ bs)) a) : SRel f (look (mergeS b s1 s2 bs (keysN s1 (keysN s2 [])) ++ bs)) a := by
 intro t v hv hne
 rw [look_append, look_mergeS] at hv
 split at hv
 · rename_i u hu
   simp only [Option.some.injEq] at hv
   subst hv
   split at hu <;> try contradiction
   simp only [Option.some.injEq] at hu
   subst hu
   obtain ⟨h1, h2⟩ := TV.merge_den hne f
   rw [h1]
   have key : ∀ s : SL, SRel f (look (s ++ bs)) a → look2 s bs t ≠ .un → a.tmps.getD t undef = (look2 s bs t).den f := by
    intro s hs hn
    rw [look2_eq] at hn ⊢
    cases hl : look (s ++ bs) t with
    | none => rw [hl] at hn; exact absurd rfl hn
    | some x => rw [hl] at hn; exact hs t x hl hn
   cases b
   · exact key s2 h h2
   · exact key s1 h h2
 · rename_i hu
   split at hu <;> try contradiction
   rename_i hk
   have hn1 : look s1 t = none := by
    cases hl : look s1 t with
    | none => rfl
    | some x => exact absurd (keysN_mem (.inr (by simp [hl]))) hk
   have hn2 : look s2 t = none := by
    cases hl : look s2 t with
    | none => rfl
    | some x => exact absurd (keysN_mem (.inl (keysN_mem (.inr (by simp [hl]))))) hk
   refine h t v ?_ hne
   cases b
   · simp [look_append, hn2, hv]
   · simp [look_append, hn1, hv]
theorem freshB_none {bm : Mem} : ∀ {l : List (Nat × BI)}, freshB bm l = true → ∀ b i, look l b = some i → look bm.blks b = none
 | [], _, b, i, h => by simp [look] at h
 | (c, j) :: l, h, b, i, hb => by
  simp only [freshB] at h
  split at h <;> try contradiction
  rename_i hc
  rw [look_cons] at hb
  split at hb
  · rename_i hcb; subst hcb; exact hc
  · exact freshB_none h b i hb
theorem mergeC_find {b : Bool} {m1 m2 bm : Mem} {c o : Nat} : ∀ {ks : List (Nat × Nat)} {l : List (Nat × Nat × SV)}, mergeC b m1 m2 bm ks = some l →
  match findC l c o with
  | some v => (∃ i, look bm.blks c = some i) ∧ ∃ x y, (m1.on bm).get c o = some x ∧ (m2.on bm).get c o = some y ∧ SV.merge b x y = some v
  | none => (c, o) ∉ ks ∨ look bm.blks c = none
 | [], l, h => by simp [mergeC] at h; subst h; simp [findC]
 | (d, p) :: ks, l, h => by
  simp only [mergeC] at h
  split at h
  · rename_i hd
    have ih := mergeC_find (c := c) (o := o) h
    split
    · rename_i v hv; rw [hv] at ih; exact ih
    · rename_i hv
      rw [hv] at ih
      simp only at ih
      rcases ih with ih | ih
      · by_cases hcd : c = d
        · subst hcd; exact .inr hd
        · left
          simp only [List.mem_cons, Prod.mk.injEq, not_or]
          exact ⟨fun hh => hcd hh.1, ih⟩
      · exact .inr ih
  · rename_i i hi
    split at h <;> try contradiction
    rename_i x y hx hy
    split at h <;> try contradiction
    rename_i v hv
    split at h <;> try contradiction
    rename_i r hr
    simp only [Option.some.injEq] at h
    subst h
    rw [findC_cons]
    by_cases hc : d = c ∧ p = o
    · obtain ⟨rfl, rfl⟩ := hc
      simp only [and_self, if_true]
      exact ⟨⟨i, hi⟩, x, y, hx, hy, hv⟩
    · rw [if_neg hc]
      have ih := mergeC_find (c := c) (o := o) hr
      split
      · rename_i u hu; rw [hu] at ih; exact ih
      · rename_i hu
        rw [hu] at ih
        simp only at ih
        refine ih.imp (fun ih => ?_) id
        simp only [List.mem_cons, Prod.mk.injEq, not_or]
        exact ⟨fun hh => hc ⟨hh.1.symm, hh.2.symm⟩, ih⟩
theorem MOk.merge {b : Bool} {m1 m2 bm m : Mem} (hm : mergeM b m1 m2 bm = some m) (hb : BKnown bm) {w : World} (h : MOk w0 X f ((bif b then m1 else m2).on bm) w) : MOk w0 X f (m.on bm) w := by
 unfold mergeM at hm
 split at hm <;> try contradiction
 rename_i hfr
 simp only [Bool.and_eq_true] at hfr
 split at hm <;> try contradiction
 rename_i l hl
 simp only [Option.some.injEq] at hm
 subst hm
 have hblk : ∀ c i, look bm.blks c = some i → look ((bif b then m1 else m2).on bm).blks c = some i := by
  intro c i hi
  have hn : look (bif b then m1 else m2).blks c = none := by
   cases hh : look (bif b then m1 else m2).blks c with
   | none => rfl
   | some j =>
    cases b
    · have := freshB_none hfr.2 c j hh; rw [hi] at this; cases this
    · have := freshB_none hfr.1 c j hh; rw [hi] at this; cases this
  simp [Mem.on, look_append, hn, hi]
 have hget : ∀ c o v, (Mem.on ⟨l, [], max m1.next m2.next⟩ bm).get c o = some v → (∃ i, look bm.blks c = some i) ∧ ∃ x, ((bif b then m1 else m2).on bm).get c o = some x ∧ v.den f = x.den f := by
  intro c o v hv
  have key := mergeC_find (c := c) (o := o) hl
  simp only [Mem.get, Mem.on, findC_append, List.nil_append] at hv
  cases hf : findC l c o with
  | some u =>
   rw [hf] at key hv
   simp only [Option.some.injEq] at hv
   subst hv
   obtain ⟨hi, x, y, hx, hy, hmv⟩ := key
   refine ⟨hi, ?_⟩
   have := SV.merge_den hmv f
   cases b
   · exact ⟨y, hy, this⟩
   · exact ⟨x, hx, this⟩
  | none =>
   rw [hf] at key hv
   simp only at key hv
   have hbm : bm.get c o = some v := hv
   obtain ⟨i, hi⟩ := hb c o v hbm
   refine ⟨⟨i, hi⟩, v, ?_, rfl⟩
   have hk : (c, o) ∉ keysC m1.cells (keysC m2.cells []) := by
    rcases key with key | key
    · exact key
    · rw [hi] at key; cases key
   have hn1 : findC m1.cells c o = none := by
    cases hh : findC m1.cells c o with
    | none => rfl
    | some x => exact absurd (keysC_mem (.inr (by simp [hh]))) hk
   have hn2 : findC m2.cells c o = none := by
    cases hh : findC m2.cells c o with
    | none => rfl
    | some x => exact absurd (keysC_mem (.inl (keysC_mem (.inr (by simp [hh]))))) hk
   have hnb : findC (bif b then m1 else m2).cells c o = none := by cases b <;> assumption
   have hbl := hblk c i hi
   simp only [Mem.get, Mem.on, findC_append, hnb] at hbl ⊢
   rw [hbl]
   simp only [Mem.get] at hbm
   rw [hi] at hbm
   exact hbm
 refine ⟨?_, ?_, ?_, ?_, ?_, ?_⟩
 · intro c i hi
   simp only [Mem.on, List.nil_append] at hi
   exact h.blk c i (hblk c i hi)
 · intro c o v hv
   obtain ⟨_, x, hx, hd⟩ := hget c o v hv
   rw [hd]
   exact h.cell c o x hx
 · intro c o v hv
   obtain ⟨⟨i, hi⟩, _⟩ := hget c o v hv
   exact ⟨i, by simpa [Mem.on] using hi⟩
 · intro c d i j hc hd
   simp only [Mem.on, List.nil_append] at hc hd
   exact h.inj c d i j (hblk c i hc) (hblk d j hd)
 · intro c i hi hrw
   simp only [Mem.on, List.nil_append] at hi
   exact h.own c i (hblk c i hi) hrw
 · intro c i hi
   simp only [Mem.on, List.nil_append] at hi
   have := h.lt c i (hblk c i hi)
   simp only [Mem.on] at this ⊢
   cases b
   · exact Nat.lt_of_lt_of_le this (Nat.le_max_right _ _)
   · exact Nat.lt_of_lt_of_le this (Nat.le_max_left _ _)
def SameRes (e e' : Ex) : Prop := (e = e' ∧ ∀ v, e ≠ .res v) ∨ ∃ v v', e = .res v ∧ e' = .res v' ∧ ∀ f : Nat → Nat, v ≠ .un → (v' ≠ .un ∧ v'.den f = v.den f)
def Leads (bs : SL) (bm : Mem) (l l' : Leaf) : Prop :=
 SameRes l.1 l'.1 ∧ l'.2.1.val = l.2.1.val ∧ l.2.2.2.next ≤ l'.2.2.2.next ∧
 (∀ (f : Nat → Nat) (a : Act), SRel f (look (l.2.2.1 ++ bs)) a → SRel f (look (l'.2.2.1 ++ bs)) a) ∧
 (∀ (w0 : World) (X : Nat → Prop) (f : Nat → Nat) (w : World), MOk w0 X f (l.2.2.2.on bm) w → MOk w0 X f (l'.2.2.2.on bm) w)
theorem SameRes.refl (e : Ex) : SameRes e e := by
 cases e with
 | res v => exact .inr ⟨v, v, rfl, rfl, fun _ h => ⟨h, rfl⟩⟩
 | _ => exact .inl ⟨rfl, by simp⟩
theorem SameRes.trans {a b c : Ex} (h : SameRes a b) (h' : SameRes b c) : SameRes a c := by
 rcases h with ⟨rfl, hn⟩ | ⟨v, v', rfl, rfl, hv⟩
 · exact h'
 · rcases h' with ⟨_, hn⟩ | ⟨u, u', hu, rfl, hu'⟩
   · exact absurd rfl (hn v')
   · injection hu with hu
     subst hu
     refine .inr ⟨v, u', rfl, rfl, fun f hne => ?_⟩
     obtain ⟨h1, h2⟩ := hv f hne
     obtain ⟨h3, h4⟩ := hu' f h1
     exact ⟨h3, h4.trans h2⟩
theorem Leads.refl (bs : SL) (bm : Mem) (l : Leaf) : Leads bs bm l l := ⟨.refl _, rfl, Nat.le_refl _, fun _ _ h => h, fun _ _ _ _ h => h⟩
theorem Leads.trans {bs : SL} {bm : Mem} {a b c : Leaf} (h : Leads bs bm a b) (h' : Leads bs bm b c) : Leads bs bm a c :=
 ⟨h.1.trans h'.1, h'.2.1.trans h.2.1, Nat.le_trans h.2.2.1 h'.2.2.1, fun f a x => h'.2.2.2.1 f a (h.2.2.2.1 f a x), fun w0 X f w x => h'.2.2.2.2 w0 X f w (h.2.2.2.2 w0 X f w x)⟩
theorem exMerge_same {b : Bool} {x y e : Ex} (h : exMerge b x y = some e) : SameRes (bif b then x else y) e := by
 unfold exMerge at h
 split at h
 · simp only [Option.some.injEq] at h
   subst h
   cases b <;> exact .refl _
 · simp only [Option.some.injEq] at h
   subst h
   cases b <;> exact .refl _
 · rename_i i j
   split at h <;> try contradiction
   rename_i hij
   have := Nat.eq_of_beq_eq_true hij
   simp only [Option.some.injEq] at h
   subst h this
   cases b <;> exact .refl _
 · rename_i u v
   split at h <;> try contradiction
   rename_i t ht hne
   simp only [Option.some.injEq] at h
   subst h
   have hm := fun f => TV.merge_den (b := b) (x := u) (y := v) hne f
   cases b
   · exact .inr ⟨v, _, rfl, rfl, fun f _ => ⟨hne, (hm f).1⟩⟩
   · exact .inr ⟨u, _, rfl, rfl, fun f _ => ⟨hne, (hm f).1⟩⟩
 · contradiction
theorem R.join_get {bs : SL} {bm : Mem} (hb : BKnown bm) (b : Bool) (x y : R) {l' : Leaf} (h : (R.join bs bm b x y).get = some l') :
  ∃ l, (bif b then x else y).get = some l ∧ Leads bs bm l l' := by
 have dflt : ∀ {x y : R}, (R.br b x y).get = some l' → ∃ l, (bif b then x else y).get = some l ∧ Leads bs bm l l' := by
  intro x y h
  refine ⟨l', ?_, .refl _ _ _⟩
  cases b <;> exact h
 unfold R.join at h
 split at h
 · rename_i e1 v1 s1 m1 e2 v2 s2 m2
   split at h
   · rename_i e he
     split at h
     · rename_i m hm
       simp only [R.get, Option.some.injEq] at h
       subst h
       refine ⟨(bif b then e1 else e2, bif b then v1 else v2, bif b then s1 else s2, bif b then m1 else m2), by cases b <;> rfl, ?_⟩
       refine ⟨exMerge_same he, ?_, ?_, ?_, ?_⟩
       · simp only [SB.ite_val]; cases b <;> rfl
       · unfold mergeM at hm
         split at hm <;> try contradiction
         split at hm <;> try contradiction
         simp only [Option.some.injEq] at hm
         subst hm
         cases b
         · exact Nat.le_max_right _ _
         · exact Nat.le_max_left _ _
       · exact fun f a hs => SRel.merge hs
       · exact fun w0 X f w hw => MOk.merge hm hb hw
     · exact dflt h
   · exact dflt h
 · exact dflt h
theorem R.collapse_get {bs : SL} {bm : Mem} (hb : BKnown bm) : ∀ (r : R) {l' : Leaf}, (r.collapse bs bm).get = some l' → ∃ l, r.get = some l ∧ Leads bs bm l l'
 | .fail, l', h => by simp [R.collapse, R.get] at h
 | .leaf e v s m, l', h => ⟨l', h, .refl _ _ _⟩
 | .br b x y, l', h => by
  simp only [R.collapse] at h
  obtain ⟨l1, h1, h2⟩ := R.join_get hb b _ _ h
  cases b
  · obtain ⟨l, h3, h4⟩ := R.collapse_get hb y h1
    exact ⟨l, h3, h4.trans h2⟩
  · obtain ⟨l, h3, h4⟩ := R.collapse_get hb x h1
    exact ⟨l, h3, h4.trans h2⟩
end
end Go.Sx
