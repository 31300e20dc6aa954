/- The symbolic executor: what a state says of the machine; decision trees. No program of the seat is named here. -/
import Derived.Test.YtdglgiaegjkinaaDoorEngC
namespace Go.Sx
open Go

structure Base (W w0 : World) (X : Nat → Prop) : Prop where
  old : Old W w0
  out : ∀ i, X i → Free W i
structure Fr (W w0 : World) (X : Nat → Prop) (w : World) : Prop where
  os : w.os = w0.os
  tape : w.tape = w0.tape
  output : w.output = w0.output
  size : w0.heap.size ≤ w.heap.size
  same : ∀ i, i < w0.heap.size → ¬ X i → w.heap[i]? = w0.heap[i]?
  base : Base W w0 X

theorem Old.refl (W : World) : Old W W := ⟨fun h => h⟩
theorem Old.base {W w : World} (h : Old W w) : Base W w (fun _ => False) := ⟨h, fun _ h => h.elim⟩
theorem Fr.old {W w0 : World} {X : Nat → Prop} {w : World} (h : Fr W w0 X w) : Old W w :=
  ⟨fun {a v} hc => by
    have h1 := h.base.old.cell hc
    have h2 := h.same a.block (cell_lt h1) (fun hx => by
      have h3 := h.base.out _ hx a rfl
      rw [h3] at hc
      cases hc)
    rw [← h1]
    exact World.cell?_of_block h2⟩

structure MOk (w0 : World) (X : Nat → Prop) (f : Nat → Nat) (M : Mem) (w : World) : Prop where
  blk : KRel f (look M.blks) w
  cell : CRel f M.get w
  known : ∀ b o v, M.get b o = some v → ∃ i, look M.blks b = some i
  inj : ∀ b c i j, look M.blks b = some i → look M.blks c = some j → f b = f c → b = c
  own : ∀ b i, look M.blks b = some i → i.rw = true → w0.heap.size ≤ f b ∨ X (f b)
  lt : ∀ b i, look M.blks b = some i → b < M.next

/-- What may be written is new. -/
def OwnK (W : World) (f : Nat → Nat) (K : Nat → Option BI) : Prop := ∀ b i, K b = some i → i.rw = true → Free W (f b)
theorem MOk.ownK {W w0 : World} {X : Nat → Prop} {f : Nat → Nat} {M : Mem} {w : World} (h : MOk w0 X f M w) (hf : Fr W w0 X w) : OwnK W f (look M.blks) := by
  intro b i hi hrw
  rcases h.own b i hi hrw with h1 | h1
  · exact hf.base.old.free h1
  · exact hf.base.out _ h1

structure Rel (W w0 : World) (X : Nat → Prop) (nt : Nat) (s : SL) (M : Mem) (f : Nat → Nat) (a : Act) (w : World) : Prop where
  size : a.tmps.size = nt
  defers : a.defers = []
  slots : SRel f (look s) a
  mem : MOk w0 X f M w
  fr : Fr W w0 X w

def Ext (n : Nat) (f f' : Nat → Nat) : Prop := ∀ b, b < n → f' b = f b
theorem Ext.refl (n : Nat) (f : Nat → Nat) : Ext n f f := fun _ _ => rfl
theorem Ext.trans {n n' : Nat} {f f' f'' : Nat → Nat} (h : Ext n f f') (h' : Ext n' f' f'') (hn : n ≤ n') : Ext n f f'' :=
  fun b hb => (h' b (by omega)).trans (h b hb)

/-! ### Pointers below a number -/
theorem lt_of_blt {a b : Nat} (h : Nat.blt a b = true) : a < b := by
  have h2 : a + 1 ≤ b := by simpa [Nat.blt] using h
  omega
theorem allB_iff {α : Type} {p : α → Bool} : ∀ {l : List α}, allB p l = true → ∀ x ∈ l, p x = true
  | [], _, x, hx => by simp at hx
  | y :: l, h, x, hx => by
    simp only [allB] at h
    split at h <;> try contradiction
    rename_i hy
    rcases List.mem_cons.1 hx with rfl | hx
    · exact hy
    · exact allB_iff h x hx
theorem SV.lt_den {v : SV} {n : Nat} (h : v.lt n = true) {f f' : Nat → Nat} (he : Ext n f f') : v.den f' = v.den f := by
  cases v with
  | ptr b o => simp only [SV.lt] at h; simp [SV.den, he b (lt_of_blt h)]
  | row b o n c => simp only [SV.lt] at h; simp [SV.den, he b (lt_of_blt h)]
  | clo g cs =>
    simp only [SV.lt] at h
    simp only [SV.den]
    congr 2
    refine List.map_congr_left fun c hc => ?_
    simp [caddr, he c.1 (lt_of_blt (allB_iff h c hc))]
  | _ => rfl
theorem denL_lt {l : List SV} {n : Nat} (h : allB (SV.lt n) l = true) {f f' : Nat → Nat} (he : Ext n f f') : l.map (SV.den f') = l.map (SV.den f) :=
  List.map_congr_left fun v hv => SV.lt_den (allB_iff h v hv) he
theorem TV.lt_den {v : TV} {n : Nat} (h : v.lt n = true) {f f' : Nat → Nat} (he : Ext n f f') : v.den f' = v.den f := by
  cases v with
  | un => rfl
  | ud => rfl
  | one s => exact SV.lt_den h he
  | agg l => simp only [TV.den, dens, denL_lt h he]
  | tup ps =>
    simp only [TV.lt] at h
    simp only [TV.den]
    congr 2
    refine List.map_congr_left fun p hp => ?_
    have hl := allB_iff h p hp
    obtain ⟨k, l⟩ := p
    cases k with
    | true => simp only [partDen, dens, denL_lt hl he]
    | false =>
      match l, hl with
      | [], _ => rfl
      | [v], hl => exact SV.lt_den (allB_iff hl v (by simp)) he
      | _ :: _ :: _, _ => rfl
theorem mem_of_look {α : Type} : ∀ {l : List (Nat × α)} {k : Nat} {v : α}, look l k = some v → (k, v) ∈ l
  | [], k, v, h => by simp [look] at h
  | (i, u) :: l, k, v, h => by
    rw [look_cons] at h
    split at h
    · rename_i hk; simp only [Option.some.injEq] at h; subst hk h; simp
    · exact List.mem_cons_of_mem _ (mem_of_look h)
theorem mem_of_findC : ∀ {l : List (Nat × Nat × SV)} {k p : Nat} {v : SV}, findC l k p = some v → (k, p, v) ∈ l
  | [], k, p, v, h => by simp [findC] at h
  | (i, j, u) :: l, k, p, v, h => by
    rw [findC_cons] at h
    split at h
    · rename_i hk; simp only [Option.some.injEq] at h; obtain ⟨rfl, rfl⟩ := hk; subst h; simp
    · exact List.mem_cons_of_mem _ (mem_of_findC h)
theorem ltS_look {s : SL} {n : Nat} (h : ltS n s = true) {k : Nat} {v : TV} (hv : look s k = some v) : v.lt n = true :=
  allB_iff h (k, v) (mem_of_look hv)
theorem ltM_get {M : Mem} {n : Nat} (h : ltM n M = true) {b o : Nat} {v : SV} (hv : M.get b o = some v) : v.lt n = true := by
  simp only [ltM, Bool.and_eq_true] at h
  unfold Mem.get at hv
  split at hv
  · rename_i u hu
    simp only [Option.some.injEq] at hv
    subst hv
    exact allB_iff h.1 _ (mem_of_findC hu)
  · split at hv <;> try contradiction
    rename_i i hi
    have := allB_iff h.2 (b, i) (mem_of_look hi)
    simp only [Bool.and_eq_true] at this
    exact allB_iff this.2 v (List.mem_of_getElem? hv)

/-! ### A step -/
theorem heap_alloc_old {w : World} {o : Obj} {i : Nat} (h : i < w.heap.size) : (w.alloc o).heap[i]? = w.heap[i]? := by
  show (w.heap.push o)[i]? = _
  rw [Array.getElem?_push, if_neg (Nat.ne_of_lt h)]
theorem heap_alloc_at {w : World} {o : Obj} : (w.alloc o).heap[w.heap.size]? = some o := by
  show (w.heap.push o)[w.heap.size]? = _
  rw [Array.getElem?_push, if_pos rfl]
theorem heap_setCell_far {w : World} {a : Addr} {v : Value} {i : Nat} (h : a.block ≠ i) : (w.setCell a v).heap[i]? = w.heap[i]? := by
  simp [World.setCell, Array.getElem?_modify, h]
theorem lt_of_blk {w : World} {i : Nat} {x : Obj} (h : w.heap[i]? = some x) : i < w.heap.size := by
  rcases Nat.lt_or_ge i w.heap.size with h1 | h1
  · exact h1
  · rw [Array.getElem?_eq_none h1] at h; cases h

section
variable {W w0 : World} {X : Nat → Prop} {f : Nat → Nat}

theorem Mem.get_write (M : Mem) (b o : Nat) (v : SV) (c p : Nat) : (Mem.mk ((b, o, v) :: M.cells) M.blks M.next).get c p = if b = c ∧ o = p then some v else M.get c p := by
  by_cases hc : b = c ∧ o = p
  · simp [Mem.get, findC_cons, hc]
  · simp [Mem.get, findC_cons, hc]

theorem MOk.write {M : Mem} {w : World} (h : MOk w0 X f M w) {b o : Nat} {v : SV} {i : BI} (hi : look M.blks b = some i) (ho : o < i.init.length) :
    MOk w0 X f ⟨(b, o, v) :: M.cells, M.blks, M.next⟩ (w.setCell ⟨f b, o, none⟩ (v.den f)) := by
  obtain ⟨arr, harr, hsz⟩ := h.blk b i hi
  refine ⟨?_, ?_, ?_, h.inj, h.own, h.lt⟩
  · intro c j hj
    obtain ⟨arr', h1, h2⟩ := h.blk c j hj
    obtain ⟨arr'', h3, h4⟩ := blk_setCell h1 ⟨f b, o, none⟩ (v.den f)
    exact ⟨arr'', h3, h4.trans h2⟩
  · intro c p u hu
    rw [Mem.get_write] at hu
    split at hu
    · rename_i hc
      obtain ⟨rfl, rfl⟩ := hc
      simp only [Option.some.injEq] at hu
      subst hu
      have hcell : w.cell? ⟨f b, o, none⟩ = some (arr[o]'(by omega)) := by rw [cell_of_blk harr]; simp [show o < arr.size by omega]
      exact World.cell?_setCell_same w _ _ hcell
    · rename_i hne
      rw [World.cell?_setCell_other]
      · exact h.cell c p u hu
      · intro heq
        simp only [Addr.mk.injEq, and_true] at heq
        obtain ⟨j, hj⟩ := h.known c p u hu
        exact hne ⟨h.inj b c i j hi hj heq.1, heq.2⟩
  · intro c p u hu
    rw [Mem.get_write] at hu
    split at hu
    · rename_i hc
      obtain ⟨rfl, rfl⟩ := hc
      exact ⟨i, hi⟩
    · exact h.known c p u hu

theorem Fr.write {w : World} (h : Fr W w0 X w) {a : Addr} {v : Value} (ho : w0.heap.size ≤ a.block ∨ X a.block) : Fr W w0 X (w.setCell a v) := by
  refine ⟨h.os, h.tape, h.output, by simpa using h.size, fun i hi hx => ?_, h.base⟩
  rw [heap_setCell_far]
  · exact h.same i hi hx
  · rintro rfl
    rcases ho with ho | ho
    · omega
    · exact hx ho

theorem MOk.writes {M : Mem} {w : World} (h : MOk w0 X f M w) (hf : Fr W w0 X w) : ∀ {ws : List (Nat × Nat × SV)}, (∀ p ∈ ws, ∃ i, look M.blks p.1 = some i ∧ i.rw = true ∧ p.2.1 < i.init.length) →
    MOk w0 X f ⟨ws ++ M.cells, M.blks, M.next⟩ (applyWs f ws w) ∧ Fr W w0 X (applyWs f ws w)
  | [], _ => ⟨h, hf⟩
  | (b, o, v) :: ws, hw => by
    obtain ⟨h1, h2⟩ := MOk.writes h hf (ws := ws) (fun p hp => hw p (by simp [hp]))
    obtain ⟨i, hi, hrw, ho⟩ := hw (b, o, v) (by simp)
    exact ⟨h1.write (v := v) hi ho, h2.write (by simpa using h1.own b i hi hrw)⟩

theorem Mem.get_new (M : Mem) (n : Nat) (i : BI) (nx : Nat) (hc : ∀ o, findC M.cells n o = none) (c p : Nat) :
    (Mem.mk M.cells ((n, i) :: M.blks) nx).get c p = if n = c then i.init[p]? else M.get c p := by
  unfold Mem.get
  simp only [look_cons]
  by_cases h : n = c
  · subst h
    rw [hc p]
    simp
  · simp [h]

theorem MOk.new {M : Mem} {w : World} (h : MOk w0 X f M w) (hf : Fr W w0 X w) {t : TypeId} {l : List SV} (hlt : ltM M.next M = true) (hl : allB (SV.lt M.next) l = true) :
    let f' := fun k => if k = M.next then w.heap.size else f k
    MOk w0 X f' ⟨M.cells, (M.next, ⟨t, l, true⟩) :: M.blks, M.next + 1⟩ (w.alloc (.cells (dens f l) t)) ∧ Fr W w0 X (w.alloc (.cells (dens f l) t)) ∧ Ext M.next f f' := by
  intro f'
  have hext : Ext M.next f f' := fun b hb => by simp [f', Nat.ne_of_lt hb]
  have hnone : look M.blks M.next = none := by
    cases hh : look M.blks M.next with
    | none => rfl
    | some i => have := h.lt _ _ hh; omega
  have hcn : ∀ o, findC M.cells M.next o = none := by
    intro o
    cases hh : findC M.cells M.next o with
    | none => rfl
    | some v =>
      have hg : M.get M.next o = some v := by simp [Mem.get, hh]
      obtain ⟨i, hi⟩ := h.known _ _ _ hg
      rw [hnone] at hi
      cases hi
  have hget := fun c p => Mem.get_new M M.next ⟨t, l, true⟩ (M.next + 1) hcn c p
  have hold : ∀ b i, look M.blks b = some i → f' b = f b ∧ f b < w.heap.size := by
    intro b i hi
    have hb := h.lt b i hi
    obtain ⟨arr, harr, _⟩ := h.blk b i hi
    exact ⟨hext b hb, lt_of_blk harr⟩
  refine ⟨⟨?_, ?_, ?_, ?_, ?_, ?_⟩, ?_, hext⟩
  · intro b i hi
    rw [look_cons] at hi
    split at hi
    · rename_i hb
      simp only [Option.some.injEq] at hi
      subst hi hb
      exact ⟨dens f l, by simp only [f', if_true]; exact heap_alloc_at, by simp [dens]⟩
    · obtain ⟨h1, h2⟩ := hold b i hi
      obtain ⟨arr, harr, hsz⟩ := h.blk b i hi
      exact ⟨arr, by rw [h1, heap_alloc_old h2]; exact harr, hsz⟩
  · intro c p v hv
    rw [hget] at hv
    split at hv
    · rename_i hc
      subst hc
      simp only [f', if_true]
      rw [World.cell?_alloc_new]
      have hmem := List.mem_of_getElem? hv
      have hd := SV.lt_den (allB_iff hl v hmem) hext
      simp only at hv
      have : (dens f l)[p]? = some (v.den f) := by simp [dens, hv]
      rw [this, ← hd]
    · obtain ⟨i, hi⟩ := h.known c p v hv
      obtain ⟨h1, h2⟩ := hold c i hi
      rw [h1, World.cell?_alloc_lt w _ _ (by exact h2), h.cell c p v hv, SV.lt_den (ltM_get hlt hv) hext]
  · intro c p v hv
    rw [hget] at hv
    rw [look_cons]
    split at hv
    · rename_i hc; simp [hc]
    · rename_i hc
      obtain ⟨i, hi⟩ := h.known c p v hv
      exact ⟨i, by rw [if_neg hc]; exact hi⟩
  · intro b c i j hb hc hfe
    rw [look_cons] at hb hc
    split at hb
    · rename_i hb'
      split at hc
      · rename_i hc'; rw [← hb', ← hc']
      · rename_i hc'
        obtain ⟨h1, h2⟩ := hold c j hc
        subst hb'
        rw [h1] at hfe
        simp only [f', if_true] at hfe
        omega
    · rename_i hb'
      obtain ⟨h1, h2⟩ := hold b i hb
      split at hc
      · rename_i hc'
        subst hc'
        rw [h1] at hfe
        simp only [f', if_true] at hfe
        omega
      · obtain ⟨h3, h4⟩ := hold c j hc
        rw [h1, h3] at hfe
        exact h.inj b c i j hb hc hfe
  · intro b i hi hrw
    rw [look_cons] at hi
    split at hi
    · rename_i hb
      subst hb
      left
      simp only [f', if_true]
      exact hf.size
    · obtain ⟨h1, _⟩ := hold b i hi
      rw [h1]
      exact h.own b i hi hrw
  · intro b i hi
    rw [look_cons] at hi
    split at hi
    · rename_i hb; subst hb; exact Nat.lt_succ_self _
    · have := h.lt b i hi; simp only; omega
  · refine ⟨hf.os, hf.tape, hf.output, Nat.le_trans hf.size (by simp), fun i hi hx => ?_, hf.base⟩
    rw [heap_alloc_old (Nat.lt_of_lt_of_le hi hf.size)]
    exact hf.same i hi hx

theorem SRel.put {nt : Nat} {s : SL} {a : Act} (h : SRel f (look s) a) (hsz : a.tmps.size = nt) {dst : Option Nat} (hd : dstOk nt dst = true) {v : TV} {u : Value} (hv : v = .un ∨ u = v.den f) :
    SRel f (look (putS dst v s)) (a.put dst u) := by
  cases dst with
  | none => exact h
  | some d =>
    have hd' : d < nt := lt_of_blt hd
    intro t x hx hne
    simp only [putS, look_cons] at hx
    simp only [Act.put, Array.getD_eq_getD_getElem?, Array.getElem?_setIfInBounds]
    split at hx
    · rename_i hdt
      simp only [Option.some.injEq] at hx
      subst hx hdt
      rcases hv with rfl | rfl
      · exact absurd rfl hne
      · simp [hsz, hd']
    · rename_i hdt
      rw [if_neg hdt]
      have := h t x hx hne
      rwa [Array.getD_eq_getD_getElem?] at this

theorem putM_on (e : Eff) (m bm : Mem) : (putM e m).on bm = putM e (m.on bm) := by
  obtain ⟨c, v, ws, nb⟩ := e
  cases nb with
  | none => simp [putM, Mem.on]
  | some x => simp [putM, Mem.on]
theorem putS_append (d : Option Nat) (v : TV) (s bs : SL) : putS d v s ++ bs = putS d v (s ++ bs) := by cases d <;> rfl

/-- An effect, carried out. -/
theorem Rel.step {P : Program} {o : Oper} {nt : Nat} {s : SL} {M : Mem} {a : Act} {w : World} (h : Rel W w0 X nt s M f a w) {e : Eff} (hr : EffRun P o a w f M.next (look M.blks) e)
    (hnew : newOk s M e = true) (hd : dstOk nt o.dst = true) :
    ∃ x u w' f', (execOp a.eval o).run P w = .ok x w' ∧ (x = .value u ∨ (x = .skip ∧ u = undef)) ∧ Rel W w0 X nt (putS o.dst e.val s) (putM e M) f' (a.put o.dst u) w' ∧ Ext M.next f f' ∧ M.next ≤ (putM e M).next := by
  obtain ⟨x, u, hrun, hx, hv, hws, hnb⟩ := hr
  refine ⟨x, u, _, updF f M.next w e, hrun, hx, ?_, ?_⟩
  · have hput : (a.put o.dst u).tmps.size = nt ∧ (a.put o.dst u).defers = [] := by
      cases o.dst <;> simp [Act.put, h.size, h.defers]
    obtain ⟨c, v, ws, nb⟩ := e
    cases nb with
    | none =>
      obtain ⟨h1, h2⟩ := h.mem.writes h.fr hws
      exact ⟨hput.1, hput.2, h.slots.put h.size hd hv, h1, h2⟩
    | some x =>
      obtain ⟨t, l⟩ := x
      have hw0 : ws = [] := hnb (by simp)
      subst hw0
      simp only [newOk, Bool.and_eq_true] at hnew
      obtain ⟨⟨hs, hm⟩, hl⟩ := hnew
      obtain ⟨h1, h2, h3⟩ := h.mem.new h.fr (t := t) hm hl
      have hsl : SRel (updF f M.next w ⟨c, v, [], some (t, l)⟩) (look s) a := by
        intro k y hy hne
        rw [h.slots k y hy hne]
        exact (TV.lt_den (ltS_look hs hy) h3).symm
      exact ⟨hput.1, hput.2, hsl.put h.size hd hv, h1, h2⟩
  · obtain ⟨c, v, ws, nb⟩ := e
    cases nb with
    | none => exact ⟨Ext.refl _ _, Nat.le_refl _⟩
    | some x => exact ⟨fun b hb => by simp [updF, Nat.ne_of_lt hb], Nat.le_succ _⟩
end
end Go.Sx
