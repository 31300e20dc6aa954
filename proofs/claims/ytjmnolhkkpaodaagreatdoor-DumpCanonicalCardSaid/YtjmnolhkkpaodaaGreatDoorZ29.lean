/- A part of the proof: the reference is safe, both packages write and read alike. Several texts in one; printed by slim28.py out of the texts of wip. -/
import Derived.Test.YtjmnolhkkpaodaaGreatDoorZ28
set_option linter.all false
namespace Go.Sx
open Go Go.RowKit
section
variable {W : Bs} {P : Program} {G : List (Nat × Spec)}
theorem GSt.call {nt : Nat} {s : SL} {m : Mem} {g : Gh} {f : Nat → Nat} {a : Act} {w w' : World} (h : GSt W nt s m g f a w) (hb : Below w.heap.size w w') {d : Nat} (hd : d < nt) {v : TV} {u : Value} (hv : u = v.den f) :
  GSt W nt (putS (some d) v s) m g f (a.put (some d) u) w' := by
 have hblk : ∀ b j, look m.blks b = some j → w'.heap[f b]? = w.heap[f b]? := by
  intro b j hj
  obtain ⟨arr, harr, _⟩ := h.mem.blk b j hj
  exact hb.block _ (lt_of_blk harr)
 refine ⟨by simp [Act.put, h.size], by simp [Act.put, h.defers], h.slots.put h.size (by simp [dstOk, Nat.blt]; omega) (.inr hv), ?_, h.base, ?_, h.pin, ?_, h.gh.at_, h.gh.off, h.gh.two⟩
 · refine ⟨?_, ?_, h.mem.known, h.mem.inj, fun b j hj _ => .inr ⟨b, j, hj, rfl⟩, h.mem.lt⟩
   · intro b j hj
     rw [hblk b j hj]
     exact h.mem.blk b j hj
   · intro b o v hv
     obtain ⟨j, hj⟩ := h.mem.known b o v hv
     rw [← h.mem.cell b o v hv]
     exact World.cell?_of_block (hblk b j hj)
 · exact ⟨hb.os.trans h.fr.os, hb.tape.trans h.fr.tape, hb.output.trans h.fr.output, Nat.le_trans h.fr.size hb.size, fun k hk hx => (hb.block k (by have := h.fr.size; omega)).trans (h.fr.same k hk hx), W.base⟩
 · intro q o ho
   exact World.ownsRow.same (h.gh.own q o ho) (fun k hk => hb.block k (World.ownsRow.lt (h.gh.own q o ho) k hk).2)
theorem World.ownsRow.base_le {w : World} {B B' : Nat} (hB : B ≤ B') {e : TypeId} {size : Nat} {v : Value} {n : Nat} {xs : List Value} (h : w.ownsRow B' e size v n xs) : w.ownsRow B e size v n xs := by
 obtain ⟨h1, h2 | ⟨b, cap, cur, h3, h4, h5⟩⟩ := h
 · exact ⟨h1, .inl h2⟩
 · exact ⟨h1, .inr ⟨b, cap, cur, h3, by omega, h5⟩⟩
theorem GSt.callOwn {nt : Nat} {s : SL} {m : Mem} {g : Gh} {f : Nat → Nat} {a : Act} {w w' : World} (h : GSt W nt s m g f a w) (hb : Below w.heap.size w w') {d : Nat} (hd : d < nt) {o : Own} (hown : w'.ownsRow w.heap.size o.e o.size o.v o.n o.vals) :
  GSt W nt (putS (some d) (.one (.sl o.a o.n o.c)) s) m (g ++ [o]) f (a.put (some d) o.v) w' := by
 have h1 := h.call hb hd (v := .one (.sl o.a o.n o.c)) (u := o.v) rfl
 have hget : ∀ (q : Nat) (p : Own), (g ++ [o])[q]? = some p → (q < g.length ∧ g[q]? = some p) ∨ (q = g.length ∧ p = o) := by
  intro q p hp
  by_cases hq : q < g.length
  · rw [List.getElem?_append_left hq] at hp; exact .inl ⟨hq, hp⟩
  · rw [List.getElem?_append_right (by omega)] at hp
    right
    rcases hk : q - g.length with _ | k
    · rw [hk] at hp
      simp only [List.getElem?_cons_zero, Option.some.injEq] at hp
      exact ⟨by omega, hp.symm⟩
    · rw [hk] at hp; simp at hp
 have hnew : ∀ k, o.v.ownBlock = some k → w.heap.size ≤ k := fun k hk => (World.ownsRow.lt hown k hk).1
 have hold : ∀ (q : Nat) (p : Own), g[q]? = some p → ∀ k, p.v.ownBlock = some k → k < w.heap.size := fun q p hp k hk => (World.ownsRow.lt (h.gh.own q p hp) k hk).2
 refine ⟨h1.size, h1.defers, h1.slots, h1.mem, h1.base, h1.fr, h1.pin, ?_, ?_, ?_, ?_⟩
 · intro q p hp
   rcases hget q p hp with ⟨_, h2⟩ | ⟨_, rfl⟩
   · exact h1.gh.own q p h2
   · exact World.ownsRow.base_le (Nat.zero_le _) hown
 · intro q p hp k hk
   rcases hget q p hp with ⟨_, h2⟩ | ⟨_, rfl⟩
   · exact h1.gh.at_ q p h2 k hk
   · exact .inl (Nat.le_trans h.fr.size (hnew k hk))
 · intro q p hp k hk b j hj hf
   rcases hget q p hp with ⟨_, h2⟩ | ⟨_, rfl⟩
   · exact h1.gh.off q p h2 k hk b j hj hf
   · obtain ⟨arr, harr, _⟩ := h.mem.blk b j hj
     have h3 := lt_of_blk harr
     have := hnew k hk
     omega
 · intro q q' p p' hp hp' hne k hk hk'
   rcases hget q p hp with ⟨h2, h3⟩ | ⟨h2, rfl⟩ <;> rcases hget q' p' hp' with ⟨h4, h5⟩ | ⟨h4, rfl⟩
   · exact h1.gh.two q q' p p' h3 h5 hne k hk hk'
   · have := hold q p h3 k hk
     have := hnew k hk'
     omega
   · have := hold q' p' h5 k hk'
     have := hnew k hk
     omega
   · omega
structure CS where
 k : Nat
 F : SL → Mem → Gh → RG
def runCalls (P : Program) (W : World) (G : List (Nat × Spec)) (N nt : Nat) (ops : Array Oper) : List CS → Nat → SL → Mem → Gh → RG
 | [], i, s, m, g => (run P W G N (.ops ops (ops.toList.drop i)) ⟨nt, [], noMem⟩ s m).toG g
 | c :: r, i, s, m, g => ((run P W G N (.ops ops ((ops.toList.drop i).take (c.k - i))) ⟨nt, [], noMem⟩ s m).toG g).bind fun s m g =>
   (c.F s m g).bind fun s m g => runCalls P W G N nt ops r (c.k + 1) s m g
def CallOk (W : Bs) (P : Program) (nt : Nat) (o : Oper) (F : SL → Mem → Gh → RG) : Prop :=
 ∀ (s : SL) (m : Mem) (g : Gh) (f : Nat → Nat) (a : Act) (w : World) (Q : Exit → Act → World → Prop), (F s m g).Good → GSt W nt s m g f a w → o.wp P a w (fun a' w' => GPost W nt (F s m g) .normal a' w') Q
def CallGOk (W : Bs) (P : Program) (nt : Nat) (ops : Array Oper) (c : CS) : Prop :=
 ∃ o, ops.toList[c.k]? = some o ∧ (o.guard = none ∨ ∀ s m g, (c.F s m g).Good → guardS ops (look s) o = .yes) ∧ CallOk W P nt o c.F
def onYes (ops : Array Oper) (o : Oper) (F : SL → Mem → Gh → RG) (s : SL) (m : Mem) (g : Gh) : RG := match guardS ops (look s) o with
 | .yes => F s m g
 | _ => .fail
theorem callG_yes {W : Bs} {P : Program} {nt : Nat} {ops : Array Oper} {k : Nat} {o : Oper} {F : SL → Mem → Gh → RG} (ho : ops.toList[k]? = some o) (h : CallOk W P nt o F) : CallGOk W P nt ops ⟨k, onYes ops o F⟩ := by
 refine ⟨o, ho, .inr fun s m g hg => ?_, fun s m g f a w Q hg hst => ?_⟩
 · unfold onYes at hg
   dsimp only at hg
   split at hg
   · assumption
   · exact hg.elim
 · unfold onYes at hg ⊢
   dsimp only at hg ⊢
   split at hg
   · exact h s m g f a w Q hg hst
   · exact hg.elim
theorem callG_of {W : Bs} {P : Program} {nt : Nat} {ops : Array Oper} {k : Nat} {o : Oper} {F : SL → Mem → Gh → RG} (ho : ops.toList[k]? = some o) (hg : o.guard = none) (h : CallOk W P nt o F) : CallGOk W P nt ops ⟨k, F⟩ := ⟨o, ho, .inl hg, h⟩
theorem runCalls_sound (hG : GOk W.W P G) {N nt : Nat} {ops : Array Oper} : ∀ (l : List CS) (i : Nat) (s : SL) (m : Mem) (g : Gh) (f : Nat → Nat) (a : Act) (w : World), (∀ c ∈ l, CallGOk W P nt ops c) → (∀ c ∈ l, i ≤ c.k) → l.Pairwise (fun c d => c.k < d.k) →
  (runCalls P W.W G N nt ops l i s m g).Good → GSt W nt s m g f a w → wpList P ops (GPost W nt (runCalls P W.W G N nt ops l i s m g)) (ops.toList.drop i) a w
 | [], i, s, m, g, f, a, w, _, _, _, hg, h => by
  simp only [runCalls] at hg ⊢
  exact wpList_up (fun e a' w' hp => toG_post h hg hp) _ _ _ ((sound hG (fun n hS => draw_sound hG n hS) N).ops w _ ops (ops.toList.drop i) ⟨nt, [], noMem⟩ s m f a w (toG_good hg).1 (by rw [List.append_nil, on_noMem]; exact h.rel))
 | c :: r, i, s, m, g, f, a, w, hok, hi, hp, hg, h => by
  simp only [runCalls] at hg ⊢
  have hg1 := RG.good_of_bind hg
  obtain ⟨o, ho, hgd, hwp⟩ := hok c (by simp)
  have hci := hi c (by simp)
  have hsplit : ops.toList.drop i = (ops.toList.drop i).take (c.k - i) ++ o :: ops.toList.drop (c.k + 1) := by
   obtain ⟨hlt, hget⟩ := List.getElem?_eq_some_iff.1 ho
   have h1 : (ops.toList.drop i).drop (c.k - i) = o :: ops.toList.drop (c.k + 1) := by
    rw [List.drop_drop, show i + (c.k - i) = c.k by omega, List.drop_eq_getElem_cons hlt, hget]
   rw [← h1, List.take_append_drop]
  suffices key : wpList P ops (GPost W nt (((run P W.W G N (.ops ops ((ops.toList.drop i).take (c.k - i))) ⟨nt, [], noMem⟩ s m).toG g).bind fun s m g =>
    (c.F s m g).bind fun s m g => runCalls P W.W G N nt ops r (c.k + 1) s m g)) ((ops.toList.drop i).take (c.k - i) ++ o :: ops.toList.drop (c.k + 1)) a w by
   rw [← hsplit] at key
   exact key
  refine wpList_cat (Q' := fun e a w => GPost W nt ((run P W.W G N (.ops ops ((ops.toList.drop i).take (c.k - i))) ⟨nt, [], noMem⟩ s m).toG g) e a w) ?_ ?_ _ _ _
   (wpList_up (fun e a' w' hp => toG_post h hg1 hp) _ _ _ ((sound hG (fun n hS => draw_sound hG n hS) N).ops w _ ops ((ops.toList.drop i).take (c.k - i)) ⟨nt, [], noMem⟩ s m f a w (toG_good hg1).1 (by rw [List.append_nil, on_noMem]; exact h.rel)))
  · intro a1 w1 hp1
    obtain ⟨s1, m1, g1, f1, h1, hgood, hlift⟩ := bind_leaf hg hp1
    have hw : Region.wanted o (yielded ops a1.tmps) = true := by
     rcases hgd with hgd | hgd
     · simp only [Region.wanted, hgd]
     · exact guard_yes h1.slots (hgd s1 m1 g1 (RG.good_of_bind hgood))
    suffices hsu : ∀ K : Act → World → Prop, (∀ a w, wpList P ops (GPost W nt (((run P W.W G N (.ops ops ((ops.toList.drop i).take (c.k - i))) ⟨nt, [], noMem⟩ s m).toG g).bind fun s m g =>
      (c.F s m g).bind fun s m g => runCalls P W.W G N nt ops r (c.k + 1) s m g)) (ops.toList.drop (c.k + 1)) a w → K a w) → o.wp P a1 w1 K _ by
     simp only [wpList, hw, if_true]
     exact .inl (hsu _ fun _ _ h => h)
    intro K hK
    refine Oper.wp_mono ?_ (hwp s1 m1 g1 f1 a1 w1 _ (RG.good_of_bind hgood) h1)
    intro a2 w2 hp2
    obtain ⟨s2, m2, g2, f2, h2, hgood2, hlift2⟩ := bind_leaf hgood hp2
    refine hK a2 w2 (wpList_up (fun e a' w' hp => hlift _ _ _ (hlift2 _ _ _ hp)) _ _ _ (runCalls_sound hG r (c.k + 1) s2 m2 g2 f2 a2 w2 (fun d hd => hok d (by simp [hd])) ?_ (List.pairwise_cons.1 hp).2 hgood2 h2))
    intro d hd
    exact (List.pairwise_cons.1 hp).1 d hd
  · intro e a1 w1 hne hp1
    exact bind_other hne hp1
theorem call_wp {o : Oper} {x : Operand} {ys : List Operand} (hc : callOf o = some (x, ys)) {f : Nat → Nat} {s : SL} {a : Act} {w : World} (hS : SRel f (look s) a) {g : FuncId} (hx : x = .func g) {l : List TV} (hl : evalList (look s) ys = some l)
  (hfn : ∃ fn, P.funcs[g]? = some fn ∧ (fn.name == "runtime.NumGoroutine") = false ∧ fn.body.isNone = false) {R : Ending → World → Prop} (hcalls : Calls P g (l.map (TV.den f)).toArray w R) {K : Act → World → Prop} {Q : Exit → Act → World → Prop}
  (hK : ∀ en w', R en w' → ∃ v, en = .returned v ∧ K (a.put o.dst v) w') : o.wp P a w K Q := by
 have hl1 := (evalList_sound hS hl).1
 have hx1 : a.eval x = .func (.func g) #[] (([] : List (Nat × Nat)).map (caddr f)).toArray := by rw [hx]; rfl
 have hrun := call_run (P := P) (f := f) (w := w) hc hx1 hl1 hfn
 unfold Oper.wp
 rw [hrun, Oper.upon_enter]
 simp only [List.map_nil, List.append_nil]
 refine hcalls.mono fun en w' hr => ?_
 obtain ⟨v, rfl, h⟩ := hK en w' hr
 exact h
theorem calls_cust (hG : GOk W.W P G) {N nt id : Nat} {ops : Array Oper} {l : List CS} (hok : ∀ c ∈ l, CallGOk W P nt ops c) (hp : l.Pairwise (fun c d => c.k < d.k)) :
  CustOk W P nt (.region id ops false) (runCalls P W.W G N nt ops l 0) := by
 intro s m g f a w hg h
 have := runCalls_sound hG l 0 s m g f a w hok (fun _ _ => Nat.zero_le _) hp hg h
 rw [List.drop_zero] at this
 exact wp_region_list this
def hole (w : World) (i : Nat) : World := { w with heap := w.heap.setIfInBounds i (.cells #[] 0 (0, 0)) }
theorem hole_far {w : World} {i k : Nat} (h : k ≠ i) : (hole w i).heap[k]? = w.heap[k]? := by
 show (w.heap.setIfInBounds i _)[k]? = _
 rw [Array.getElem?_setIfInBounds, if_neg (fun hh => h hh.symm)]
theorem hole_cell {w : World} {i : Nat} {a : Addr} (h : a.block ≠ i) : (hole w i).cell? a = w.cell? a := World.cell?_of_block (hole_far h)
theorem hole_free (w : World) (i : Nat) : Free (hole w i) i := by
 intro a ha
 unfold World.cell?
 have e : (hole w i).heap[a.block]? = if i < w.heap.size then some (.cells #[] 0 (0, 0)) else none := by
  rw [ha]
  show (w.heap.setIfInBounds i _)[i]? = _
  rw [Array.getElem?_setIfInBounds, if_pos rfl]
 rw [e]
 by_cases h : i < w.heap.size
 · rw [if_pos h]
   dsimp only
   split
   · rfl
   · simp
 · rw [if_neg h]
theorem hole_old (w : World) (i : Nat) : Old (hole w i) w := by
 refine ⟨fun {a v} hc => ?_⟩
 have hne : a.block ≠ i := by
  intro hh
  rw [hole_free w i a hh] at hc
  cases hc
 rw [hole_cell hne] at hc
 exact hc
end
end Go.Sx
namespace Go.Sx
open Go Go.RowKit
section
variable {W : Bs} {P : Program} {G : List (Nat × Spec)}
theorem GSt.laid {nt : Nat} {s : SL} {m : Mem} {g : Gh} {f : Nat → Nat} {a : Act} {w w' : World} (h : GSt W nt s m g f a w) {t : TypeId} {l : List SV} {j : Nat} (hL : LaidAt w w' j (dens f l) t) (hs : ltS m.next s = true) (hm : ltM m.next m = true) (hl : allB (SV.lt m.next) l = true)
  {d : Nat} (hd : d < nt) {v : TV} {u : Value} (hv : u = v.den (fun k => if k = m.next then j else f k)) :
  GSt W nt (putS (some d) v s) ⟨m.cells, (m.next, ⟨t, l, true⟩) :: m.blks, m.next + 1⟩ g (fun k => if k = m.next then j else f k) (a.put (some d) u) w' := by
 have hext : Ext m.next f (fun k => if k = m.next then j else f k) := fun b hb => by simp [Nat.ne_of_lt hb]
 have hm0 : MOk w (fun i => ∃ b j, look m.blks b = some j ∧ f b = i) f ⟨m.cells, m.blks, m.next + 1⟩ w := ⟨h.mem.blk, h.mem.cell, h.mem.known, h.mem.inj, h.mem.own, fun b i hi => Nat.lt_succ_of_lt (h.mem.lt b i hi)⟩
 have hnone : look m.blks m.next = none := by
  cases hh : look m.blks m.next with
  | none => rfl
  | some i => exact absurd (h.mem.lt _ _ hh) (Nat.lt_irrefl _)
 obtain ⟨h1, _⟩ := hm0.newAt h.rel.fr hL hnone (Nat.lt_succ_self _) (fun b o v hv => SV.lt_den (ltM_get hm hv) hext) (denL_lt hl hext)
 have hsl : SRel (fun k => if k = m.next then j else f k) (look s) a := by
  intro k y hy hne
  rw [h.slots k y hy hne]
  exact (TV.lt_den (ltS_look hs hy) hext).symm
 have hnew : ∀ b i, look ((m.next, (⟨t, l, true⟩ : BI)) :: m.blks) b = some i → (b = m.next ∧ (if b = m.next then j else f b) = j) ∨ ∃ i', look m.blks b = some i' ∧ (if b = m.next then j else f b) = f b := by
  intro b i hi
  rw [look_cons] at hi
  split at hi
  · rename_i hb
    exact .inl ⟨hb.symm, by rw [if_pos hb.symm]⟩
  · rename_i hb
    exact .inr ⟨i, hi, if_neg (fun e => hb e.symm)⟩
 refine ⟨by simp [Act.put, h.size], by simp [Act.put, h.defers], hsl.put h.size (by simp [dstOk, Nat.blt]; omega) (.inr hv), ?_, ?_, ?_, ?_, ?_, h.gh.at_, ?_, h.gh.two⟩
 · exact ⟨h1.blk, h1.cell, h1.known, h1.inj, fun b i hi _ => .inr ⟨b, i, hi, rfl⟩, h1.lt⟩
 · intro b i hi
   rcases hnew b i hi with ⟨_, h2⟩ | ⟨i', h2, h3⟩
   · left
     show _ ≤ (if b = m.next then j else f b)
     rw [h2]
     exact Nat.le_trans h.fr.size hL.ge
   · show _ ≤ (if b = m.next then j else f b) ∨ W.X (if b = m.next then j else f b)
     rw [h3]
     exact h.base b i' h2
 · exact ⟨hL.os.trans h.fr.os, hL.tape.trans h.fr.tape, hL.output.trans h.fr.output, Nat.le_trans h.fr.size hL.size, fun k hk hx => (hL.same k (Nat.lt_of_lt_of_le hk h.fr.size)).trans (h.fr.same k hk hx), W.base⟩
 · intro i hi
   obtain ⟨h2, h3⟩ := h.pin i hi
   exact ⟨by rw [← h2]; exact if_neg (by omega), Nat.lt_succ_of_lt h3⟩
 · intro q o ho
   exact World.ownsRow.same (h.gh.own q o ho) (fun k hk => hL.same k (World.ownsRow.lt (h.gh.own q o ho) k hk).2)
 · intro q o ho k hk b i hi
   have hlt := (World.ownsRow.lt (h.gh.own q o ho) k hk).2
   show (if b = m.next then j else f b) ≠ k
   rcases hnew b i hi with ⟨_, h2⟩ | ⟨i', h2, h3⟩
   · rw [h2]
     have := hL.ge
     omega
   · rw [h3]
     exact h.gh.off q o ho k hk b i' h2
theorem GSt.callOwnV {nt : Nat} {s : SL} {m : Mem} {g : Gh} {f : Nat → Nat} {a : Act} {w w' : World} (h : GSt W nt s m g f a w) (hb : Below w.heap.size w w') {d : Nat} (hd : d < nt) {o : Own} (hown : w'.ownsRow w.heap.size o.e o.size o.v o.n o.vals) {v : TV} {u : Value} (hv : u = v.den f) :
  GSt W nt (putS (some d) v s) m (g ++ [o]) f (a.put (some d) u) w' := by
 have h0 := h.callOwn hb hd hown
 have h1 := h.call hb hd hv
 exact ⟨h1.size, h1.defers, h1.slots, h1.mem, h1.base, h1.fr, h1.pin, h0.gh⟩
theorem below_alloc (w : World) (o : Obj) : Below w.heap.size w (w.alloc o) := by
 refine ⟨rfl, rfl, rfl, ?_, fun k hk => ?_⟩
 · show w.heap.size ≤ (w.heap.push o).size
   rw [Array.size_push]
   omega
 · show (w.heap.push o)[k]? = _
   rw [Array.getElem?_push, if_neg (by omega)]
theorem calls_of_runS {W : World} (hG : GOk W P G) {n : Nat} {g : FuncId} {fn : Func} {c : Code} (hfn : P.funcs[g]? = some fn) (hc : fn.body = some c) {t : HG} (ht : HGOk W P fn.ntmps t c) {args : List TV} (hle : args.length ≤ fn.ntmps) {R : TV → Mem → Gh → Prop}
  (hres : (runG P W G n fn.ntmps t c (argSlots 0 args) noMem []).All fun e vc s m g => vc.val = true ∧ (e = .nrm ∨ e = .ret) ∧ ∃ ps v, resultsS P (look s) m fn.results.toList = some ps ∧ resultV ps = some v ∧ R v m g) :
  Calls P g (args.map (TV.den fun _ => 0)).toArray W fun en w' => ∃ v m g f, R v m g ∧ en = .returned (v.den f) ∧ (∀ (q : Nat) (o : Own), g[q]? = some o → o.rel W.heap.size w') ∧ Below W.heap.size W w' ∧ MOk w' (fun i => ∃ b j, look m.blks b = some j ∧ f b = i) f m w' ∧ (∀ b j, look m.blks b = some j → W.heap.size ≤ f b) := by
 have hm : MOk W (fun _ => False) (fun _ => 0) noMem W := by
  refine ⟨?_, ?_, ?_, ?_, ?_, ?_⟩ <;> intro b <;> simp [noMem, look, Mem.get, findC]
 have hf : Fr W W (fun _ => False) W := ⟨rfl, rfl, rfl, Nat.le_refl _, fun _ _ _ => rfl, (Old.refl W).base⟩
 have hr := fn_rel (nt := fn.ntmps) hle hm hf
 have hst : GSt (Bs.of W) fn.ntmps (argSlots 0 args) noMem [] (fun _ => 0) { tmps := (args.map (TV.den fun _ => 0)).toArray ++ Array.replicate (fn.ntmps - (args.map (TV.den fun _ => 0)).toArray.size) undef, defers := [] } W := by
  refine ⟨hr.size, hr.defers, hr.slots, ?_, fun b j hj => by simp [noMem, look] at hj, ⟨rfl, rfl, rfl, Nat.le_refl _, fun _ _ _ => rfl, (Old.refl W).base⟩, fun i hi => (by cases hi), ?_, ?_, ?_, ?_⟩
  · refine ⟨?_, ?_, ?_, ?_, ?_, ?_⟩ <;> intro b <;> simp [noMem, look, Mem.get, findC]
  · intro q o ho; simp at ho
  · intro q o ho; simp at ho
  · intro q o ho; simp at ho
  · intro q q' o p ho; simp at ho
 have hgd := RG.All.good (fun _ _ _ _ _ h => h.1) hres
 refine calls_of_wp hfn hc (wp_mono (runG_sound (W := Bs.of W) hG t c _ _ _ _ _ W ht hgd hst) ?_)
 intro e a1 w1 hp
 obtain ⟨ex, vc, s, m, gh, ⟨_, hexx, ps, v, hps, hv, hR⟩, hex, f2, hst2⟩ := RG.All.meet hres hp
 obtain ⟨h1, h2⟩ := results_run (P := P) hst2.slots hst2.mem.cell hps hv
 have fin : a1.defers = [] ∧ ∃ u, (results fn a1.tmps).run P w1 = .ok u w1 ∧ ∃ v m g f, R v m g ∧ Ending.returned u = .returned (v.den f) ∧ (∀ (q : Nat) (o : Own), g[q]? = some o → o.rel W.heap.size w1) ∧ Below W.heap.size W w1 ∧ MOk w1 (fun i => ∃ b j, look m.blks b = some j ∧ f b = i) f m w1 ∧ (∀ b j, look m.blks b = some j → W.heap.size ≤ f b) :=
  ⟨hst2.defers, _, h1, v, m, gh, f2, hR, rfl, fun q o hq => (hst2.gh.own q o hq).up fun k hk => (hst2.gh.at_ q o hq k hk).resolve_right (fun h => h), hst2.below, hst2.mem, fun b j hj => (hst2.base b j hj).resolve_right (fun h => h)⟩
 rcases hexx with rfl | rfl
 · simp only [exOf, Option.some.injEq] at hex
   subst hex
   exact fin
 · simp only [exOf, Option.some.injEq] at hex
   subst hex
   exact fin
end
end Go.Sx
namespace Go.Proofs.YtjmnolhkkpaodaaGreatDoor
open Go Go.Sx Go.RowKit Go.Ty
set_option maxRecDepth 100000
abbrev FI := Nat → Int
abbrev FB := Nat → Bool
abbrev FA := Nat → Option Addr × Nat × Nat
def svC (i : Int) (b : Bool) (a : Option Addr × Nat × Nat) : PT → SV
 | .int k _ _ => .int k (.sym i)
 | .bool => .bool (.sym b)
 | .slc _ _ _ => .sl a.1 a.2.1 a.2.2
 | _ => .nilP
def svL (i : FI) (b : FB) (a : FA) : Nat → List PT → List SV
 | _, [] => []
 | k, c :: r => svC (i k) (b k) (a k) c :: svL i b a (k + 1) r
def PT.flat : PT → Bool
 | .int _ _ _ => true
 | .bool => true
 | .slc _ _ _ => true
 | _ => false
def s91 : Sp := ⟨[.agg (pS 62)], none, .one .bool, [], 0, [], 9500000000⟩
def nilv : Value := .slice none 0 0
theorem ptL_sv {S : SB'} {v0 : Value} {L : Int} : ∀ {l : List PT} {vs : List Value} (k : Nat), ptL S v0 L l vs → l.all PT.flat = true → ∃ (i : FI) (b : FB) (a : FA), (∀ f, (svL i b a k l).map (SV.den f) = vs) ∧
  ∀ j t lo hi, l[j]? = some (.slc t lo hi) → ∃ n, Sl S t (.slice (a (k + j)).1 (a (k + j)).2.1 (a (k + j)).2.2) n
 | [], [], k, _, _ => ⟨fun _ => 0, fun _ => false, fun _ => (none, 0, 0), fun _ => rfl, fun j t lo hi h => by simp at h⟩
 | c :: l, v :: vs, k, h, hf => by
  simp only [List.all_cons, Bool.and_eq_true] at hf
  obtain ⟨i, b, a, h1, h2⟩ := ptL_sv (k + 1) h.2 hf.2
  obtain ⟨x, y, z, h3, h4⟩ : ∃ (x : Int) (y : Bool) (z : Option Addr × Nat × Nat), (∀ f, (svC x y z c).den f = v) ∧ ∀ t lo hi, c = .slc t lo hi → ∃ n, Sl S t (.slice z.1 z.2.1 z.2.2) n := by
   have hc := h.1
   cases c with
   | int q lo hi =>
    obtain ⟨x, rfl, _⟩ := hc
    exact ⟨x, false, (none, 0, 0), fun _ => rfl, fun t lo hi h => by cases h⟩
   | bool =>
    obtain ⟨y, rfl⟩ := hc
    exact ⟨0, y, (none, 0, 0), fun _ => rfl, fun t lo hi h => by cases h⟩
   | slc t lo hi =>
    obtain ⟨n, hs, _⟩ := hc
    obtain ⟨aa, len, c, rfl, h5⟩ := hs
    refine ⟨0, false, (aa, len, c), fun _ => rfl, fun t' lo' hi' h => ?_⟩
    cases h
    exact ⟨n, aa, len, c, rfl, h5⟩
   | cnt => simp [PT.flat] at hf
   | fix => simp [PT.flat] at hf
   | ptr t => simp [PT.flat] at hf
  refine ⟨fun j => if j = k then x else i j, fun j => if j = k then y else b j, fun j => if j = k then z else a j, fun f => ?_, ?_⟩
  · have hcong : ∀ (l : List PT) (m : Nat), k < m → svL (fun j => if j = k then x else i j) (fun j => if j = k then y else b j) (fun j => if j = k then z else a j) m l = svL i b a m l := by
     intro l
     induction l with
     | nil => intro m _; rfl
     | cons c l ih =>
      intro m hm
      simp only [svL, if_neg (show ¬ m = k by omega), ih (m + 1) (by omega)]
    simp only [svL, List.map_cons, if_true, hcong l (k + 1) (by omega), h1 f, h3 f]
  · intro j t lo hi hj
    cases j with
    | zero =>
     simp only [List.getElem?_cons_zero, Option.some.injEq] at hj
     simp only [Nat.add_zero, if_true]
     exact h4 t lo hi hj
    | succ j =>
     simp only [List.getElem?_cons_succ] at hj
     have := h2 j t lo hi hj
     rw [show k + 1 + j = k + (j + 1) by omega] at this
     simp only [if_neg (show ¬ k + (j + 1) = k by omega)]
     exact this
 | [], _ :: _, _, h, _ => h.elim
 | _ :: _, [], _, h, _ => h.elim
theorem ptL_app {S : SB'} {v0 : Value} {L : Int} : ∀ {l l' : List PT} {vs : List Value}, ptL S v0 L (l ++ l') vs → ptL S v0 L l (vs.take l.length) ∧ ptL S v0 L l' (vs.drop l.length)
 | [], _, _, h => ⟨trivial, h⟩
 | _ :: l, _, _ :: _, h => ⟨⟨h.1, (ptL_app (l := l) h.2).1⟩, (ptL_app (l := l) h.2).2⟩
 | _ :: _, _, [], h => h.elim
def PT.flat0 : PT → Bool
 | .int _ _ _ => true
 | .bool => true
 | _ => false
theorem ptL_any {S S' : SB'} {v0 v0' : Value} {L L' : Int} : ∀ {l : List PT} {vs : List Value}, l.all PT.flat0 = true → ptL S v0 L l vs → ptL S' v0' L' l vs
 | [], [], _, _ => trivial
 | c :: l, v :: vs, hf, h => by
  simp only [List.all_cons, Bool.and_eq_true] at hf
  refine ⟨?_, ptL_any hf.2 h.2⟩
  have := h.1
  cases c <;> first | exact this | (simp [PT.flat0] at hf)
 | [], _ :: _, _, h => h.elim
 | _ :: _, [], _, h => h.elim
theorem sp_alone {g : FuncId} {sp : Sp} (h : ∀ p : Par, PW p → SpOk Tryz.prog p g sp) (hpm : sp.pm = none) (hmx : 0 ≤ sp.mx) {w : World} {vs : List Value} (hv : pvL (fun _ => none) nilv 0 sp.ps vs) :
  Calls Tryz.prog g vs.toArray w fun en w' => ∃ u S', en = .returned u ∧ sp.rs.ok S' nilv (sp.k : Int) u ∧ Below w.heap.size w w' := by
 have hp : PW ⟨T28, nilv, w, 0, [], []⟩ := ⟨rfl, none, 0, 0, rfl, ⟨Nat.le_refl _, Nat.zero_le _, fun _ => rfl, fun j hj => by omega⟩⟩
 have hW : WT ⟨T28, nilv, w, 0, [], []⟩ (fun _ => none) (0 : Nat) w := ⟨Old.refl w, Nat.le_refl _, fun b x h => by cases h⟩
 refine ((h _ hp).ok (fun _ => none) w 0 vs (by omega) hW (by simpa using hv) (fun i c hh => by rw [hpm] at hh; cases hh)).mono ?_
 rintro en w' ⟨u, S', rfl, ho⟩
 refine ⟨u, S', rfl, ?_, ⟨ho.os, ho.tape, ho.output, ho.size, fun i hi => ho.same i hi (fun x hx => by cases hx)⟩⟩
 have := ho.val
 simpa using this
def twoB : Option (SB × TV) → Bool
 | some (.lit true, .tup [(false, [.bool _]), (false, [.bool _])]) => true
 | _ => false
theorem twoB_ok {r : Option (SB × TV)} (h : twoB r = true) : ∃ x y, r = some (.lit true, .tup [(false, [.bool x]), (false, [.bool y])]) := by
 unfold twoB at h
 split at h
 · exact ⟨_, _, rfl⟩
 · contradiction
theorem eval94 (W : World) (i : FI) (b : FB) (a : FA) (q : Int) : twoB (evalR Tryz.prog W [] 94 [.agg (svL i b a 0 (pS 46)), .one (.int .u8 (.sym q))]) = true := by kernel_rfl
theorem sp94 (p : Par) : SpOk Tryz.prog p 94 s94 := by
 refine ⟨⟨Tryz.f94, Tryz.func94, by kernel_rfl, by kernel_rfl⟩, ?_⟩
 intro S w M vs _ hW hv _
 match vs, hv with
 | [v, u], ⟨⟨arr, hv, hl⟩, ⟨x, hu, _⟩, _⟩ =>
  subst hu hv
  obtain ⟨i, b, a, h1, _⟩ := ptL_sv 0 hl (by kernel_rfl)
  obtain ⟨r1, r2, hr⟩ := twoB_ok (eval94 w i b a x)
  have hc := calls_of_eval (gok_nil w) (eval_of_evalR hr rfl) w (Old.refl w)
  have e : ([.agg (svL i b a 0 (pS 46)), .one (.int .u8 (.sym x))] : List TV).map (TV.den fun _ => 0) = [.agg arr, .int .u8 x] := by
   simp only [List.map_cons, List.map_nil, TV.den, dens, h1]
   rfl
  rw [e] at hc
  refine hc.mono ?_
  rintro en w' ⟨⟨f, rfl⟩, hb⟩
  refine ⟨_, S, rfl, spOut_below hW hb rfl ⟨#[.bool r1.val, .bool r2.val], rfl, ⟨_, rfl⟩, ⟨_, rfl⟩, trivial⟩⟩
noncomputable def r2ops63 : Array Oper := match bodyOf Tryz.f63 with
 | .seq _ (.seq (.region _ o _) _) => o
 | _ => #[]
noncomputable def okPic (l : List SV) : Bool := @decide (∀ f, ptL (fun _ => none) nilv 0 (pS 62) (l.map (SV.den f))) (Classical.propDecidable _)
noncomputable def FInt : SL → Mem → Gh → RG := fun s m g => match Sx.look s 9 with
 | some (.agg l) => .any fun _ n => .leaf .nrm (.sym (okPic l)) (putS (some 10) (.one (.bool (.sym (Nat.beq n 1)))) s) m g
 | _ => .fail
noncomputable def G63 (W : World) : List (Nat × Sx.Spec) := (127, specV (FWaits W)) :: (128, specV FLim) :: []
theorem gok63 (W : World) : GOk W Tryz.prog (G63 W) := gok_cons (waits_ok W) (gok_cons (lim_ok W) (gok_nil W))
noncomputable def t63 (W : World) : HG := .seq .plain (.seq (.cust (runCalls Tryz.prog W (G63 W) 100000 50 r2ops63 [⟨2, FInt⟩] 0)) .plain)
noncomputable def x63 (W : World) (i1 i2 i3 : FI) (b1 b2 b3 : FB) (a1 a2 a3 : FA) : RG := runG Tryz.prog W (G63 W) 100000 50 (t63 W) (bodyOf Tryz.f63) (argSlots 0 [.agg (svL i1 b1 a1 0 (pS 46)), .agg (svL i2 b2 a2 0 (pS 67)), .agg (svL i3 b3 a3 0 (pS 93))]) noMem []
def boolsS : List SV → Bool
 | [] => true
 | .bool _ :: r => boolsS r
 | _ => false
def bools9 (P : Program) (rs : List ResultVar) : RG → Option Bool
 | .leaf e vc s m _ => match (match e with | .nrm => true | .ret => true | _ => false) with
  | true => match resultsS P (Sx.look s) m rs with
   | some ps => match resultV ps with
    | some (.agg l) => match Nat.beq l.length 9 && boolsS l with
     | true => some vc.val
     | false => none
    | _ => none
   | none => none
  | false => none
 | .br b x y => match bools9 P rs x, bools9 P rs y with
  | some p, some q => some (bif b then p else q)
  | _, _ => none
 | _ => none
def gaS (a : Option Addr) (n : Nat) : RG → RG
 | .any k => k a n
 | r => r
def Nine (v : TV) : Prop := ∃ l, v = .agg l ∧ l.length = 9 ∧ boolsS l = true
structure AllR (r : RG) (Φ : Ex → SB → SL → Mem → Gh → Prop) : Prop where
 h : r.All Φ
theorem bools9_all {P : Program} {rs : List ResultVar} : ∀ {r : RG} {c : Bool}, bools9 P rs r = some c → c = true → r.All fun e vc s m _ => vc.val = true ∧ (e = .nrm ∨ e = .ret) ∧ ∃ ps v, resultsS P (Sx.look s) m rs = some ps ∧ resultV ps = some v ∧ Nine v
 | .fail, c, h, _ => by cases h
 | .leaf e vc s m g, c, h, hc => by
  simp only [bools9] at h
  split at h <;> try contradiction
  rename_i he
  split at h <;> try contradiction
  rename_i ps hps
  split at h <;> try contradiction
  rename_i l hv
  split at h <;> try contradiction
  rename_i hl
  simp only [Option.some.injEq] at h
  rw [Bool.and_eq_true, Nat.beq_eq] at hl
  refine ⟨h.trans hc, ?_, ps, _, hps, hv, l, rfl, hl.1, hl.2⟩
  cases e with
  | nrm => exact .inl rfl
  | ret => exact .inr rfl
  | exit i => cases he
  | res v => cases he
 | .br b x y, c, h, hc => by
  simp only [bools9] at h
  split at h <;> try contradiction
  rename_i p q hp hq
  simp only [Option.some.injEq] at h
  subst h
  cases b
  · exact ⟨nofun, fun _ => bools9_all hq hc⟩
  · exact ⟨fun _ => bools9_all hp hc, nofun⟩
 | .any _, c, h, _ => by cases h
 | .pick _ _, c, h, _ => by cases h
def memc (x : Int) : Bool := bif decide (x ≥ 1) then decide (x ≤ 5) else false
def condF (p r x y m : Bool) : Bool := p && (bif x then (bif y then (bif m then r else true) else (bif m then r else true)) else true)
def picL (i : FI) (b : FB) (a : FA) : List SV := (svL i b a 0 (pS 67)).drop 37 |>.take 20
theorem x63_a (W : World) (i1 i2 i3 : FI) (b1 b2 b3 : FB) (a1 a2 a3 : FA) : x63 W i1 i2 i3 b1 b2 b3 a1 a2 a3 = .any fun a n => gaS a n (x63 W i1 i2 i3 b1 b2 b3 a1 a2 a3) := by kernel_rfl
theorem x63_b (W : World) (i1 i2 i3 : FI) (b1 b2 b3 : FB) (a1 a2 a3 : FA) (a : Option Addr) (n : Nat) : bools9 Tryz.prog Tryz.f63.results.toList (gaS a n (x63 W i1 i2 i3 b1 b2 b3 a1 a2 a3)) = some (condF (okPic (picL i2 b2 a2)) (okRegs W (a1 1).1 (a1 1).2.1 (a1 1).2.2) (b3 0) (b3 1) (memc (i2 30))) := by kernel_rfl
theorem condF_true {x y m : Bool} : condF true true x y m = true := by cases x <;> cases y <;> cases m <;> rfl
theorem boolsS_ok {S : SB'} {v0 : Value} {L : Int} {f : Nat → Nat} : ∀ {l : List SV}, boolsS l = true → ptL S v0 L (List.replicate l.length .bool) (l.map (SV.den f))
 | [], _ => trivial
 | .bool b :: r, h => ⟨⟨_, rfl⟩, boolsS_ok (l := r) h⟩
 | .int _ _ :: _, h => by cases h
 | .ptr _ _ :: _, h => by cases h
 | .clo _ _ :: _, h => by cases h
 | .str _ :: _, h => by cases h
 | .sl _ _ _ :: _, h => by cases h
 | .row _ _ _ _ :: _, h => by cases h
 | .pa _ :: _, h => by cases h
 | .nilP :: _, h => by cases h
 | .nilF :: _, h => by cases h
 | .nilI :: _, h => by cases h
 | .nilM :: _, h => by cases h
noncomputable def call63 : Oper := match r2ops63.toList[2]? with
 | some o => o
 | none => { dst := none, op := .move (.const (.bool true)), type := 0, pos := "", after := #[], guard := none }
theorem int_call (h91 : ∀ p : Par, PW p → SpOk Tryz.prog p 91 s91) {W : Bs} : CallOk W Tryz.prog 50 call63 FInt := by
 intro s m g f a w Q hgood hst
 unfold FInt at hgood ⊢
 split at hgood <;> try exact hgood.elim
 rename_i l hl
 have hok := hgood none 0
 simp only [RG.Good, SB.val_sym] at hok
 have hok : ∀ f, ptL (fun _ => none) nilv 0 (pS 62) (l.map (SV.den f)) := @of_decide_eq_true _ (Classical.propDecidable _) hok
 have hcalls := sp_alone h91 rfl (Nat.zero_le _) (w := w) (vs := [.agg (dens f l)]) ⟨⟨_, rfl, by simpa [dens] using hok f⟩, trivial⟩
 refine call_wp (o := call63) (x := .func 91) (ys := [.tmp 9]) (by kernel_rfl) hst.slots rfl (l := [.agg l]) ?_ ⟨Tryz.f91, Tryz.func91, by kernel_rfl, by kernel_rfl⟩ hcalls ?_
 · simp only [evalList, evalO, hl]
 · rintro en w' ⟨u, S', rfl, ⟨b, rfl⟩, hb⟩
   refine ⟨_, rfl, none, (if b then 1 else 0), rfl, f, ?_⟩
   have hd : call63.dst = some 10 := by kernel_rfl
   rw [hd]
   refine hst.call hb (by decide) ?_
   cases b <;> rfl
theorem gaS_all {r : RG} {Φ : Ex → SB → SL → Mem → Gh → Prop} (h : r = .any fun a n => gaS a n r) (hh : ∀ a n, AllR (gaS a n r) Φ) : AllR r Φ := by
 have h1 : (RG.any fun a n => gaS a n r).All Φ := fun a n => (hh a n).h
 rw [← h] at h1
 exact ⟨h1⟩
theorem bools9_allR {P : Program} {rs : List ResultVar} {r : RG} {c : Bool} (h : bools9 P rs r = some c) (hc : c = true) : AllR r fun e vc s m _ => vc.val = true ∧ (e = .nrm ∨ e = .ret) ∧ ∃ ps v, resultsS P (Sx.look s) m rs = some ps ∧ resultV ps = some v ∧ Nine v := ⟨bools9_all h hc⟩
theorem calls_of_runR {P : Program} {G : List (Nat × Sx.Spec)} {W : World} (hG : GOk W P G) {n : Nat} {g : FuncId} {fn : Func} {c : Code} (hfn : P.funcs[g]? = some fn) (hc : fn.body = some c) {t : HG} (ht : HGOk (Bs.of W) P fn.ntmps t c) {args : List TV} (hle : args.length ≤ fn.ntmps) {r : RG} (hr : runG P W G n fn.ntmps t c (argSlots 0 args) noMem [] = r) {R : TV → Prop}
  (hres : AllR r fun e vc s m _ => vc.val = true ∧ (e = .nrm ∨ e = .ret) ∧ ∃ ps v, resultsS P (Sx.look s) m fn.results.toList = some ps ∧ resultV ps = some v ∧ R v) :
  Calls P g (args.map (TV.den fun _ => 0)).toArray W fun en w' => ∃ v f, R v ∧ en = .returned (v.den f) ∧ Below W.heap.size W w' := by
 subst hr
 refine (calls_of_runS hG hfn hc ht hle (R := fun v _ _ => R v) hres.h).mono ?_
 rintro en w' ⟨v, m, g, f, hn, rfl, _, hb, _⟩
 exact ⟨v, f, hn, rfl, hb⟩
theorem reg63 : ∃ e : Code × Code, bodyOf Tryz.f63 = .seq e.1 (.seq (.region 1 r2ops63 false) e.2) := ⟨(match bodyOf Tryz.f63 with | .seq a _ => a | c => c, match bodyOf Tryz.f63 with | .seq _ (.seq _ b) => b | c => c), by kernel_rfl⟩
theorem hg63 (h91 : ∀ p : Par, PW p → SpOk Tryz.prog p 91 s91) (W : World) : HGOk (Bs.of W) Tryz.prog 50 (t63 W) (bodyOf Tryz.f63) := by
 obtain ⟨e, he⟩ := reg63
 rw [he]
 refine ⟨trivial, ?_, trivial⟩
 exact calls_cust (W := Bs.of W) (gok63 W) (fun c hc => by
  rw [List.mem_singleton] at hc
  subst hc
  exact callG_of (o := call63) (by kernel_rfl) (by kernel_rfl) (int_call h91)) (by simp)
theorem x63_all {W : World} {i1 i2 i3 : FI} {b1 b2 b3 : FB} {a1 a2 a3 : FA} (hr : RegRow W (a1 1).1 (a1 1).2.1 (a1 1).2.2) (hp : ∀ f, ptL (fun _ => none) nilv 0 (pS 62) ((picL i2 b2 a2).map (SV.den f))) :
  AllR (x63 W i1 i2 i3 b1 b2 b3 a1 a2 a3) fun e vc s m _ => vc.val = true ∧ (e = .nrm ∨ e = .ret) ∧ ∃ ps v, resultsS Tryz.prog (Sx.look s) m Tryz.f63.results.toList = some ps ∧ resultV ps = some v ∧ Nine v := by
 have e1 : okPic (picL i2 b2 a2) = true := @decide_eq_true _ (Classical.propDecidable _) hp
 have e2 : okRegs W (a1 1).1 (a1 1).2.1 (a1 1).2.2 = true := @decide_eq_true _ (Classical.propDecidable _) hr
 refine gaS_all (x63_a W i1 i2 i3 b1 b2 b3 a1 a2 a3) fun a n => bools9_allR (x63_b W i1 i2 i3 b1 b2 b3 a1 a2 a3 a n) ?_
 rw [e1, e2]
 exact condF_true
def args63 (i1 i2 i3 : FI) (b1 b2 b3 : FB) (a1 a2 a3 : FA) : List TV := [.agg (svL i1 b1 a1 0 (pS 46)), .agg (svL i2 b2 a2 0 (pS 67)), .agg (svL i3 b3 a3 0 (pS 93))]
theorem run63 (W : World) (i1 i2 i3 : FI) (b1 b2 b3 : FB) (a1 a2 a3 : FA) : runG Tryz.prog W (G63 W) 100000 Tryz.f63.ntmps (t63 W) (bodyOf Tryz.f63) (argSlots 0 (args63 i1 i2 i3 b1 b2 b3 a1 a2 a3)) noMem [] = x63 W i1 i2 i3 b1 b2 b3 a1 a2 a3 := by kernel_rfl
theorem levels_calls (h91 : ∀ p : Par, PW p → SpOk Tryz.prog p 91 s91) {W : World} {i1 i2 i3 : FI} {b1 b2 b3 : FB} {a1 a2 a3 : FA} (hr : RegRow W (a1 1).1 (a1 1).2.1 (a1 1).2.2) (hp : ∀ f, ptL (fun _ => none) nilv 0 (pS 62) ((picL i2 b2 a2).map (SV.den f))) :
  Calls Tryz.prog 63 ((args63 i1 i2 i3 b1 b2 b3 a1 a2 a3).map (TV.den fun _ => 0)).toArray W fun en w' => ∃ v f, Nine v ∧ en = .returned (v.den f) ∧ Below W.heap.size W w' :=
 calls_of_runR (gok63 W) Tryz.func63 (show Tryz.f63.body = some (bodyOf Tryz.f63) by kernel_rfl) (by rw [show Tryz.f63.ntmps = 50 by kernel_rfl]; exact hg63 h91 W) (by rw [show Tryz.f63.ntmps = 50 by kernel_rfl]; simp [args63]) (run63 W i1 i2 i3 b1 b2 b3 a1 a2 a3) (x63_all hr hp)
theorem sp63 (h91 : ∀ p : Par, PW p → SpOk Tryz.prog p 91 s91) {p : Par} (hT : p.T = T28) : SpOk Tryz.prog p 63 s63 := by
 refine ⟨⟨Tryz.f63, Tryz.func63, by kernel_rfl, by kernel_rfl⟩, ?_⟩
 intro S w M vs _ hW hv _
 match vs, hv with
 | [v, u, z], ⟨⟨arr, hv, hl⟩, ⟨arr2, hu, hl2⟩, ⟨arr3, hz, hl3⟩, _⟩ =>
  subst hu hv hz
  obtain ⟨i1, b1, a1, e1, f1⟩ := ptL_sv 0 hl (by kernel_rfl)
  obtain ⟨i2, b2, a2, e2, f2⟩ := ptL_sv 0 hl2 (by kernel_rfl)
  obtain ⟨i3, b3, a3, e3, f3⟩ := ptL_sv 0 hl3 (by kernel_rfl)
  obtain ⟨n, hs⟩ := f1 1 132 0 none (by kernel_rfl)
  obtain ⟨aa, len, c, hsl, _, hr⟩ := regRow hT hW hs
  simp only [Nat.zero_add, Value.slice.injEq] at hsl
  obtain ⟨rfl, rfl, rfl⟩ := hsl
  have hp : ∀ f, ptL (fun _ => none) nilv 0 (pS 62) ((picL i2 b2 a2).map (SV.den f)) := by
   intro f
   have hsp : pS 67 = (pS 67).take 37 ++ (pS 62 ++ (pS 67).drop 57) := by kernel_rfl
   rw [hsp] at hl2
   have h1 := (ptL_app hl2).2
   have h2 := (ptL_app h1).1
   have h3 := ptL_any (S' := fun _ => none) (v0' := nilv) (L' := 0) (by kernel_rfl) h2
   rw [← e2 f, ← List.map_drop, ← List.map_take, show ((pS 67).take 37).length = 37 by kernel_rfl, show (pS 62).length = 20 by kernel_rfl] at h3
   exact h3
  have hc := levels_calls h91 (i1 := i1) (i2 := i2) (i3 := i3) (b1 := b1) (b2 := b2) (b3 := b3) (a1 := a1) (a2 := a2) (a3 := a3) hr hp
  have e : (args63 i1 i2 i3 b1 b2 b3 a1 a2 a3).map (TV.den fun _ => 0) = [.agg arr, .agg arr2, .agg arr3] := by
   simp only [args63, List.map_cons, List.map_nil, TV.den, dens, e1, e2, e3]
  rw [e] at hc
  refine hc.mono ?_
  rintro en w' ⟨v, f, ⟨l, rfl, hlen, hbs⟩, rfl, hb⟩
  refine ⟨_, S, rfl, spOut_below hW hb rfl ⟨_, rfl, ?_⟩⟩
  have := boolsS_ok (S := S) (v0 := p.v0) (L := (M : Int) + s63.k) (f := f) hbs
  rw [hlen] at this
  have e9 : pS 95 = List.replicate 9 .bool := by kernel_rfl
  rw [e9]
  simpa [dens] using this
end Go.Proofs.YtjmnolhkkpaodaaGreatDoor
namespace Go.Ty
open Go Go.Sx
def allCv (J : St) : List St → List Tau → Bool
 | [], _ => true
 | s :: r, τ :: τs => match cvR τ s J with
  | true => allCv J r τs
  | false => false
 | _ :: _, [] => false
theorem allCv_mem {J : St} : ∀ {l : List St} {τs : List Tau}, allCv J l τs = true → ∀ s ∈ l, ∃ τ, cvR τ s J = true
 | [], _, _, s, hs => by simp at hs
 | s' :: r, τ :: τs, h, s, hs => by
  simp only [allCv] at h
  split at h <;> try contradiction
  rename_i hc
  rcases List.mem_cons.1 hs with rfl | hs
  · exact ⟨τ, hc⟩
  · exact allCv_mem h s hs
 | _ :: _, [], h, s, hs => by simp [allCv] at h
def chkInv (P : Program) (T : Bool → TypeId → Option (List CT)) (G : Nat → Option Con) (D : Env → Drw) (sq sqh : Rs → Rs) (cl : St → St) (n : Nat) (g : FuncId) (sp : Sp) (J : St) (m : Nat) (up : Bool) (τ0 τs : List Tau) : Bool :=
 match P.funcs[g]? with
 | none => false
 | some fn => match fn.body with
  | none => false
  | some c => match init sp with
   | none => false
   | some st => match loopsOf c with
    | [B] => chkHd sp fn st && (Nat.ble st.nid J.nid && (Sx.look J.ids m).isSome) &&
     (match runT (envOf P T sp fn.ntmps) G (D (envOf P T sp fn.ntmps)) sq cl n B J with
     | none => false
     | some rsB => allOk J m up (nrmS (sqh rsB)) τs &&
      (match runH (envOf P T sp fn.ntmps) G (D (envOf P T sp fn.ntmps)) sq cl n (othS (sqh rsB)) c st with
      | none => false
      | some (rs, ps) => allCv J ps τ0 && finAll P sp.mx sp fn.results.toList rs))
    | _ => false
theorem spOk_inv {P : Program} {p : Par} {T : Bool → TypeId → Option (List CT)} {G : Nat → Option Con} {D : Env → Drw} {sq sqh : Rs → Rs} {cl : St → St} {sp : Sp} {J : St} {m : Nat} {up : Bool} {τ0 τs : List Tau} {n : Nat} {g : FuncId} (hT : T = p.T) (hv0 : p.v0.oneCell' = true ∧ p.v0.cells = #[p.v0]) (hTp : ∀ r t ts, p.T r t = some ts → 0 < ts.length)
  (hG0 : ∀ q : Par, q.T = p.T → q.v0 = p.v0 → q.W = p.W → ∀ g con, G g = some con → ConOk P sp.mx q g con)
  (hD : ∀ q : Par, q.T = p.T → q.v0 = p.v0 → q.W = p.W → ∀ nt, q.M ≤ sp.mx → DrwOk (envOf P T sp nt) q (D (envOf P T sp nt))) (hsq : SqOk sq) (hsqh : SqOk sqh) (hcl : ClOk cl)
  (h : chkInv P T G D sq sqh cl n g sp J m up τ0 τs = true) : SpOk P p g sp := by
 unfold chkInv at h
 split at h <;> try contradiction
 rename_i fn hfn
 split at h <;> try contradiction
 rename_i c hc
 split at h <;> try contradiction
 rename_i st hst
 split at h <;> try contradiction
 rename_i B hB
 simp only [Bool.and_eq_true, Nat.ble_eq] at h
 obtain ⟨⟨hhd, hnid, hm⟩, h⟩ := h
 split at h <;> try contradiction
 rename_i rsB hrsB
 rw [Bool.and_eq_true] at h
 obtain ⟨hall, h⟩ := h
 split at h <;> try contradiction
 rename_i rs ps hrun
 rw [Bool.and_eq_true] at h
 obtain ⟨hcv, hfin⟩ := h
 refine spOk_sem hT hv0 hTp hfn hc hst hhd ?_ hfin
 intro M pin hM S0 w0 a w hE hg
 have hE' : ∀ l, EnvOk (envOf P T sp fn.ntmps) G ((p.at M pin).nm l) := fun l => ⟨hE.T, hE.M, hE.v0, hE.Tp, hG0 ((p.at M pin).nm l) rfl rfl rfl⟩
 have hD' : ∀ l, DrwOk (envOf P T sp fn.ntmps) ((p.at M pin).nm l) (D (envOf P T sp fn.ntmps)) := fun l => hD ((p.at M pin).nm l) rfl rfl rfl _ hM
 have hpin : ∀ x ∈ (p.at M pin).pin, x.1 < J.nid := by
  obtain ⟨κ, hrel, _⟩ := hg
  intro x hx
  have := (hrel.pin.1 x hx).1
  omega
 obtain ⟨bd, hbd⟩ := Option.isSome_iff_exists.1 hm
 obtain ⟨N, hN⟩ := loop_inv (E := envOf P T sp fn.ntmps) (p := p.at M pin) (J := J) (body := B) (rsB := sqh rsB) (rl := othS (sqh rsB)) (m := m) (up := up) rfl hpin
  (fun l S0 w0 a w hg => wp_mono ((runT_sound (S0 := S0) (w0 := w0) (hE' l) (hD' l) hsq hcl n).1 B J rsB a w hrsB hg) fun e a w hp => postSq hsqh hp) hbd hall (fun x hx => hx)
 have := runH_sound (S0 := S0) (w0 := w0) (hE' []) (hD' []) hsq hcl c st (rs, ps) a w hrun (fun b hb s hs => by
  rw [hB, List.mem_singleton] at hb
  subst hb
  obtain ⟨τ, hτ⟩ := allCv_mem hcv s hs
  exact ⟨N, hN.cover hpin rfl hτ⟩) hg
 exact this
end Go.Ty
namespace Go.Proofs.YtjmnolhkkpaodaaGreatDoor
open Go Go.Sx Go.Ty
def j31 (a : Nat) (h : Int) (K : Nat) : St := ⟨[(12, .one (.int .i64 4 0)), (11, .one (.int .i64 1 0)), (10, .one (.slc 97 1 0)), (3, .one (.slc 97 3 1))], [(1, ⟨0, a, h⟩), (3, ⟨-1, a, h - 1⟩), (4, ⟨0, a, h⟩)], [(3, 4)], [], [], [], 5, 1, K⟩
def t31 : List Tau := [[(1, 1, 0), (3, 0, -1), (4, 0, 0)]]
noncomputable def chkI (L : List (Nat × Sp)) (g : Nat) (sp : Sp) (J : St) (m : Nat) (up : Bool) (τ0 τs : List Tau) : Bool := chkInv Tryz.prog T28 (conL sp.mx L) (drw (conL sp.mx L)) (sqL 0) (sqL 0) cl2 4000 g sp J m up τ0 τs
end Go.Proofs.YtjmnolhkkpaodaaGreatDoor
