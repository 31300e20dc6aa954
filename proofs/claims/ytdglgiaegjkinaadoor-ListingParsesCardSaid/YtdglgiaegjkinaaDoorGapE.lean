/- Calls that hand back a new slice, among the operations of a region. No program of the seat is named here. -/
import Derived.Test.YtdglgiaegjkinaaDoorGapC
namespace Go.Sx
open Go Go.RowKit
section
variable {W : Bs} {P : Program} {G : List (Nat × Spec)}

/-- Behind a call that turned nothing of what was there: the result in its slot, a new own slice. -/
theorem GSt.call {nt : Nat} {s : SL} {m : Mem} {g : Gh} {f : Nat → Nat} {a : Act} {w w' : World} (h : GSt W nt s m g f a w) (hb : Below w.heap.size w w') {d : Nat} (hd : d < nt) {v : TV} {u : Value} (hv : u = v.den f) :
    GSt W nt (putS (some d) v s) m g f (a.put (some d) u) w' := by
  have hblk : ∀ b j, look m.blks b = some j → w'.heap[f b]? = w.heap[f b]? := by
    intro b j hj
    obtain ⟨arr, harr, _⟩ := h.mem.blk b j hj
    exact hb.block _ (lt_of_blk harr)
  refine ⟨by simp [Act.put, h.size], by simp [Act.put, h.defers], h.slots.put h.size (by simp [dstOk, Nat.blt]; omega) (.inr hv), ?_, h.base, ?_, h.pin, ?_, h.gh.off, h.gh.two⟩
  · refine ⟨?_, ?_, h.mem.known, h.mem.inj, fun b j hj _ => .inr ⟨b, j, hj, rfl⟩, h.mem.lt⟩
    · intro b j hj
      rw [hblk b j hj]
      exact h.mem.blk b j hj
    · intro b o v hv
      obtain ⟨j, hj⟩ := h.mem.known b o v hv
      rw [← h.mem.cell b o v hv]
      exact World.cell?_of_block (hblk b j hj)
  · exact ⟨hb.os.trans h.fr.os, hb.tape.trans h.fr.tape, hb.output.trans h.fr.output, Nat.le_trans h.fr.size hb.size, fun k hk hx => (hb.block k (by have := h.fr.size; omega)).trans (h.fr.same k hk hx), W.base⟩
  · intro q o ho
    exact World.ownsRow.same (h.gh.own q o ho) (fun k hk => hb.block k (World.ownsRow.lt (h.gh.own q o ho) k hk).2)
theorem World.ownsRow.base_le {w : World} {B B' : Nat} (hB : B ≤ B') {e : TypeId} {size : Nat} {v : Value} {n : Nat} {xs : List Value} (h : w.ownsRow B' e size v n xs) : w.ownsRow B e size v n xs := by
  obtain ⟨h1, h2 | ⟨b, cap, cur, h3, h4, h5⟩⟩ := h
  · exact ⟨h1, .inl h2⟩
  · exact ⟨h1, .inr ⟨b, cap, cur, h3, by omega, h5⟩⟩
theorem GSt.callOwn {nt : Nat} {s : SL} {m : Mem} {g : Gh} {f : Nat → Nat} {a : Act} {w w' : World} (h : GSt W nt s m g f a w) (hb : Below w.heap.size w w') {d : Nat} (hd : d < nt) {o : Own} (hown : w'.ownsRow w.heap.size o.e o.size o.v o.n o.vals) :
    GSt W nt (putS (some d) (.one (.sl o.a o.n o.c)) s) m (g ++ [o]) f (a.put (some d) o.v) w' := by
  have h1 := h.call hb hd (v := .one (.sl o.a o.n o.c)) (u := o.v) rfl
  have hget : ∀ (q : Nat) (p : Own), (g ++ [o])[q]? = some p → (q < g.length ∧ g[q]? = some p) ∨ (q = g.length ∧ p = o) := by
    intro q p hp
    by_cases hq : q < g.length
    · rw [List.getElem?_append_left hq] at hp; exact .inl ⟨hq, hp⟩
    · rw [List.getElem?_append_right (by omega)] at hp
      right
      rcases hk : q - g.length with _ | k
      · rw [hk] at hp
        simp only [List.getElem?_cons_zero, Option.some.injEq] at hp
        exact ⟨by omega, hp.symm⟩
      · rw [hk] at hp; simp at hp
  have hnew : ∀ k, o.v.ownBlock = some k → w.heap.size ≤ k := fun k hk => (World.ownsRow.lt hown k hk).1
  have hold : ∀ (q : Nat) (p : Own), g[q]? = some p → ∀ k, p.v.ownBlock = some k → k < w.heap.size := fun q p hp k hk => (World.ownsRow.lt (h.gh.own q p hp) k hk).2
  refine ⟨h1.size, h1.defers, h1.slots, h1.mem, h1.base, h1.fr, h1.pin, ?_, ?_, ?_⟩
  · intro q p hp
    rcases hget q p hp with ⟨_, h2⟩ | ⟨_, rfl⟩
    · exact h1.gh.own q p h2
    · exact World.ownsRow.base_le h.fr.size hown
  · intro q p hp k hk b j hj hf
    rcases hget q p hp with ⟨_, h2⟩ | ⟨_, rfl⟩
    · exact h1.gh.off q p h2 k hk b j hj hf
    · obtain ⟨arr, harr, _⟩ := h.mem.blk b j hj
      have h3 := lt_of_blk harr
      have := hnew k hk
      omega
  · intro q q' p p' hp hp' hne k hk hk'
    rcases hget q p hp with ⟨h2, h3⟩ | ⟨h2, rfl⟩ <;> rcases hget q' p' hp' with ⟨h4, h5⟩ | ⟨h4, rfl⟩
    · exact h1.gh.two q q' p p' h3 h5 hne k hk hk'
    · have := hold q p h3 k hk
      have := hnew k hk'
      omega
    · have := hold q' p' h5 k hk'
      have := hnew k hk
      omega
    · omega

/-- A call at a place of a region, by contract. -/
structure CS where
  k : Nat
  F : SL → Mem → Gh → RG
def runCalls (P : Program) (W : World) (G : List (Nat × Spec)) (N nt : Nat) (ops : Array Oper) : List CS → Nat → SL → Mem → Gh → RG
  | [], i, s, m, g => (run P W G N (.ops ops (ops.toList.drop i)) ⟨nt, [], noMem⟩ s m).toG g
  | c :: r, i, s, m, g => ((run P W G N (.ops ops ((ops.toList.drop i).take (c.k - i))) ⟨nt, [], noMem⟩ s m).toG g).bind fun s m g =>
      (c.F s m g).bind fun s m g => runCalls P W G N nt ops r (c.k + 1) s m g
def CallOk (W : Bs) (P : Program) (nt : Nat) (o : Oper) (F : SL → Mem → Gh → RG) : Prop :=
  ∀ (s : SL) (m : Mem) (g : Gh) (f : Nat → Nat) (a : Act) (w : World) (Q : Exit → Act → World → Prop), (F s m g).Good → GSt W nt s m g f a w → o.wp P a w (fun a' w' => GPost W nt (F s m g) .normal a' w') Q
def CallGOk (W : Bs) (P : Program) (nt : Nat) (ops : Array Oper) (c : CS) : Prop :=
  ∃ o, ops.toList[c.k]? = some o ∧ (o.guard = none ∨ ∀ s m g, (c.F s m g).Good → guardS ops (look s) o = .yes) ∧ CallOk W P nt o c.F
/-- .. where the guard is known to hold. -/
def onYes (ops : Array Oper) (o : Oper) (F : SL → Mem → Gh → RG) (s : SL) (m : Mem) (g : Gh) : RG := match guardS ops (look s) o with
  | .yes => F s m g
  | _ => .fail
theorem callG_yes {W : Bs} {P : Program} {nt : Nat} {ops : Array Oper} {k : Nat} {o : Oper} {F : SL → Mem → Gh → RG} (ho : ops.toList[k]? = some o) (h : CallOk W P nt o F) : CallGOk W P nt ops ⟨k, onYes ops o F⟩ := by
  refine ⟨o, ho, .inr fun s m g hg => ?_, fun s m g f a w Q hg hst => ?_⟩
  · unfold onYes at hg
    dsimp only at hg
    split at hg
    · assumption
    · exact hg.elim
  · unfold onYes at hg ⊢
    dsimp only at hg ⊢
    split at hg
    · exact h s m g f a w Q hg hst
    · exact hg.elim
theorem callG_of {W : Bs} {P : Program} {nt : Nat} {ops : Array Oper} {k : Nat} {o : Oper} {F : SL → Mem → Gh → RG} (ho : ops.toList[k]? = some o) (hg : o.guard = none) (h : CallOk W P nt o F) : CallGOk W P nt ops ⟨k, F⟩ := ⟨o, ho, .inl hg, h⟩
theorem runCalls_sound (hG : GOk W.W P G) {N nt : Nat} {ops : Array Oper} : ∀ (l : List CS) (i : Nat) (s : SL) (m : Mem) (g : Gh) (f : Nat → Nat) (a : Act) (w : World), (∀ c ∈ l, CallGOk W P nt ops c) → (∀ c ∈ l, i ≤ c.k) → l.Pairwise (fun c d => c.k < d.k) →
    (runCalls P W.W G N nt ops l i s m g).Good → GSt W nt s m g f a w → wpList P ops (GPost W nt (runCalls P W.W G N nt ops l i s m g)) (ops.toList.drop i) a w
  | [], i, s, m, g, f, a, w, _, _, _, hg, h => by
    simp only [runCalls] at hg ⊢
    exact wpList_up (fun e a' w' hp => toG_post h hg hp) _ _ _ ((sound hG (fun n hS => draw_sound hG n hS) N).ops w _ ops (ops.toList.drop i) ⟨nt, [], noMem⟩ s m f a w (toG_good hg).1 (by rw [List.append_nil, on_noMem]; exact h.rel))
  | c :: r, i, s, m, g, f, a, w, hok, hi, hp, hg, h => by
    simp only [runCalls] at hg ⊢
    have hg1 := RG.good_of_bind hg
    obtain ⟨o, ho, hgd, hwp⟩ := hok c (by simp)
    have hci := hi c (by simp)
    have hsplit : ops.toList.drop i = (ops.toList.drop i).take (c.k - i) ++ o :: ops.toList.drop (c.k + 1) := by
      obtain ⟨hlt, hget⟩ := List.getElem?_eq_some_iff.1 ho
      have h1 : (ops.toList.drop i).drop (c.k - i) = o :: ops.toList.drop (c.k + 1) := by
        rw [List.drop_drop, show i + (c.k - i) = c.k by omega, List.drop_eq_getElem_cons hlt, hget]
      rw [← h1, List.take_append_drop]
    suffices key : wpList P ops (GPost W nt (((run P W.W G N (.ops ops ((ops.toList.drop i).take (c.k - i))) ⟨nt, [], noMem⟩ s m).toG g).bind fun s m g =>
        (c.F s m g).bind fun s m g => runCalls P W.W G N nt ops r (c.k + 1) s m g)) ((ops.toList.drop i).take (c.k - i) ++ o :: ops.toList.drop (c.k + 1)) a w by
      rw [← hsplit] at key
      exact key
    refine wpList_cat (Q' := fun e a w => GPost W nt ((run P W.W G N (.ops ops ((ops.toList.drop i).take (c.k - i))) ⟨nt, [], noMem⟩ s m).toG g) e a w) ?_ ?_ _ _ _
      (wpList_up (fun e a' w' hp => toG_post h hg1 hp) _ _ _ ((sound hG (fun n hS => draw_sound hG n hS) N).ops w _ ops ((ops.toList.drop i).take (c.k - i)) ⟨nt, [], noMem⟩ s m f a w (toG_good hg1).1 (by rw [List.append_nil, on_noMem]; exact h.rel)))
    · intro a1 w1 hp1
      obtain ⟨s1, m1, g1, f1, h1, hgood, hlift⟩ := bind_leaf hg hp1
      have hw : Region.wanted o (yielded ops a1.tmps) = true := by
        rcases hgd with hgd | hgd
        · simp only [Region.wanted, hgd]
        · exact guard_yes h1.slots (hgd s1 m1 g1 (RG.good_of_bind hgood))
      suffices hsu : ∀ K : Act → World → Prop, (∀ a w, wpList P ops (GPost W nt (((run P W.W G N (.ops ops ((ops.toList.drop i).take (c.k - i))) ⟨nt, [], noMem⟩ s m).toG g).bind fun s m g =>
          (c.F s m g).bind fun s m g => runCalls P W.W G N nt ops r (c.k + 1) s m g)) (ops.toList.drop (c.k + 1)) a w → K a w) → o.wp P a1 w1 K _ by
        simp only [wpList, hw, if_true]
        exact .inl (hsu _ fun _ _ h => h)
      intro K hK
      refine Oper.wp_mono ?_ (hwp s1 m1 g1 f1 a1 w1 _ (RG.good_of_bind hgood) h1)
      intro a2 w2 hp2
      obtain ⟨s2, m2, g2, f2, h2, hgood2, hlift2⟩ := bind_leaf hgood hp2
      refine hK a2 w2 (wpList_up (fun e a' w' hp => hlift _ _ _ (hlift2 _ _ _ hp)) _ _ _ (runCalls_sound hG r (c.k + 1) s2 m2 g2 f2 a2 w2 (fun d hd => hok d (by simp [hd])) ?_ (List.pairwise_cons.1 hp).2 hgood2 h2))
      intro d hd
      exact (List.pairwise_cons.1 hp).1 d hd
    · intro e a1 w1 hne hp1
      exact bind_other hne hp1

/-- The call itself: a function by name, its arguments out of slots. -/
theorem call_wp {o : Oper} {x : Operand} {ys : List Operand} (hc : callOf o = some (x, ys)) {f : Nat → Nat} {s : SL} {a : Act} {w : World} (hS : SRel f (look s) a) {g : FuncId} (hx : x = .func g) {l : List TV} (hl : evalList (look s) ys = some l)
    (hfn : ∃ fn, P.funcs[g]? = some fn ∧ (fn.name == "runtime.NumGoroutine") = false ∧ fn.body.isNone = false) {R : Ending → World → Prop} (hcalls : Calls P g (l.map (TV.den f)).toArray w R) {K : Act → World → Prop} {Q : Exit → Act → World → Prop}
    (hK : ∀ en w', R en w' → ∃ v, en = .returned v ∧ K (a.put o.dst v) w') : o.wp P a w K Q := by
  have hl1 := (evalList_sound hS hl).1
  have hx1 : a.eval x = .func (.func g) #[] (([] : List (Nat × Nat)).map (caddr f)).toArray := by rw [hx]; rfl
  have hrun := call_run (P := P) (f := f) (w := w) hc hx1 hl1 hfn
  unfold Oper.wp
  rw [hrun, Oper.upon_enter]
  simp only [List.map_nil, List.append_nil]
  refine hcalls.mono fun en w' hr => ?_
  obtain ⟨v, rfl, h⟩ := hK en w' hr
  exact h
/-- A region with such calls, as a piece. -/
theorem calls_cust (hG : GOk W.W P G) {N nt id : Nat} {ops : Array Oper} {l : List CS} (hok : ∀ c ∈ l, CallGOk W P nt ops c) (hp : l.Pairwise (fun c d => c.k < d.k)) :
    CustOk W P nt (.region id ops false) (runCalls P W.W G N nt ops l 0) := by
  intro s m g f a w hg h
  have := runCalls_sound hG l 0 s m g f a w hok (fun _ _ => Nat.zero_le _) hp hg h
  rw [List.drop_zero] at this
  exact wp_region_list this
/-- As words, so that nothing unfolds them. -/
structure PGood (r : RG) : Prop where
  h : r.Good
structure PPost (W : Bs) (nt : Nat) (r : RG) (e : Exit) (a : Act) (w : World) : Prop where
  h : GPost W nt r e a w
theorem runCalls_P {W : Bs} {P : Program} {G : List (Nat × Spec)} (hG : GOk W.W P G) {N nt : Nat} {ops : Array Oper} (l : List CS) (i : Nat) {s : SL} {m : Mem} {g : Gh} {f : Nat → Nat} {a : Act} {w : World} (hok : ∀ c ∈ l, CallGOk W P nt ops c) (hi : ∀ c ∈ l, i ≤ c.k) (hp : l.Pairwise (fun c d => c.k < d.k))
    (hg : PGood (runCalls P W.W G N nt ops l i s m g)) (h : GSt W nt s m g f a w) : wpList P ops (PPost W nt (runCalls P W.W G N nt ops l i s m g)) (ops.toList.drop i) a w :=
  wpList_up (fun _ _ _ hp => ⟨hp⟩) _ _ _ (runCalls_sound hG l i s m g f a w hok hi hp hg.h h)
/-- A piece of which the slimmed tree is one leaf. -/
theorem slim_leaf {W : Bs} {nt : Nat} (r : RG) {N : Nat} {ks bs ke be : List (Nat × Bool)} {e : Ex} {vc : SB} {s : SL} {m : Mem} {g : Gh} (h : r.slim N ks bs ke be = .leaf e vc s m g) (hv : vc.val = true) (hpn : ∀ i, W.pin = some i → 0 < N)
    (hbs : allB (fun p => Nat.blt p.1 N) bs = true) (hbe : allB (fun p => Nat.blt p.1 N) be = true) : PGood r ∧ ∀ ex a w, PPost W nt r ex a w → exOf e = some ex ∧ ∃ f, GSt W nt s m g f a w := by
  have hg : (r.slim N ks bs ke be).Good := by rw [h]; exact hv
  refine ⟨⟨slim_good hg⟩, fun ex a w hp => ?_⟩
  have := slim_post (W := W) hpn hbs hbe hg hp.h
  rw [h] at this
  exact this
/-- A region that draws its order, told out of another world that is as old: what that world knows is as it is here. -/
theorem draw_other {W : Bs} {P : Program} {G' : List (Nat × Spec)} {W' : World} (hG : GOk W' P G') {N nt id K : Nat} {ops : Array Oper} (hcut : cutOk ops K = true) (hfol : P.follows .mixedOrders = true)
    {s : SL} {m : Mem} {g : Gh} {f : Nat → Nat} {a : Act} {w : World} (h : GSt W nt s m g f a w) (hold : Old W' w) (hfree : ∀ b j, look m.blks b = some j → Free W' (f b)) {Q : Exit → Act → World → Prop}
    (hg : PGood ((((run P W' G' N (.dops ops (ops.toList.take K) 0 [] []) ⟨nt, s, m⟩ [] m.fresh).collapse s m).over s m).toG g))
    (hQ : ∀ a1 w1, PPost W nt ((((run P W' G' N (.dops ops (ops.toList.take K) 0 [] []) ⟨nt, s, m⟩ [] m.fresh).collapse s m).over s m).toG g) .normal a1 w1 → wpList P ops Q (ops.toList.drop K) a1 w1) : (Code.region id ops true).wp P Q a w := by
  have hb := h.mem.known
  have hgr : (run P W' G' N (.dops ops (ops.toList.take K) 0 [] []) ⟨nt, s, m⟩ [] m.fresh).good := good_of_over hb (toG_good hg.h).1
  have hr := h.rel
  have hrel : Rel W' w (fun i => ∃ b j, look m.blks b = some j ∧ f b = i) nt s m f a w :=
    ⟨hr.size, hr.defers, hr.slots, hr.mem, hr.fr.os, hr.fr.tape, hr.fr.output, hr.fr.size, hr.fr.same, hold, fun i ⟨b, j, hj, hi⟩ => hi ▸ hfree b j hj⟩
  refine draw_cut hG hcut hfol hgr hrel fun a1 w1 hp0 => hQ a1 w1 ⟨?_⟩
  have hp1 : Post W.W w (fun i => ∃ b j, look m.blks b = some j ∧ f b = i) nt s m f m.next (run P W' G' N (.dops ops (ops.toList.take K) 0 [] []) ⟨nt, s, m⟩ [] m.fresh) .normal a1 w1 := by
    obtain ⟨ex, v, s1, m1, f1, h1, h2, h3, h4, h5⟩ := hp0
    exact ⟨ex, v, s1, m1, f1, h1, h2, ⟨h3.size, h3.defers, h3.slots, h3.mem, h3.fr.os, h3.fr.tape, h3.fr.output, h3.fr.size, h3.fr.same, hr.fr.base⟩, h4, h5⟩
  exact toG_post h hg.h (Post.of_over (bs := []) (bm := noMem) (by rw [on_noMem]; exact hb) (by rw [List.append_nil, on_noMem]; exact (toG_good hg.h).1) (by rw [List.append_nil, on_noMem]; exact hp1) |> fun q => by
    rw [List.append_nil, on_noMem] at q
    exact q)
/-- The world without one block. -/
def hole (w : World) (i : Nat) : World := { w with heap := w.heap.setIfInBounds i (.cells #[] 0 (0, 0)) }
theorem hole_far {w : World} {i k : Nat} (h : k ≠ i) : (hole w i).heap[k]? = w.heap[k]? := by
  show (w.heap.setIfInBounds i _)[k]? = _
  rw [Array.getElem?_setIfInBounds, if_neg (fun hh => h hh.symm)]
theorem hole_cell {w : World} {i : Nat} {a : Addr} (h : a.block ≠ i) : (hole w i).cell? a = w.cell? a := World.cell?_of_block (hole_far h)
theorem hole_free (w : World) (i : Nat) : Free (hole w i) i := by
  intro a ha
  unfold World.cell?
  have e : (hole w i).heap[a.block]? = if i < w.heap.size then some (.cells #[] 0 (0, 0)) else none := by
    rw [ha]
    show (w.heap.setIfInBounds i _)[i]? = _
    rw [Array.getElem?_setIfInBounds, if_pos rfl]
  rw [e]
  by_cases h : i < w.heap.size
  · rw [if_pos h]
    dsimp only
    split
    · rfl
    · simp
  · rw [if_neg h]
theorem hole_old (w : World) (i : Nat) : Old (hole w i) w := by
  refine ⟨fun {a v} hc => ?_⟩
  have hne : a.block ≠ i := by
    intro hh
    rw [hole_free w i a hh] at hc
    cases hc
  rw [hole_cell hne] at hc
  exact hc
end
end Go.Sx
