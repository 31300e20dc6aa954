/- A part of the proof: the reference is safe, both packages write and read alike. Several texts in one; printed by slim28.py out of the texts of wip. -/
import Derived.Test.YtjmnolhkkpaodaaGreatDoorZ12
set_option linter.all false
namespace Go.Ty
open Go Go.Sx
section
variable {E : Env} {G : Nat → Option Con} {p : Par} {κ κ' : Ctx} {st st' : St} {o : Oper} {e : Ef} {a : Act} {w w' w0 : World} {S0 : SB'}
structure LtsOk (st : St) : Prop where
 lt : ∀ x ∈ st.lts, x.1 < st.nid ∧ x.2 < st.nid
theorem cellsAt_agree {n m b : Nat} {l : List AC} (h : Agree κ κ' n m) (hc : cellsAt p κ w b l) (ho : offL n m l) (hw : w'.heap[b]? = w.heap[b]?) : cellsAt p κ' w' b l := by
 obtain ⟨arr, t, h1, h2⟩ := hc
 exact ⟨arr, t, hw.trans h1, hasL_agree h h2 ho⟩
theorem Rel.step {u : Value} (hrel : Rel E p S0 w0 κ st a w) (hlts : LtsOk st) (hout : OpOut p κ κ' st.nid e ((st.A : Int) * p.M + st.K) w w' u) {dst : Option Nat} (h : applyE E st dst e = some st') : Rel E p S0 w0 κ' st' (a.put dst u) w' ∧ LtsOk st' := by
 unfold applyE at h
 split at h <;> try contradiction
 rename_i hc
 simp only [Bool.and_eq_true] at hc
 obtain ⟨⟨⟨⟨⟨hdst, hav⟩, hlt⟩, hkill⟩, hwr⟩, hnb⟩ := hc
 simp only [Option.some.injEq] at h
 subst h
 have hI := hrel.inp
 have hag := hout.agree
 have hρ : ∀ i, i < st.nid → κ'.ρ i = κ.ρ i := fun i hi => hag.ρ i (by omega)
 have hπ : ∀ i, i < st.nid → κ'.π i = κ.π i := fun i hi => hag.π i (by omega)
 have hpos : 0 < st.nid := hI.pos
 have hnn : st.nid ≤ st.nid + e.new.length := Nat.le_add_right _ _
 have hwm := wrOk_mem hwr
 have kept : ∀ q t l, Sx.look (keepM e.wr e.kill [] st.mem) q = some (t, l) → q ∈ st.ps ∧ q < st.nid ∧ κ'.π q = κ.π q ∧ κ'.S (κ'.π q) = some ⟨false, t, 1, 1⟩ ∧ cellsAt p κ' w' (κ'.π q) l ∧ ∀ m, offL st.nid m l := by
  intro q t l hq
  obtain ⟨_, h1, h2, h3⟩ := look_keepM hq
  obtain ⟨h4, h5⟩ := hI.mem q t l h1
  obtain ⟨h6, h7⟩ := hI.offM q t l h1
  have h6 : q < st.nid := h6
  have hqp := hrel.mps q _ h1
  refine ⟨hqp, h6, hπ q h6, ?_, ?_, h7⟩
  · rw [hπ q h6]
    obtain ⟨k, h8, _, h9⟩ := hag.S _ _ h4
    rw [h8, h9 rfl]
  · rw [hπ q h6]
    refine cellsAt_agree hag h5 (h7 _) (hout.same _ (hrel.ps q hqp).2 ?_ ?_)
    · intro x hx
      rw [h4] at hx
      simp only [Option.some.injEq] at hx
      subst hx
      exact h2
    · intro x hx hxx
      have hxq := hrel.inj _ _ (hwm x hx).2 hqp hxx
      obtain ⟨y, hy⟩ := look_mem_of (l := e.wr) (q := x.1) (x := x.2) hx
      rw [hxq, h3] at hy
      cases hy
 have anew : ∀ q t l, Sx.look (setM (st.nid + e.new.length) st.ps e.pm) q = some (t, l) → q ∈ st.ps ∧ q < st.nid ∧ κ'.S (κ'.π q) = some ⟨false, t, 1, 1⟩ ∧ cellsAt p κ' w' (κ'.π q) l ∧ ltLs (st.nid + e.new.length) l = true := by
  intro q t l hq
  obtain ⟨hqp, h2, h3⟩ := look_setM hq
  obtain ⟨h4, h5⟩ := hout.pm _ h3
  exact ⟨hqp, (hrel.ps q hqp).1, h4, h5, h2⟩
 have known : ∀ q t l, Sx.look (newM st.nid e.nb ++ (setM (st.nid + e.new.length) st.ps e.pm ++ keepM e.wr e.kill [] st.mem)) q = some (t, l) →
   κ'.S (κ'.π q) = some ⟨false, t, 1, 1⟩ ∧ cellsAt p κ' w' (κ'.π q) l ∧ q < st.nid + e.new.length ∧ (∀ m, offL (st.nid + e.new.length) m l) ∧ (q ∈ st.ps ∨ (q = st.nid ∧ e.nb ≠ none)) := by
  intro q t l hq
  rw [look_append] at hq
  split at hq
  · rename_i x hx
    simp only [Option.some.injEq] at hq
    subst hq
    cases hb : e.nb with
    | none => rw [hb] at hx; simp [newM, Sx.look] at hx
    | some y =>
     obtain ⟨t', l'⟩ := y
     rw [hb] at hx hnb
     simp only [newM, look_cons] at hx
     split at hx
     · rename_i hqq
       simp only [Option.some.injEq, Prod.mk.injEq] at hx
       obtain ⟨rfl, rfl⟩ := hx
       subst hqq
       obtain ⟨h1, h2, _, h4⟩ := hout.nb _ hb
       exact ⟨h1, h2, by omega, ltLs_off hnb, .inr ⟨rfl, by simp⟩⟩
     · simp [Sx.look] at hx
  · rw [look_append] at hq
    split at hq
    · rename_i x hx
      simp only [Option.some.injEq] at hq
      subst hq
      obtain ⟨h1, h2, h3, h4, h5⟩ := anew _ _ _ hx
      exact ⟨h3, h4, by omega, ltLs_off h5, .inl h1⟩
    · obtain ⟨h1, h2, h3, h4, h5, h6⟩ := kept _ _ _ hq
      exact ⟨h4, h5, by omega, offL_up h6 hnn, .inl h1⟩
 have nbnew : e.nb ≠ none → w.heap.size ≤ κ'.π st.nid ∧ κ'.π st.nid < w'.heap.size ∧ e.new.length = 1 := by
  intro hb
  cases hbb : e.nb with
  | none => exact absurd hbb hb
  | some y =>
   obtain ⟨h1, h2, h3, h4⟩ := hout.nb _ hbb
   obtain ⟨arr, t, h5, _⟩ := h2
   exact ⟨h3, lt_of_blk h5, h4⟩
 have psm : ∀ q, q ∈ (match e.nb with | some _ => st.nid :: st.ps | none => st.ps) → q ∈ st.ps ∨ (q = st.nid ∧ e.nb ≠ none) := by
  intro q hq
  split at hq
  · rename_i y hb
    rcases List.mem_cons.1 hq with rfl | hq
    · exact .inr ⟨rfl, by rw [hb]; simp⟩
    · exact .inl hq
  · exact .inl hq
 have psn : ∀ q, (q ∈ st.ps ∨ (q = st.nid ∧ e.nb ≠ none)) → q ∈ (match e.nb with | some _ => st.nid :: st.ps | none => st.ps) := by
  intro q hq
  split
  · rcases hq with hq | ⟨rfl, _⟩
    · exact List.mem_cons_of_mem _ hq
    · simp
  · rename_i hb
    rcases hq with hq | ⟨_, hn⟩
    · exact hq
    · exact absurd hb hn
 have old : ∀ q, q ∈ st.ps → κ'.π q = κ.π q ∧ κ.π q < w.heap.size := fun q hq => ⟨hπ q (hrel.ps q hq).1, (hrel.ps q hq).2⟩
 refine ⟨⟨?_, ?_, ⟨?_, ?_, ?_, ?_, ?_, ?_, ?_, ?_, ?_⟩, ?_, ?_, ?_, ?_, ?_, ?_, ?_⟩, ⟨?_⟩⟩
 · cases dst <;> simp [Act.put, hrel.size]
 · cases dst <;> simp [Act.put, hrel.defers]
 · rw [hρ 0 hpos]; exact hI.zero
 · -- slots
   intro t v hv
   simp only [St.inp] at hv
   cases dst with
   | none => exact AV.has_agree hag (hI.slots t v hv) (hI.offS t v hv _)
   | some d =>
    simp only [putA, look_cons] at hv
    simp only [dstOk, blt_iff] at hdst
    split at hv
    · rename_i hd
      simp only [Option.some.injEq] at hv
      subst hv hd
      have hlt : d < a.tmps.size := by rw [hrel.size]; exact hdst
      have : (a.put (some d) u).tmps.getD d undef = u := by
       simp [Act.put, Array.getD_eq_getD_getElem?, hlt]
      rw [this]
      exact hout.val
    · rename_i hd
      have : (a.put (some d) u).tmps.getD t undef = a.tmps.getD t undef := by
       simp [Act.put, Array.getD_eq_getD_getElem?, Array.getElem?_setIfInBounds_ne hd]
      rw [this]
      exact AV.has_agree hag (hI.slots t v hv) (hI.offS t v hv _)
 · intro q t l hq
   obtain ⟨h1, h2, _⟩ := known q t l hq
   exact ⟨h1, h2⟩
 · -- bounds
   intro i b hb
   simp only [St.inp] at hb
   rw [look_append, look_numB] at hb
   split at hb
   · rename_i b' hb'
     simp only [Option.some.injEq] at hb
     subst hb
     split at hb'
     · rename_i hle
       have := hout.new _ _ hb'
       rwa [show st.nid + (i - st.nid) = i by omega] at this
     · contradiction
   · rw [hρ i (hI.offB i b hb)]
     exact hI.bd i b hb
 · intro i j hij
   simp only [St.inp] at hij
   have hm := memL_mem hij
   rcases List.mem_append.1 hm with hm | hm
   · exact hout.lts _ hm
   · have h1 := hlts.lt _ hm
     simp only at h1
     rw [hρ i h1.1, hρ j h1.2]
     have : memL i j st.lts = true := by
      clear hij
      revert hm
      generalize st.lts = ll
      intro hm
      induction ll with
      | nil => simp at hm
      | cons z ll ih =>
       obtain ⟨x, y⟩ := z
       simp only [memL]
       split
       · rfl
       · rename_i hc
         rcases List.mem_cons.1 hm with hm | hm
         · simp only [Prod.mk.injEq] at hm
           obtain ⟨rfl, rfl⟩ := hm
           simp at hc
         · exact ih hm
     exact hI.lts i j this
 · show 0 < st.nid + e.new.length
   omega
 · intro t v hv m
   simp only [St.inp] at hv ⊢
   cases dst with
   | none => exact AV.off_up (hI.offS t v hv) hnn m
   | some d =>
    simp only [putA, look_cons] at hv
    split at hv
    · simp only [Option.some.injEq] at hv
      subst hv
      exact ltV_off hav m
    · exact AV.off_up (hI.offS t v hv) hnn m
 · intro q t l hq
   obtain ⟨_, _, h3, h4, _⟩ := known q t l hq
   exact ⟨h3, h4⟩
 · intro i b hb
   simp only [St.inp] at hb ⊢
   rw [look_append, look_numB] at hb
   split at hb
   · rename_i b' hb'
     split at hb'
     · have := (List.getElem?_eq_some_iff.1 hb').1
       omega
     · contradiction
   · have := hI.offB i b hb
     simp only [St.inp] at this
     omega
 · have := hout.wt
   simp only
   rw [Int.natCast_add, ← Int.add_assoc]
   exact this
 · -- the known blocks are apart
   intro q q' hq hq' hqq
   rcases psm q hq with h1 | ⟨rfl, h1⟩ <;> rcases psm q' hq' with h2 | ⟨rfl, h2⟩
   · rw [(old q h1).1, (old q' h2).1] at hqq
     exact hrel.inj q q' h1 h2 hqq
   · have := (nbnew h2).1
     rw [(old q h1).1] at hqq
     have := (old q h1).2
     omega
   · have := (nbnew h1).1
     rw [(old q' h2).1] at hqq
     have := (old q' h2).2
     omega
   · rfl
 · intro q hq
   rcases psm q hq with h1 | ⟨rfl, h1⟩
   · rw [(old q h1).1]
     exact ⟨by simp only; have := (hrel.ps q h1).1; omega, Nat.lt_of_lt_of_le (old q h1).2 hout.size⟩
   · obtain ⟨_, h2, h3⟩ := nbnew h1
     exact ⟨by simp only; omega, h2⟩
 · intro q x hq
   obtain ⟨_, _, _, _, h5⟩ := known q x.1 x.2 hq
   exact psn q h5
 · intro q hq
   simp only at hq ⊢
   split at hq
   · rename_i y hb
     have h1 := (nbnew (by rw [hb]; simp)).2.2
     rcases List.mem_cons.1 hq with rfl | hq
     · omega
     · have := hrel.ownlt q hq; omega
   · have := hrel.ownlt q hq; omega
 · refine ⟨fun x hx => ?_, fun x hx => ?_⟩
   · obtain ⟨h1, h2⟩ := hrel.pin.1 x hx
     exact ⟨by simp only; omega, (hπ _ h1).trans h2⟩
   · obtain ⟨h1, h2⟩ := hrel.pin.2 x hx
     exact ⟨by simp only; omega, (hρ _ h1).trans h2⟩
 · -- from where the function began
   have hf := hrel.fr
   refine ⟨hout.os.trans hf.os, hout.tape.trans hf.tape, hout.output.trans hf.output, Nat.le_trans hf.size hout.size, hf.ext.trans hag.S, ?_, ?_, ?_⟩
   · intro b x hx
     rcases hout.newS b x hx with ⟨y, hy⟩ | h
     · exact hf.newS b y hy
     · right; have := hf.size; omega
   · intro b hb hne
     have hbw : b < w.heap.size := Nat.lt_of_lt_of_le hb hf.size
     rw [← hf.same b hb hne]
     have back : ∀ x, κ.S b = some x → ∃ y, S0 b = some y ∧ y.row = x.row ∧ y.t = x.t := by
      intro x hx
      rcases hf.newS b x hx with ⟨y, hy⟩ | h
      · obtain ⟨k, h1, _⟩ := hf.ext b y hy
        rw [hx] at h1
        simp only [Option.some.injEq] at h1
        subst h1
        exact ⟨y, hy, rfl, rfl⟩
      · omega
     refine hout.same b hbw ?_ ?_
     · intro x hx hk
       obtain ⟨y, hy, h1, h2⟩ := back x hx
       exact hne y hy (by rw [h1, h2]; exact subK_mem hkill _ hk)
     · intro x hx hxx
       obtain ⟨h1, h2⟩ := hwm x hx
       rcases h1 with h1 | h1
       · have := hf.own x.1 ⟨h1, (hrel.ps _ h2).1⟩
         omega
       · have h3 := hout.wr x hx
         rw [hxx] at h3
         obtain ⟨y, hy, h4, h5⟩ := back _ h3
         exact hne y hy (by rw [h4, h5]; exact h1)
   · intro q hq
     simp only at hq
     obtain ⟨hq1, hq2⟩ := hq
     cases hb : e.nb with
     | none =>
      rw [hb] at hq1
      simp only at hq1
      by_cases hlt : q < st.nid
      · rw [hπ q hlt]; exact hf.own q ⟨hq1, hlt⟩
      · exact absurd (hrel.ownlt q hq1) hlt
     | some y =>
      rw [hb] at hq1
      simp only at hq1
      rcases List.mem_cons.1 hq1 with rfl | hq1
      · have := (nbnew (by rw [hb]; simp)).1
        have := hf.size
        omega
      · have hlt := hrel.ownlt q hq1
        rw [hπ q hlt]; exact hf.own q ⟨hq1, hlt⟩
 · intro x hx
   simp only at hx ⊢
   rcases List.mem_append.1 hx with hx | hx
   · exact ltPairs_mem hlt x hx
   · have := hlts.lt x hx
     omega
end
end Go.Ty
namespace Go.Ty
open Go Go.Sx
def setB (st : St) (i : Nat) (b : Bd) : St := ⟨st.sl, (i, b) :: st.ids, st.lts, st.mem, st.own, st.ps, st.nid, st.A, st.K⟩
def addL (st : St) (i j : Nat) : St := ⟨st.sl, st.ids, (i, j) :: st.lts, st.mem, st.own, st.ps, st.nid, st.A, st.K⟩
def capB (B : Nat → Option Bd) (b : Bd) (j : Nat) (c uj : Int) : Bd := match upm B j c with
 | some (a, h) => (match Nat.beq a b.a && Nat.blt 0 a with
  | true => ⟨b.lo, a, h⟩
  | false => ⟨b.lo, 0, uj + c⟩)
 | none => ⟨b.lo, 0, uj + c⟩
def leI' (mx : Nat) (st : St) (i j : Nat) (c : Int) : Option St :=
 match rng (Sx.look st.ids) mx i 0, rng (Sx.look st.ids) mx j 0 with
 | some (li, ui), some (lj, uj) =>
  match ltI (uj + c) li with
  | true => none
  | false =>
   let s1 := match Sx.look st.ids i with
    | some b => (match ltI (uj + c) ui && !Nat.beq i 0 with | true => setB st i (capB (Sx.look st.ids) b j c uj) | false => st)
    | none => st
   let s2 := match Sx.look s1.ids j with
    | some b => (match ltI lj (li - c) && !Nat.beq j 0 with | true => setB s1 j ⟨li - c, b.a, b.hi⟩ | false => s1)
    | none => s1
   some (match ltI c 0 && !Nat.beq i 0 && !Nat.beq j 0 with | true => addL s2 i j | false => s2)
 | _, _ => some st
def neI' (mx : Nat) (st : St) (i : Nat) (v : Int) : Option St :=
 match Sx.look st.ids i with
 | some b => match Nat.beq i 0 with
  | true => some st
  | false => match eqI b.lo v with
   | true => (match ltI (b.a * mx + b.hi) (v + 1) with
    | true => none
    | false => some (setB st i ⟨b.lo + 1, b.a, b.hi⟩))
   | false => match Nat.beq b.a 0 && eqI b.hi v with
    | true => some (setB st i ⟨b.lo, 0, b.hi - 1⟩)
    | false => some st
 | none => some st
def eq2 (mx : Nat) (st : St) (i j : Nat) (c : Int) : Option St :=
 match leI' mx st i j c with
 | some s => leI' mx s j i (-c)
 | none => none
def ne2 (mx : Nat) (st : St) (i : Nat) (d : Int) (j : Nat) (e : Int) : Option St :=
 match Nat.beq j 0 with
 | true => neI' mx st i (e - d)
 | false => match Nat.beq i 0 with
  | true => neI' mx st j (d - e)
  | false => some st
def refB (mx : Nat) (st : St) : AB → Bool → Option St
 | .lit true, true => some st
 | .lit false, false => some st
 | .lit _, _ => none
 | .cmp .lt i d j e, true => leI' mx st i j (e - d - 1)
 | .cmp .lt i d j e, false => leI' mx st j i (d - e)
 | .cmp .le i d j e, true => leI' mx st i j (e - d)
 | .cmp .le i d j e, false => leI' mx st j i (d - e - 1)
 | .cmp .eq i d j e, true => eq2 mx st i j (e - d)
 | .cmp .eq i d j e, false => ne2 mx st i d j e
 | .cmp .ne i d j e, true => ne2 mx st i d j e
 | .cmp .ne i d j e, false => eq2 mx st i j (e - d)
section
variable {E : Env} {G : Nat → Option Con} {p : Par} {κ κ' : Ctx} {st st' : St} {o : Oper} {e : Ef} {a : Act} {w w' w0 : World} {S0 : SB'}
theorem Rel.setB (h : Rel E p S0 w0 κ st a w) {i : Nat} {b : Bd} (hi : i < st.nid) (hb : b.ok p.M (κ.ρ i)) : Rel E p S0 w0 κ (setB st i b) a w := by
 refine ⟨h.size, h.defers, ⟨h.inp.zero, h.inp.slots, h.inp.mem, ?_, h.inp.lts, h.inp.pos, h.inp.offS, h.inp.offM, ?_⟩, h.wt, h.inj, h.ps, h.mps, h.ownlt, h.pin, h.fr⟩
 · intro k c hk
   simp only [St.inp, Ty.setB, look_cons] at hk
   split at hk
   · rename_i hik
     simp only [Option.some.injEq] at hk
     subst hk hik
     exact hb
   · exact h.inp.bd k c hk
 · intro k c hk
   simp only [St.inp, Ty.setB, look_cons] at hk
   split at hk
   · rename_i hik; subst hik; exact hi
   · exact h.inp.offB k c hk
theorem Rel.addL (h : Rel E p S0 w0 κ st a w) {i j : Nat} (hl : κ.ρ i < κ.ρ j) : Rel E p S0 w0 κ (addL st i j) a w := by
 refine ⟨h.size, h.defers, ⟨h.inp.zero, h.inp.slots, h.inp.mem, h.inp.bd, ?_, h.inp.pos, h.inp.offS, h.inp.offM, h.inp.offB⟩, h.wt, h.inj, h.ps, h.mps, h.ownlt, h.pin, h.fr⟩
 intro k c hk
 simp only [St.inp, Ty.addL, memL] at hk
 split at hk
 · rename_i hc
   simp only [Bool.and_eq_true, Nat.beq_eq] at hc
   rw [hc.1, hc.2]
   exact hl
 · exact h.inp.lts k c hk
theorem rng_lt (h : Rel E p S0 w0 κ st a w) {mx i : Nat} {l u : Int} (hr : rng (Sx.look st.ids) mx i 0 = some (l, u)) : i < st.nid := by
 unfold rng lob at hr
 split at hr <;> try contradiction
 rename_i x hx
 split at hx
 · rename_i hi
   have := Nat.eq_of_beq_eq_true hi
   have := h.inp.pos
   simp only [St.inp] at this
   omega
 · split at hx <;> try contradiction
   rename_i b hb
   exact h.inp.offB i b hb
theorem leI'_sound (h : Rel E p S0 w0 κ st a w) (hl : LtsOk st) {mx : Nat} (hM : p.M ≤ mx) {i j : Nat} {c : Int} (hc : κ.ρ i ≤ κ.ρ j + c) : ∃ st', leI' mx st i j c = some st' ∧ Rel E p S0 w0 κ st' a w ∧ LtsOk st' := by
 unfold leI'
 split
 · rename_i li ui lj uj hri hrj
   have r1 := rng_le (I := st.inp) h.inp hM hri
   have r2 := rng_le (I := st.inp) h.inp hM hrj
   have n1 := rng_lt h hri
   have n2 := rng_lt h hrj
   split
   · rename_i hx
     have := ltI_iff.1 hx
     omega
   · refine ⟨_, rfl, ?_⟩
     have step1 : ∀ s1, s1 = (match Sx.look st.ids i with
      | some b => (match ltI (uj + c) ui && !Nat.beq i 0 with | true => Ty.setB st i (capB (Sx.look st.ids) b j c uj) | false => st)
      | none => st) → Rel E p S0 w0 κ s1 a w ∧ LtsOk s1 ∧ s1.nid = st.nid := by
      rintro s1 rfl
      split
      · rename_i b hb
        split
        · refine ⟨h.setB n1 ?_, ⟨hl.lt⟩, rfl⟩
          have := h.inp.bd i b hb
          unfold capB
          split
          · rename_i a1 h1 hu
            have := upm_le (I := st.inp) h.inp hu
            split <;> simp only [Bd.ok] at * <;> omega
          · simp only [Bd.ok] at this ⊢
            omega
        · exact ⟨h, hl, rfl⟩
      · exact ⟨h, hl, rfl⟩
     have step2 : ∀ s1 s2, Rel E p S0 w0 κ s1 a w → LtsOk s1 → s1.nid = st.nid → s2 = (match Sx.look s1.ids j with
      | some b => (match ltI lj (li - c) && !Nat.beq j 0 with | true => Ty.setB s1 j ⟨li - c, b.a, b.hi⟩ | false => s1)
      | none => s1) → Rel E p S0 w0 κ s2 a w ∧ LtsOk s2 ∧ s2.nid = st.nid := by
      rintro s1 s2 h1 hl1 hn1 rfl
      split
      · rename_i b hb
        split
        · refine ⟨h1.setB (by omega) ?_, ⟨hl1.lt⟩, hn1⟩
          have := h1.inp.bd j b hb
          simp only [Bd.ok] at this ⊢
          omega
        · exact ⟨h1, hl1, hn1⟩
      · exact ⟨h1, hl1, hn1⟩
     obtain ⟨a1, a2, a3⟩ := step1 _ rfl
     obtain ⟨b1, b2, b3⟩ := step2 _ _ a1 a2 a3 rfl
     split
     · rename_i hx
       simp only [Bool.and_eq_true, ltI_iff] at hx
       refine ⟨b1.addL (by omega), ⟨fun x hx => ?_⟩⟩
       simp only [Ty.addL] at hx ⊢
       rcases List.mem_cons.1 hx with rfl | hx
       · exact ⟨by simp only; omega, by simp only; omega⟩
       · exact b2.lt x hx
     · exact ⟨b1, b2⟩
 · exact ⟨st, rfl, h, hl⟩
theorem neI'_sound (h : Rel E p S0 w0 κ st a w) (hl : LtsOk st) {mx : Nat} (hM : p.M ≤ mx) {i : Nat} {v : Int} (hc : κ.ρ i ≠ v) : ∃ st', neI' mx st i v = some st' ∧ Rel E p S0 w0 κ st' a w ∧ LtsOk st' := by
 unfold neI'
 split
 · rename_i b hb
   have hbd := h.inp.bd i b hb
   have hlt : i < st.nid := h.inp.offB i b hb
   simp only [Bd.ok] at hbd
   have hmx : (b.a : Int) * p.M ≤ (b.a : Int) * mx := Int.mul_le_mul_of_nonneg_left (by omega) (by omega)
   split
   · exact ⟨st, rfl, h, hl⟩
   · split
     · rename_i hx
       have hx := eqI_iff.1 hx
       split
       · rename_i hy
         have := ltI_iff.1 hy
         omega
       · refine ⟨_, rfl, h.setB hlt ?_, ⟨hl.lt⟩⟩
         simp only [Bd.ok]
         omega
     · split
       · rename_i hx
         simp only [Bool.and_eq_true, Nat.beq_eq, eqI_iff] at hx
         refine ⟨_, rfl, h.setB hlt ?_, ⟨hl.lt⟩⟩
         rw [hx.1] at hbd
         simp only [Bd.ok]
         omega
       · exact ⟨st, rfl, h, hl⟩
 · exact ⟨st, rfl, h, hl⟩
theorem eq2_sound (h : Rel E p S0 w0 κ st a w) (hl : LtsOk st) {mx : Nat} (hM : p.M ≤ mx) {i j : Nat} {c : Int} (hc : κ.ρ i = κ.ρ j + c) : ∃ st', eq2 mx st i j c = some st' ∧ Rel E p S0 w0 κ st' a w ∧ LtsOk st' := by
 obtain ⟨s1, h1, h2, h3⟩ := leI'_sound h hl hM (i := i) (j := j) (c := c) (by omega)
 unfold eq2
 rw [h1]
 exact leI'_sound h2 h3 hM (by omega)
theorem ne2_sound (h : Rel E p S0 w0 κ st a w) (hl : LtsOk st) {mx : Nat} (hM : p.M ≤ mx) {i j : Nat} {d e1 : Int} (hc : κ.ρ i + d ≠ κ.ρ j + e1) : ∃ st', ne2 mx st i d j e1 = some st' ∧ Rel E p S0 w0 κ st' a w ∧ LtsOk st' := by
 unfold ne2
 split
 · rename_i hj
   have := Nat.eq_of_beq_eq_true hj
   subst this
   rw [h.inp.zero] at hc
   exact neI'_sound h hl hM (by omega)
 · split
   · rename_i hj
     have := Nat.eq_of_beq_eq_true hj
     subst this
     rw [h.inp.zero] at hc
     exact neI'_sound h hl hM (by omega)
   · exact ⟨st, rfl, h, hl⟩
theorem refB_sound (h : Rel E p S0 w0 κ st a w) (hl : LtsOk st) {mx : Nat} (hM : p.M ≤ mx) {b : AB} {v : Bool} (hv : b.val κ.ρ = v) : ∃ st', refB mx st b v = some st' ∧ Rel E p S0 w0 κ st' a w ∧ LtsOk st' := by
 cases b with
 | lit x =>
  simp only [AB.val] at hv
  subst hv
  cases x <;> exact ⟨st, rfl, h, hl⟩
 | cmp c i d j e1 =>
  simp only [AB.val, Cmp.on] at hv
  cases c <;> cases v <;> simp only [decide_eq_true_eq, decide_eq_false_iff_not, Bool.not_eq_true', Bool.not_eq_false'] at hv <;> simp only [refB]
  · exact leI'_sound h hl hM (by omega)
  · exact leI'_sound h hl hM (by omega)
  · exact leI'_sound h hl hM (by omega)
  · exact leI'_sound h hl hM (by omega)
  · exact ne2_sound h hl hM hv
  · exact eq2_sound h hl hM (by omega)
  · exact eq2_sound h hl hM (by omega)
  · exact ne2_sound h hl hM hv
end
abbrev Rs := List (Ex × St)
inductive Gd where
 | yes | no | ask (d : Nat) (b : AB) (want : Bool) | bad
def guardT (mx : Nat) (all : Array Oper) (st : St) (o : Oper) : Gd :=
 match o.guard with
 | none => .yes
 | some (j, want) => match all[j]? with
  | some q => match q.dst with
   | some d => match Sx.look st.sl d with
    | some (.one (.bool b)) => match evalB (Sx.look st.ids) mx b with
     | some x => match x == want with
      | true => .yes
      | false => .no
     | none => .ask d b want
    | some (.tup []) => .no
    | _ => .bad
   | none => .bad
  | none => .bad
def litT (d : Nat) (x : Bool) (st : St) : St := ⟨(d, .one (.bool (.lit x))) :: st.sl, st.ids, st.lts, st.mem, st.own, st.ps, st.nid, st.A, st.K⟩
def skipT (E : Env) (st : St) (dst : Option Nat) : Option St :=
 match dstOk E.nt dst with
 | true => some ⟨putA dst (.tup []) st.sl, st.ids, st.lts, st.mem, st.own, st.ps, st.nid, st.A, st.K⟩
 | false => none
def catO {α : Type} : Option (List α) → Option (List α) → Option (List α)
 | some a, some b => some (a ++ b)
 | _, _ => none
def runO (E : Env) (G : Nat → Option Con) (all : Array Oper) : List Oper → St → Option (List St)
 | [], st => some [st]
 | o :: r, st =>
  match guardT E.mx all st o with
  | .bad => none
  | .no => match skipT E st o.dst with
   | some s => runO E G all r s
   | none => none
  | .yes => match aop E G st.inp o with
   | some e => match applyE E st o.dst e with
    | some s => runO E G all r s
    | none => none
   | none => none
  | .ask d b want =>
   catO (match refB E.mx st b want with
    | none => some []
    | some s1 => match aop E G (litT d want s1).inp o with
     | some e => match applyE E (litT d want s1) o.dst e with
      | some s => runO E G all r s
      | none => none
     | none => none)
    (match refB E.mx st b (!want) with
    | none => some []
    | some s1 => match skipT E (litT d (!want) s1) o.dst with
     | some s => runO E G all r s
     | none => none)
def onNrm (f : St → Option Rs) : Rs → Option Rs
 | [] => some []
 | (.nrm, st) :: r => catO (f st) (onNrm f r)
 | x :: r => match onNrm f r with
  | some l => some (x :: l)
  | none => none
def unblk (id : Nat) : Rs → Rs
 | [] => []
 | (.exit i, st) :: r => (match Nat.beq i id with | true => .nrm | false => .exit i, st) :: unblk id r
 | x :: r => x :: unblk id r
def mapN : List St → Rs
 | [] => []
 | s :: r => (.nrm, s) :: mapN r
def frcN {β : Type} (n : Nat) (k : Nat → β) : β := match n with
 | 0 => k 0
 | m + 1 => k (m + 1)
def frcI {β : Type} (i : Int) (k : Int → β) : β := match i with
 | .ofNat n => frcN n fun n => k (.ofNat n)
 | .negSucc n => frcN n fun n => k (.negSucc n)
def frcK {β : Type} (i : IntKind) (k : IntKind → β) : β := match i with
 | .i8 => k .i8
 | .i16 => k .i16
 | .i32 => k .i32
 | .i64 => k .i64
 | .u8 => k .u8
 | .u16 => k .u16
 | .u32 => k .u32
 | .u64 => k .u64
def frcM {β : Type} (i : Cmp) (k : Cmp → β) : β := match i with
 | .lt => k .lt
 | .le => k .le
 | .eq => k .eq
 | .ne => k .ne
def frcO {β : Type} (i : Bool) (k : Bool → β) : β := match i with
 | true => k true
 | false => k false
def frcB {β : Type} (b : AB) (k : AB → β) : β := match b with
 | .lit b => frcO b fun b => k (.lit b)
 | .cmp c i d j e => frcM c fun c => frcN i fun i => frcI d fun d => frcN j fun j => frcI e fun e => k (.cmp c i d j e)
def frcC {β : Type} (c : AC) (k : AC → β) : β := match c with
 | .int q i d => frcK q fun q => frcN i fun i => frcI d fun d => k (.int q i d)
 | .bool b => frcB b fun b => k (.bool b)
 | .slc t i d => frcN t fun t => frcN i fun i => frcI d fun d => k (.slc t i d)
 | .nils => k .nils
 | .ptr t q o => frcN t fun t => frcN q fun q => frcN o fun o => k (.ptr t q o)
 | .eptr t o => frcN t fun t => frcN o fun o => k (.eptr t o)
 | .fix => k .fix
 | .anyI q => frcK q fun q => k (.anyI q)
 | .anyB => k .anyB
def frcL {α β : Type} (f : α → (α → β) → β) : List α → (List α → β) → β
 | [], k => k []
 | x :: r, k => f x fun x => frcL f r fun r => k (x :: r)
def frcP {α γ β : Type} (f : α → (α → β) → β) (g : γ → (γ → β) → β) (x : α × γ) (k : α × γ → β) : β := match x with
 | (a, c) => f a fun a => g c fun c => k (a, c)
def frcV {β : Type} (v : AV) (k : AV → β) : β := match v with
 | .ud => k .ud
 | .one c => frcC c fun c => k (.one c)
 | .agg l => frcL frcC l fun l => k (.agg l)
 | .tup l => frcL (frcP frcO (frcL frcC)) l fun l => k (.tup l)
def frcD {β : Type} (b : Bd) (k : Bd → β) : β := match b with
 | ⟨l, a, h⟩ => frcI l fun l => frcN a fun a => frcI h fun h => k ⟨l, a, h⟩
def frcS {β : Type} (s : St) (k : St → β) : β := match s with
 | ⟨sl, ids, lts, mem, own, ps, nid, A, K⟩ => frcL (frcP frcN frcV) sl fun sl => frcL (frcP frcN frcD) ids fun ids => frcL (frcP frcN frcN) lts fun lts => frcL (frcP frcN (frcP frcN (frcL frcC))) mem fun mem =>
  frcL frcN own fun own => frcL frcN ps fun ps => frcN nid fun nid => frcN A fun A => frcN K fun K => k ⟨sl, ids, lts, mem, own, ps, nid, A, K⟩
section
variable {β : Type}
theorem frcN_eq (n : Nat) (k : Nat → β) : frcN n k = k n := by cases n <;> rfl
theorem frcI_eq (n : Int) (k : Int → β) : frcI n k = k n := by cases n <;> simp [frcI, frcN_eq]
theorem frcK_eq (n : IntKind) (k : IntKind → β) : frcK n k = k n := by cases n <;> rfl
theorem frcM_eq (n : Cmp) (k : Cmp → β) : frcM n k = k n := by cases n <;> rfl
theorem frcO_eq (n : Bool) (k : Bool → β) : frcO n k = k n := by cases n <;> rfl
theorem frcB_eq (n : AB) (k : AB → β) : frcB n k = k n := by cases n <;> simp [frcB, frcO_eq, frcM_eq, frcN_eq, frcI_eq]
theorem frcC_eq (n : AC) (k : AC → β) : frcC n k = k n := by cases n <;> simp [frcC, frcK_eq, frcB_eq, frcN_eq, frcI_eq]
theorem frcL_eq {α : Type} {f : α → (α → β) → β} (hf : ∀ x k, f x k = k x) : ∀ (l : List α) (k : List α → β), frcL f l k = k l
 | [], _ => rfl
 | x :: r, k => by rw [frcL, hf, frcL_eq hf]
theorem frcP_eq {α γ : Type} {f : α → (α → β) → β} {g : γ → (γ → β) → β} (hf : ∀ x k, f x k = k x) (hg : ∀ x k, g x k = k x) (x : α × γ) (k : α × γ → β) : frcP f g x k = k x := by
 obtain ⟨a, c⟩ := x
 simp [frcP, hf, hg]
theorem frcV_eq (n : AV) (k : AV → β) : frcV n k = k n := by
 cases n
 · rfl
 · simp [frcV, frcC_eq]
 · rw [frcV, frcL_eq frcC_eq]
 · rw [frcV, frcL_eq (frcP_eq frcO_eq (frcL_eq frcC_eq))]
theorem frcD_eq (n : Bd) (k : Bd → β) : frcD n k = k n := by cases n; simp [frcD, frcN_eq, frcI_eq]
theorem frcS_eq (s : St) (k : St → β) : frcS s k = k s := by
 cases s
 simp only [frcS]
 rw [frcL_eq (frcP_eq frcN_eq frcV_eq), frcL_eq (frcP_eq frcN_eq frcD_eq), frcL_eq (frcP_eq frcN_eq frcN_eq), frcL_eq (frcP_eq frcN_eq (frcP_eq frcN_eq (frcL_eq frcC_eq))), frcL_eq frcN_eq, frcL_eq frcN_eq, frcN_eq, frcN_eq, frcN_eq]
end
def frcAll {β : Type} : List St → (List St → β) → β := frcL frcS
theorem frcAll_eq {β : Type} (l : List St) (k : List St → β) : frcAll l k = k l := frcL_eq frcS_eq l k
abbrev Drw := Array Oper → St → Option St
def runT (E : Env) (G : Nat → Option Con) (D : Drw) (sq : Rs → Rs) (cl : St → St) : Nat → Code → St → Option Rs
 | 0, _, _ => none
 | n + 1, c, st =>
  match c with
  | .skip => some [(.nrm, st)]
  | .label _ => some [(.nrm, st)]
  | .exit id => some [(.exit id, st)]
  | .ret => some [(.ret, st)]
  | .region _ ops false => match runO E G ops ops.toList st with
   | some l => frcAll l fun l => some (sq (mapN l))
   | none => none
  | .region _ ops true => match E.P.follows .mixedOrders && noSel ops.toList with
   | true => match D ops st with
    | some s => frcS s fun s => some [(.nrm, s)]
    | none => none
   | false => none
  | .seq x y => match runT E G D sq cl n x st with
   | some rs => match onNrm (runT E G D sq cl n y) rs with
    | some l => some (sq l)
    | none => none
   | none => none
  | .block id body => match runT E G D sq cl n body st with
   | some rs => some (sq (unblk id rs))
   | none => none
  | .loop body => match runT E G D sq cl n body st with
   | some rs => match onNrm (fun s => frcS (cl s) fun s => runT E G D sq cl n (.loop body) s) (sq rs) with
    | some l => some (sq l)
    | none => none
   | none => none
  | .cond c x y => match evO (Sx.look st.sl) c with
   | some (.one (.bool b)) => match evalB (Sx.look st.ids) E.mx b with
    | some true => runT E G D sq cl n x st
    | some false => runT E G D sq cl n y st
    | none => match catO (match refB E.mx st b true with
      | none => some []
      | some s => runT E G D sq cl n x s) (match refB E.mx st b false with
      | none => some []
      | some s => runT E G D sq cl n y s) with
     | some l => some (sq l)
     | none => none
   | _ => none
  | _ => none
end Go.Ty
