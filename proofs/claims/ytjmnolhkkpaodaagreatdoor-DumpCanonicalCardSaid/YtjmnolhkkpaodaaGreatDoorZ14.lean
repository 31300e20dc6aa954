/- A part of the proof: the reference is safe, both packages write and read alike. Several texts in one; printed by slim28.py out of the texts of wip. -/
import Derived.Test.YtjmnolhkkpaodaaGreatDoorZ13
set_option linter.all false
namespace Go.Ty
open Go Go.Sx
section
variable {E : Env} {G : Nat → Option Con} {p : Par} {κ κ' : Ctx} {st st' : St} {o : Oper} {e : Ef} {a : Act} {w w' w0 : World} {S0 : SB'} {D : Drw} {sq : Rs → Rs} {cl : St → St}
def Good (E : Env) (p : Par) (S0 : SB') (w0 : World) (st : St) (a : Act) (w : World) : Prop := ∃ κ, Rel E p S0 w0 κ st a w ∧ LtsOk st
def PostO (E : Env) (p : Par) (S0 : SB') (w0 : World) (l : List St) (e : Exit) (a : Act) (w : World) : Prop := e = .normal ∧ ∃ s ∈ l, Good E p S0 w0 s a w
def PostT (E : Env) (p : Par) (S0 : SB') (w0 : World) (rs : Rs) (e : Exit) (a : Act) (w : World) : Prop := ∃ ex s, (ex, s) ∈ rs ∧ exOf ex = some e ∧ Good E p S0 w0 s a w
def SqOk (sq : Rs → Rs) : Prop := ∀ (E : Env) (p : Par) (S0 : SB') (w0 : World) (rs : Rs) (ex : Ex) (s : St) (a : Act) (w : World), (ex, s) ∈ rs → Good E p S0 w0 s a w → ∃ s', (ex, s') ∈ sq rs ∧ Good E p S0 w0 s' a w
def ClOk (cl : St → St) : Prop := ∀ (E : Env) (p : Par) (S0 : SB') (w0 : World) (s : St) (a : Act) (w : World), Good E p S0 w0 s a w → Good E p S0 w0 (cl s) a w
def DrwOk (E : Env) (p : Par) (D : Drw) : Prop := ∀ (S0 : SB') (w0 : World) (id : Nat) (ops : Array Oper) (st st' : St) (a : Act) (w : World), (E.P.follows .mixedOrders && noSel ops.toList) = true → D ops st = some st' → Good E p S0 w0 st a w →
 (Code.region id ops true).wp E.P (PostO E p S0 w0 [st']) a w
theorem catO_some {α : Type} {x y : Option (List α)} {l : List α} (h : catO x y = some l) : ∃ a b, x = some a ∧ y = some b ∧ l = a ++ b := by
 unfold catO at h
 split at h <;> try contradiction
 simp only [Option.some.injEq] at h
 exact ⟨_, _, rfl, rfl, h.symm⟩
theorem guardT_wanted (hrel : Rel E p S0 w0 κ st a w) (hM : p.M ≤ E.mx) {all : Array Oper} : match guardT E.mx all st o with
  | .yes => Region.wanted o (yielded all a.tmps) = true
  | .no => Region.wanted o (yielded all a.tmps) = false
  | .ask d b want => Region.wanted o (yielded all a.tmps) = (b.val κ.ρ == want) ∧ a.tmps.getD d undef = .bool (b.val κ.ρ)
  | .bad => True := by
 have hg : ∀ r, r = guardT E.mx all st o → (match r with
  | .yes => Region.wanted o (yielded all a.tmps) = true
  | .no => Region.wanted o (yielded all a.tmps) = false
  | .ask d b want => Region.wanted o (yielded all a.tmps) = (b.val κ.ρ == want) ∧ a.tmps.getD d undef = .bool (b.val κ.ρ)
  | .bad => True) := by
  intro r hr
  unfold guardT at hr
  unfold Region.wanted
  split at hr
  · rename_i h0; subst hr; simp [h0]
  · rename_i j want h0
    split at hr
    · rename_i q hq
      split at hr
      · rename_i d hd
        split at hr
        · rename_i b hb
          have h1 := hrel.inp.slots d _ hb
          simp only [AV.has, AC.has] at h1
          have h2 := tmps_bool h1
          split at hr
          · rename_i x hx
            have h3 := evalB_sound (I := st.inp) hrel.inp hM hx
            rw [h3] at h2
            split at hr
            · rename_i hw
              subst hr
              simp only [h0, yielded, hq, hd, h2, Option.bind_some]
              simpa using hw
            · rename_i hw
              subst hr
              simp only [h0, yielded, hq, hd, h2, Option.bind_some]
              simpa using hw
          · subst hr
            refine ⟨?_, h1⟩
            simp only [h0, yielded, hq, hd, h2, Option.bind_some]
            cases b.val κ.ρ <;> cases want <;> rfl
        · rename_i hb
          have h1 := hrel.inp.slots d _ hb
          obtain ⟨vs, h2, h3⟩ := h1
          subst hr
          simp only [h0, yielded, hq, hd, Option.bind_some]
          rw [Array.getD_eq_getD_getElem?] at h2
          cases h4 : a.tmps[d]? with
          | none => rfl
          | some v =>
           rw [h4] at h2
           simp only [Option.getD_some] at h2
           subst h2
           rfl
        · subst hr; trivial
      · subst hr; trivial
    · subst hr; trivial
 exact hg _ rfl
theorem Rel.skip (hrel : Rel E p S0 w0 κ st a w) (hl : LtsOk st) {dst : Option Nat} (h : skipT E st dst = some st') : Rel E p S0 w0 κ st' (a.put dst undef) w ∧ LtsOk st' := by
 unfold skipT at h
 split at h <;> try contradiction
 rename_i hd
 simp only [Option.some.injEq] at h
 subst h
 refine ⟨⟨?_, ?_, ⟨hrel.inp.zero, ?_, hrel.inp.mem, hrel.inp.bd, hrel.inp.lts, hrel.inp.pos, ?_, hrel.inp.offM, hrel.inp.offB⟩, hrel.wt, hrel.inj, hrel.ps, hrel.mps, hrel.ownlt, hrel.pin, hrel.fr⟩, ⟨hl.lt⟩⟩
 · cases dst <;> simp [Act.put, hrel.size]
 · cases dst <;> simp [Act.put, hrel.defers]
 · intro t v hv
   simp only [St.inp] at hv
   cases dst with
   | none => exact hrel.inp.slots t v hv
   | some d =>
    simp only [putA, look_cons] at hv
    simp only [dstOk, blt_iff] at hd
    split at hv
    · rename_i hdt
      simp only [Option.some.injEq] at hv
      subst hv hdt
      have hlt : d < a.tmps.size := by rw [hrel.size]; exact hd
      have : (a.put (some d) undef).tmps.getD d undef = undef := by
       simp [Act.put, Array.getD_eq_getD_getElem?, hlt]
      rw [this]
      exact ⟨#[], rfl, trivial⟩
    · rename_i hdt
      have : (a.put (some d) undef).tmps.getD t undef = a.tmps.getD t undef := by
       simp [Act.put, Array.getD_eq_getD_getElem?, Array.getElem?_setIfInBounds_ne hdt]
      rw [this]
      exact hrel.inp.slots t v hv
 · intro t v hv m
   simp only [St.inp] at hv ⊢
   cases dst with
   | none => exact hrel.inp.offS t v hv m
   | some d =>
    simp only [putA, look_cons] at hv
    split at hv
    · simp only [Option.some.injEq] at hv
      subst hv
      intro q hq
      simp at hq
    · exact hrel.inp.offS t v hv m
theorem Rel.lit (hrel : Rel E p S0 w0 κ st a w) (hl : LtsOk st) {d : Nat} {x : Bool} (h : a.tmps.getD d undef = .bool x) : Rel E p S0 w0 κ (litT d x st) a w ∧ LtsOk (litT d x st) := by
 refine ⟨⟨hrel.size, hrel.defers, ⟨hrel.inp.zero, ?_, hrel.inp.mem, hrel.inp.bd, hrel.inp.lts, hrel.inp.pos, ?_, hrel.inp.offM, hrel.inp.offB⟩, hrel.wt, hrel.inj, hrel.ps, hrel.mps, hrel.ownlt, hrel.pin, hrel.fr⟩, ⟨hl.lt⟩⟩
 · intro t v hv
   simp only [St.inp, litT, look_cons] at hv
   split at hv
   · rename_i ht
     simp only [Option.some.injEq] at hv
     subst hv ht
     exact h
   · exact hrel.inp.slots t v hv
 · intro t v hv m
   simp only [St.inp, litT, look_cons] at hv ⊢
   split at hv
   · simp only [Option.some.injEq] at hv
     subst hv
     trivial
   · exact hrel.inp.offS t v hv m
theorem Oper.wp_up {P : Program} {o : Oper} {a : Act} {w : World} {K K' : Act → World → Prop} {Q Q' : Exit → Act → World → Prop} (hq : ∀ e a w, Q e a w → Q' e a w) (hk : ∀ a w, K a w → K' a w) (h : o.wp P a w K Q) : o.wp P a w K' Q' := by
 unfold Oper.wp at h ⊢
 generalize (execOp a.eval o).run P w = r at h ⊢
 cases r with
 | ok n w' =>
  cases n <;> simp only [Oper.upon] at h ⊢
  case value v => exact hk _ _ h
  case skip => exact hk _ _ h
  case defer d => exact hk _ _ h
  case enter g args =>
   refine Calls.mono h fun e w'' he => ?_
   cases e with
   | returned v => exact hk _ _ he
   | panicked c => exact hq _ _ _ he
   | outgrown => obtain ⟨a2, w2, h3⟩ := he; exact ⟨a2, w2, hq _ _ _ h3⟩
  case row row args => exact Rows.mono h fun v w'' he => hk _ _ he
 | halt x w' => cases x <;> simp only [Oper.upon] at h ⊢ <;> exact hq _ _ _ h
theorem runO_sound (hE : EnvOk E G p) {all : Array Oper} : ∀ {l : List Oper} {st : St} {rs : List St} {a : Act} {w : World}, runO E G all l st = some rs → Good E p S0 w0 st a w → wpList E.P all (PostO E p S0 w0 rs) l a w
 | [], st, rs, a, w, h, hg => by
  simp only [runO, Option.some.injEq] at h
  subst h
  exact wpList_nil ⟨rfl, st, by simp, hg⟩
 | o :: r, st, rs, a, w, h, hg => by
  obtain ⟨κ, hrel, hl⟩ := hg
  have hw := guardT_wanted (o := o) (all := all) hrel hE.M
  have doit : ∀ {st : St} {rs : List St} {κ : Ctx}, Rel E p S0 w0 κ st a w → LtsOk st → (match aop E G st.inp o with
    | some e => match applyE E st o.dst e with
     | some s => runO E G all r s
     | none => none
    | none => none) = some rs → o.wp E.P a w (wpList E.P all (PostO E p S0 w0 rs) r) (PostO E p S0 w0 rs) := by
   intro st rs κ hrel hl h
   split at h <;> try contradiction
   rename_i e he
   split at h <;> try contradiction
   rename_i s hs
   refine aop_sound hE he hrel.inp hrel.wt (Int.le_refl _) (Int.le_refl _) _ _ ?_
   intro u w' κ' hout
   obtain ⟨h1, h2⟩ := hrel.step hl hout hs
   exact runO_sound hE h ⟨κ', h1, h2⟩
  have noit : ∀ {st : St} {rs : List St} {κ : Ctx}, Rel E p S0 w0 κ st a w → LtsOk st → (match skipT E st o.dst with
    | some s => runO E G all r s
    | none => none) = some rs → wpList E.P all (PostO E p S0 w0 rs) r (a.put o.dst undef) w := by
   intro st rs κ hrel hl h
   split at h <;> try contradiction
   rename_i s hs
   obtain ⟨h1, h2⟩ := hrel.skip hl hs
   exact runO_sound hE h ⟨κ, h1, h2⟩
  simp only [runO] at h
  split at h
  · contradiction
  · rename_i hgd
    rw [hgd] at hw
    simp only at hw
    rw [wpList, if_neg (by simp [hw])]
    exact noit hrel hl h
  · rename_i hgd
    rw [hgd] at hw
    simp only at hw
    rw [wpList, if_pos hw]
    exact .inl (doit hrel hl h)
  · rename_i d b want hgd
    rw [hgd] at hw
    simp only at hw
    obtain ⟨hw, hd⟩ := hw
    obtain ⟨l1, l2, h1, h2, rfl⟩ := catO_some h
    by_cases hb : b.val κ.ρ = want
    · obtain ⟨s1, r1, r2, r3⟩ := refB_sound hrel hl hE.M hb
      rw [r1] at h1
      rw [wpList, if_pos (by rw [hw, hb]; simp)]
      left
      obtain ⟨r2, r3⟩ := r2.lit r3 (d := d) (x := want) (by rw [hd, hb])
      refine Oper.wp_up (fun e a w hp => ?_) (fun a w hp => ?_) (doit r2 r3 h1)
      · exact ⟨hp.1, by obtain ⟨s, hs, hg⟩ := hp.2; exact ⟨s, by simp [hs], hg⟩⟩
      · exact wpList_up (fun e a w hp => ⟨hp.1, by obtain ⟨s, hs, hg⟩ := hp.2; exact ⟨s, by simp [hs], hg⟩⟩) _ _ _ hp
    · have hb' : b.val κ.ρ = !want := by cases hx : b.val κ.ρ <;> cases want <;> simp_all
      obtain ⟨s1, r1, r2, r3⟩ := refB_sound hrel hl hE.M hb'
      rw [r1] at h2
      rw [wpList, if_neg (by rw [hw]; simpa using hb)]
      obtain ⟨r2, r3⟩ := r2.lit r3 (d := d) (x := !want) (by rw [hd, hb'])
      exact wpList_up (fun e a w hp => ⟨hp.1, by obtain ⟨s, hs, hg⟩ := hp.2; exact ⟨s, by simp [hs], hg⟩⟩) _ _ _ (noit r2 r3 h2)
theorem exOf_nrm {ex : Ex} (h : exOf ex = some .normal) : ex = .nrm := by cases ex <;> simp_all [exOf]
theorem onNrm_sub {f : St → Option Rs} : ∀ {rs l : Rs}, onNrm f rs = some l → (∀ ex s, (ex, s) ∈ rs → ex ≠ .nrm → (ex, s) ∈ l) ∧ ∀ s, (.nrm, s) ∈ rs → ∃ l', f s = some l' ∧ ∀ x ∈ l', x ∈ l
 | [], l, h => by simp [onNrm] at h; subst h; simp
 | (ex, s) :: r, l, h => by
  have other : ∀ {x : Ex × St}, (match onNrm f r with | some l => some (x :: l) | none => none) = some l → x = (ex, s) → ex ≠ .nrm → (∀ ex' s', (ex', s') ∈ (ex, s) :: r → ex' ≠ .nrm → (ex', s') ∈ l) ∧ ∀ s', (.nrm, s') ∈ (ex, s) :: r → ∃ l', f s' = some l' ∧ ∀ x ∈ l', x ∈ l := by
   rintro x h rfl hne
   split at h <;> try contradiction
   rename_i l1 h1
   simp only [Option.some.injEq] at h
   subst h
   obtain ⟨h2, h3⟩ := onNrm_sub h1
   refine ⟨fun ex' s' hm hn => ?_, fun s' hm => ?_⟩
   · rcases List.mem_cons.1 hm with hm | hm
     · rw [hm]; simp
     · exact List.mem_cons_of_mem _ (h2 _ _ hm hn)
   · rcases List.mem_cons.1 hm with hm | hm
     · simp only [Prod.mk.injEq] at hm
       exact absurd hm.1.symm hne
     · obtain ⟨l', h4, h5⟩ := h3 s' hm
       exact ⟨l', h4, fun x hx => List.mem_cons_of_mem _ (h5 x hx)⟩
  cases ex with
  | nrm =>
   simp only [onNrm] at h
   obtain ⟨l1, l2, h1, h2, rfl⟩ := catO_some h
   obtain ⟨h3, h4⟩ := onNrm_sub h2
   refine ⟨fun ex' s' hm hn => ?_, fun s' hm => ?_⟩
   · rcases List.mem_cons.1 hm with hm | hm
     · simp only [Prod.mk.injEq] at hm
       exact absurd hm.1 hn
     · exact List.mem_append_right _ (h3 _ _ hm hn)
   · rcases List.mem_cons.1 hm with hm | hm
     · simp only [Prod.mk.injEq, true_and] at hm
       subst hm
       exact ⟨l1, h1, fun x hx => List.mem_append_left _ hx⟩
     · obtain ⟨l', h5, h6⟩ := h4 s' hm
       exact ⟨l', h5, fun x hx => List.mem_append_right _ (h6 x hx)⟩
  | ret => simp only [onNrm] at h; exact other h rfl (by simp)
  | exit i => simp only [onNrm] at h; exact other h rfl (by simp)
  | res v => simp only [onNrm] at h; exact other h rfl (by simp)
theorem unblk_mem {id : Nat} {ex : Ex} {s : St} : ∀ {rs : Rs}, (ex, s) ∈ rs → ((match ex with | .exit i => (match Nat.beq i id with | true => Ex.nrm | false => .exit i) | x => x), s) ∈ unblk id rs
 | [], h => by simp at h
 | (ex', s') :: r, h => by
  rcases List.mem_cons.1 h with h | h
  · simp only [Prod.mk.injEq] at h
    obtain ⟨rfl, rfl⟩ := h
    cases ex with
    | exit i => simp only [unblk]; exact List.mem_cons_self
    | _ => simp [unblk]
  · have := unblk_mem (id := id) h
    cases ex' <;> simp only [unblk] <;> exact List.mem_cons_of_mem _ this
theorem postSq (hsq : SqOk sq) {rs : Rs} {e : Exit} (h : PostT E p S0 w0 rs e a w) : PostT E p S0 w0 (sq rs) e a w := by
 obtain ⟨ex, s, h1, h2, h3⟩ := h
 obtain ⟨s', h4, h5⟩ := hsq E p S0 w0 rs ex s a w h1 h3
 exact ⟨ex, s', h4, h2, h5⟩
theorem postSub {rs rs' : Rs} (hs : ∀ x ∈ rs, x ∈ rs') {e : Exit} (h : PostT E p S0 w0 rs e a w) : PostT E p S0 w0 rs' e a w := by
 obtain ⟨ex, s, h1, h2, h3⟩ := h
 exact ⟨ex, s, hs _ h1, h2, h3⟩
theorem mapN_mem {s : St} : ∀ {l : List St}, s ∈ l → (.nrm, s) ∈ mapN l
 | [], h => by simp at h
 | x :: l, h => by
  rcases List.mem_cons.1 h with rfl | h
  · simp [mapN]
  · exact List.mem_cons_of_mem _ (mapN_mem h)
theorem runT_sound (hE : EnvOk E G p) (hD : DrwOk E p D) (hsq : SqOk sq) (hcl : ClOk cl) : ∀ (n : Nat),
  (∀ (c : Code) (st : St) (rs : Rs) (a : Act) (w : World), runT E G D sq cl n c st = some rs → Good E p S0 w0 st a w → c.wp E.P (PostT E p S0 w0 rs) a w) ∧
  (∀ (c : Code) (st : St) (rs : Rs) (a : Act) (w : World), runT E G D sq cl n (.loop c) st = some rs → Good E p S0 w0 st a w → Code.rounds E.P c (PostT E p S0 w0 rs) n a w)
 | 0 => ⟨fun c st rs a w h => by simp [runT] at h, fun c st rs a w h => by simp [runT] at h⟩
 | n + 1 => by
  obtain ⟨ih1, ih2⟩ := runT_sound hE hD hsq hcl n
  have loopr : ∀ (c : Code) (st : St) (rs : Rs) (a : Act) (w : World), runT E G D sq cl (n + 1) (.loop c) st = some rs → Good E p S0 w0 st a w → Code.rounds E.P c (PostT E p S0 w0 rs) (n + 1) a w := by
   intro c st rs a w h hg
   simp only [runT] at h
   split at h <;> try contradiction
   rename_i rs1 h1
   split at h <;> try contradiction
   rename_i l hl
   simp only [Option.some.injEq] at h
   subst h
   simp only [frcS_eq] at hl
   obtain ⟨k1, k2⟩ := onNrm_sub hl
   rw [rounds_succ]
   refine wp_mono (ih1 c st rs1 a w h1 hg) ?_
   intro e a1 w1 hp
   have hp := postSq hsq hp
   cases e with
   | normal =>
    obtain ⟨ex, s, h2, h3, h4⟩ := hp
    have := exOf_nrm h3
    subst this
    obtain ⟨l', h5, h6⟩ := k2 s h2
    exact rounds_mono (fun e a w hq => postSq hsq (postSub h6 hq)) n a1 w1 (ih2 c (cl s) l' a1 w1 h5 (hcl _ _ _ _ _ _ _ h4))
   | _ =>
    obtain ⟨ex, s, h2, h3, h4⟩ := hp
    exact postSq hsq ⟨ex, s, k1 _ _ h2 (by rintro rfl; simp [exOf] at h3), h3, h4⟩
  refine ⟨?_, loopr⟩
  intro c st rs a w h hg
  cases c with
  | skip => simp only [runT, Option.some.injEq] at h; subst h; exact wp_skip ⟨.nrm, st, by simp, rfl, hg⟩
  | label l => simp only [runT, Option.some.injEq] at h; subst h; exact wp_label ⟨.nrm, st, by simp, rfl, hg⟩
  | exit id => simp only [runT, Option.some.injEq] at h; subst h; exact wp_exit ⟨.exit id, st, by simp, rfl, hg⟩
  | ret => simp only [runT, Option.some.injEq] at h; subst h; exact wp_ret ⟨.ret, st, by simp, rfl, hg⟩
  | region id ops draw =>
   cases draw with
   | false =>
    simp only [runT] at h
    split at h <;> try contradiction
    rename_i l hl
    rw [frcAll_eq] at h
    simp only [Option.some.injEq] at h
    subst h
    refine wp_region_list (wpList_up ?_ _ _ _ (runO_sound hE hl hg))
    rintro e a w ⟨rfl, s, hs, hg⟩
    exact postSq hsq ⟨.nrm, s, mapN_mem hs, rfl, hg⟩
   | true =>
    simp only [runT] at h
    split at h <;> try contradiction
    rename_i hc
    split at h <;> try contradiction
    rename_i s hs
    rw [frcS_eq] at h
    simp only [Option.some.injEq] at h
    subst h
    refine wp_mono (hD S0 w0 id ops st s a w hc hs hg) ?_
    rintro e a w ⟨rfl, s', hs', hg⟩
    simp only [List.mem_singleton] at hs'
    subst hs'
    exact ⟨.nrm, s', by simp, rfl, hg⟩
  | seq x y =>
   simp only [runT] at h
   split at h <;> try contradiction
   rename_i rs1 h1
   split at h <;> try contradiction
   rename_i l hl
   simp only [Option.some.injEq] at h
   subst h
   obtain ⟨k1, k2⟩ := onNrm_sub hl
   refine wp_seq (wp_mono (ih1 x st rs1 a w h1 hg) ?_)
   intro e a1 w1 hp
   cases e with
   | normal =>
    obtain ⟨ex, s, h2, h3, h4⟩ := hp
    have := exOf_nrm h3
    subst this
    obtain ⟨l', h5, h6⟩ := k2 s h2
    exact wp_mono (ih1 y s l' a1 w1 h5 h4) (fun e a w hq => postSq hsq (postSub h6 hq))
   | _ =>
    obtain ⟨ex, s, h2, h3, h4⟩ := hp
    exact postSq hsq ⟨ex, s, k1 _ _ h2 (by rintro rfl; simp [exOf] at h3), h3, h4⟩
  | loop body => exact wp_loop_rounds (n + 1) (loopr body st rs a w h hg)
  | block id body =>
   simp only [runT] at h
   split at h <;> try contradiction
   rename_i rs1 h1
   simp only [Option.some.injEq] at h
   subst h
   refine wp_block (wp_mono (ih1 body st rs1 a w h1 hg) ?_)
   intro e a1 w1 hp
   obtain ⟨ex, s, h2, h3, h4⟩ := hp
   have hm := unblk_mem (id := id) h2
   cases ex with
   | nrm => simp only [exOf, Option.some.injEq] at h3; subst h3; exact postSq hsq ⟨.nrm, s, hm, rfl, h4⟩
   | ret => simp only [exOf, Option.some.injEq] at h3; subst h3; exact postSq hsq ⟨.ret, s, hm, rfl, h4⟩
   | res v => simp [exOf] at h3
   | exit i =>
    simp only [exOf, Option.some.injEq] at h3
    subst h3
    simp only [Exit.inBlock]
    simp only at hm
    split
    · rename_i hi
      rw [show Nat.beq i id = true from by simp [hi]] at hm
      exact postSq hsq ⟨.nrm, s, hm, rfl, h4⟩
    · rename_i hi
      rw [show Nat.beq i id = false from by cases hh : Nat.beq i id <;> simp_all] at hm
      exact postSq hsq ⟨.exit i, s, hm, rfl, h4⟩
  | cond c x y =>
   simp only [runT] at h
   split at h <;> try contradiction
   rename_i b hb
   obtain ⟨κ, hrel, hl⟩ := hg
   have hv := (evO_has (I := st.inp) hrel.inp hb).1
   simp only [AV.has, AC.has] at hv
   split at h
   · rename_i hx
     rw [evalB_sound (I := st.inp) hrel.inp hE.M hx] at hv
     exact wp_cond_true hv (ih1 x st rs a w h ⟨κ, hrel, hl⟩)
   · rename_i hx
     rw [evalB_sound (I := st.inp) hrel.inp hE.M hx] at hv
     exact wp_cond_false hv (ih1 y st rs a w h ⟨κ, hrel, hl⟩)
   · split at h <;> try contradiction
     rename_i l hcat
     simp only [Option.some.injEq] at h
     subst h
     obtain ⟨l1, l2, h1, h2, rfl⟩ := catO_some hcat
     refine wp_cond_split hv ?_ ?_
     · intro hb
       obtain ⟨s1, r1, r2, r3⟩ := refB_sound hrel hl hE.M hb
       rw [r1] at h1
       exact wp_mono (ih1 x s1 l1 a w h1 ⟨κ, r2, r3⟩) (fun e a w hq => postSq hsq (postSub (fun z hz => List.mem_append_left _ hz) hq))
     · intro hb
       obtain ⟨s1, r1, r2, r3⟩ := refB_sound hrel hl hE.M hb
       rw [r1] at h2
       exact wp_mono (ih1 y s1 l2 a w h2 ⟨κ, r2, r3⟩) (fun e a w hq => postSq hsq (postSub (fun z hz => List.mem_append_right _ hz) hq))
  | _ => simp [runT] at h
structure Less (st st' : St) : Prop where
 sl : ∀ t v, Sx.look st'.sl t = some v → v = .ud ∨ Sx.look st.sl t = some v
 ids : ∀ x b, Sx.look st'.ids x = some b → Sx.look st.ids x = some b
 mem : ∀ q x, Sx.look st'.mem q = some x → Sx.look st.mem q = some x
 rest : st'.lts = st.lts ∧ st'.own = st.own ∧ st'.ps = st.ps ∧ st'.nid = st.nid ∧ st'.A = st.A ∧ st'.K = st.K
theorem Less.good (h : Less st st') (hg : Good E p S0 w0 st a w) : Good E p S0 w0 st' a w := by
 obtain ⟨κ, hrel, hl⟩ := hg
 obtain ⟨sl, ids, lts, mem, own, ps, nid, A, K⟩ := st'
 obtain ⟨r1, r2, r3, r4, r5, r6⟩ := h.rest
 simp only at r1 r2 r3 r4 r5 r6
 subst r1 r2 r3 r4 r5 r6
 refine ⟨κ, ⟨hrel.size, hrel.defers, ⟨hrel.inp.zero, ?_, ?_, ?_, hrel.inp.lts, hrel.inp.pos, ?_, ?_, ?_⟩, hrel.wt, hrel.inj, hrel.ps, ?_, hrel.ownlt, hrel.pin, hrel.fr⟩, ⟨hl.lt⟩⟩
 · intro t v hv
   rcases h.sl t v hv with rfl | h1
   · trivial
   · exact hrel.inp.slots t v h1
 · intro q t l hq
   exact hrel.inp.mem q t l (h.mem q _ hq)
 · intro x b hb
   exact hrel.inp.bd x b (h.ids x b hb)
 · intro t v hv m
   rcases h.sl t v hv with rfl | h1
   · trivial
   · exact hrel.inp.offS t v h1 m
 · intro q t l hq
   exact hrel.inp.offM q t l (h.mem q _ hq)
 · intro x b hb
   exact hrel.inp.offB x b (h.ids x b hb)
 · intro q x hq
   exact hrel.mps q x (h.mem q x hq)
def dropA : List (Nat × AV) → List (Nat × AV)
 | [] => []
 | (t, .one c) :: r => (t, .one c) :: dropA r
 | (t, _) :: r => (t, .ud) :: dropA r
def cl1 (s : St) : St := ⟨dropA s.sl, s.ids, s.lts, s.mem, s.own, s.ps, s.nid, s.A, s.K⟩
theorem look_dropA {t : Nat} {v : AV} : ∀ {l : List (Nat × AV)}, Sx.look (dropA l) t = some v → v = .ud ∨ Sx.look l t = some v
 | [], h => by simp [dropA, Sx.look] at h
 | (t', v') :: l, h => by
  cases v' <;> simp only [dropA, look_cons] at h ⊢ <;> split at h
  all_goals first
   | (rename_i ht; rw [if_pos ht]; simp only [Option.some.injEq] at h; subst h; first | exact .inl rfl | exact .inr rfl)
   | (rename_i ht; rw [if_neg ht]; exact look_dropA h)
theorem cl1_ok : ClOk cl1 := fun _ _ _ _ s _ _ hg => Less.good ⟨fun t v hv => look_dropA hv, fun _ _ h => h, fun _ _ h => h, rfl, rfl, rfl, rfl, rfl, rfl⟩ hg
def onceL {α : Type} (f : Nat → α → Bool) : Nat → List (Nat × α) → List (Nat × α)
 | _, [] => []
 | seen, (t, v) :: r => match Nat.testBit seen t with
  | true => onceL f seen r
  | false => match f t v with
   | true => (t, v) :: onceL f (seen ||| 2 ^ t) r
   | false => onceL f (seen ||| 2 ^ t) r
theorem testBit_or_pow (n t s : Nat) : Nat.testBit (n ||| 2 ^ t) s = (Nat.testBit n s || decide (t = s)) := by
 rw [Nat.testBit_or, Nat.testBit_two_pow]
theorem look_onceL {α : Type} {f : Nat → α → Bool} {t : Nat} {v : α} : ∀ {l : List (Nat × α)} {seen : Nat}, Sx.look (onceL f seen l) t = some v → Nat.testBit seen t = false ∧ Sx.look l t = some v
 | [], _, h => by simp [onceL, Sx.look] at h
 | (t', v') :: l, seen, h => by
  simp only [onceL] at h
  rw [look_cons]
  split at h
  · rename_i hs
    obtain ⟨h1, h2⟩ := look_onceL h
    exact ⟨h1, by rw [if_neg (fun hh : t' = t => by rw [hh, h1] at hs; cases hs)]; exact h2⟩
  · rename_i hs
    have hs : Nat.testBit seen t' = false := by simpa using hs
    split at h
    · rw [look_cons] at h
      split at h
      · rename_i ht
        simp only [Option.some.injEq] at h
        subst h ht
        exact ⟨hs, by rw [if_pos rfl]⟩
      · rename_i ht
        obtain ⟨h1, h2⟩ := look_onceL h
        rw [testBit_or_pow] at h1
        simp only [Bool.or_eq_false_iff] at h1
        exact ⟨h1.1, by rw [if_neg ht]; exact h2⟩
    · obtain ⟨h1, h2⟩ := look_onceL h
      rw [testBit_or_pow] at h1
      simp only [Bool.or_eq_false_iff, decide_eq_false_iff_not] at h1
      exact ⟨h1.1, by rw [if_neg h1.2]; exact h2⟩
def isOne : AV → Bool
 | .one _ => true
 | _ => false
def nmC : AC → Nat → Nat
 | .int _ i _, s => s ||| 2 ^ i
 | .bool (.cmp _ i _ j _), s => s ||| 2 ^ i ||| 2 ^ j
 | .slc _ i _, s => s ||| 2 ^ i
 | .ptr _ q _, s => s ||| 2 ^ q
 | _, s => s
def nmL : List AC → Nat → Nat
 | [], s => s
 | c :: l, s => nmL l (nmC c s)
def nmS : List (Nat × AV) → Nat → Nat
 | [], s => s
 | (_, .one c) :: l, s => nmS l (nmC c s)
 | _ :: l, s => nmS l s
def nmM : List (Nat × TypeId × List AC) → Nat → Nat
 | [], s => s
 | (_, _, c) :: l, s => nmM l (nmL c s)
def cl2 (s : St) : St :=
 frcL (frcP frcN frcV) (onceL (fun _ v => isOne v) 0 s.sl) fun sl => frcN (nmS sl 0) fun nm => frcL (frcP frcN (frcP frcN (frcL frcC))) (onceL (fun q _ => Nat.testBit nm q) 0 s.mem) fun mem => frcN (nmM mem nm) fun nm =>
  ⟨sl, onceL (fun x _ => Nat.testBit nm x) 0 s.ids, s.lts, mem, s.own, s.ps, s.nid, s.A, s.K⟩
theorem cl2_ok : ClOk cl2 := by
 intro E p S0 w0 s a w hg
 have : cl2 s = ⟨onceL (fun _ v => isOne v) 0 s.sl, onceL (fun x _ => Nat.testBit (nmM (onceL (fun q _ => Nat.testBit (nmS (onceL (fun _ v => isOne v) 0 s.sl) 0) q) 0 s.mem) (nmS (onceL (fun _ v => isOne v) 0 s.sl) 0)) x) 0 s.ids, s.lts, onceL (fun q _ => Nat.testBit (nmS (onceL (fun _ v => isOne v) 0 s.sl) 0) q) 0 s.mem, s.own, s.ps, s.nid, s.A, s.K⟩ := by
  unfold cl2
  rw [frcL_eq (frcP_eq frcN_eq frcV_eq), frcN_eq, frcL_eq (frcP_eq frcN_eq (frcP_eq frcN_eq (frcL_eq frcC_eq))), frcN_eq]
 rw [this]
 exact Less.good ⟨fun t v hv => .inr (look_onceL hv).2, fun _ _ h => (look_onceL h).2, fun _ _ h => (look_onceL h).2, rfl, rfl, rfl, rfl, rfl, rfl⟩ hg
def mapR (f : St → St) : Rs → Rs
 | [] => []
 | (e, s) :: r => (e, f s) :: mapR f r
theorem mapR_ok {sq : Rs → Rs} {f : St → St} (hsq : SqOk sq) (hf : ClOk f) : SqOk fun rs => sq (mapR f rs) := by
 intro E p S0 w0 rs ex s a w hm hg
 refine hsq E p S0 w0 _ ex (f s) a w ?_ (hf _ _ _ _ _ _ _ hg)
 induction rs with
 | nil => simp at hm
 | cons x r ih =>
  obtain ⟨e, s'⟩ := x
  rcases List.mem_cons.1 hm with hm | hm
  · simp only [Prod.mk.injEq] at hm
    obtain ⟨rfl, rfl⟩ := hm
    simp [mapR]
  · simp only [mapR]
    exact List.mem_cons_of_mem _ (ih hm)
end
end Go.Ty
