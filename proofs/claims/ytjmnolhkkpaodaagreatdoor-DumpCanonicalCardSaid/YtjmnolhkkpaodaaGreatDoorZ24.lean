/- A part of the proof: the reference is safe, both packages write and read alike. Several texts in one; printed by slim28.py out of the texts of wip. -/
import Derived.Test.YtjmnolhkkpaodaaGreatDoorZ23
set_option linter.all false
namespace Go.Sx
open Go Go.RowKit
section
variable {P : Program} {G : List (Nat × Spec)} {all : Array Oper} {nt : Nat} {bs : SL} {bm : Mem} {W w0 : World} {X : Nat → Prop}
theorem dops_cut (hG : GOk W P G) {L : List Oper} (hL : ∀ (i : Nat) (o : Oper), L[i]? = some o → all.toList[i]? = some o) : ∀ (n : Nat) (_ : ∀ k, k < n → Sound W P G k) (rest : List Oper) (i : Nat) (tr : List Entry) (dec : List (Nat × Bool)) (s : SL) (m : Mem) (lf : Leaf),
  (run P W G n (.dops all rest i tr dec) ⟨nt, bs, bm⟩ s m).get = some lf → lf.2.1.val = true → rest = L.drop i → tr.length = i → i ≤ L.length → TInv W P all nt bs bm tr s m → DecOk dec (s ++ bs) →
  ∃ tr', lf.1 = .nrm ∧ tr'.length = L.length ∧ TInv W P all nt bs bm tr' lf.2.2.1 lf.2.2.2 ∧ indep all (ancs all.toList []) tr' = true := by
 intro n
 induction n with
 | zero => intro _ rest i tr dec s m lf h; simp [run, R.get] at h
 | succ n ih =>
  intro hS rest i tr dec s m lf h hvc hrest hlen hile hinv hdec
  simp only [run] at h
  split at h
  · -- the end
    split at h
    · rename_i hind
      simp only [R.get, Option.some.injEq] at h
      subst h
      refine ⟨tr, rfl, ?_, hinv, hind⟩
      have : (L.drop i).length = 0 := by rw [← hrest]; rfl
      simp at this
      omega
    · simp [R.get] at h
  · rename_i o r
    obtain ⟨ho0, hr⟩ := drop_cons hrest
    have ho := hL i o ho0
    have hlt : i < L.length := (List.getElem?_eq_some_iff.1 ho0).1
    have ho' : all[i]? = some o := by rw [← Array.getElem?_toList]; exact ho
    split at h
    · simp [R.get] at h
    rename_i hdst
    have next : ∀ (x : Entry) (s' : SL) (m' : Mem), x.ix = i → x.o = o → (∀ t v, look x.ins t = some v → (look (s ++ bs) t = some v ∧ t ∈ o.looksAt all)) → (∀ b p v, findC x.rd b p = some v → (m.on bm).get b p = some v) →
      (∀ b j, look x.kn b = some j → look (m.on bm).blks b = some j) → Acts W P all x → (x.lays = true → x.nid = m.next ∧ ltS m.next (s ++ bs) = true ∧ ltM m.next (m.on bm) = true ∧ m.next < m'.next ∧ ∀ p ∈ gB x, allB (SV.lt x.nid) p.2.init = true) →
      s' = gS x ++ s → m'.cells = gC x ++ m.cells → m'.blks = gB x ++ m.blks → m.next ≤ m'.next → TInv W P all nt bs bm (x :: tr) s' m' := by
     intro x s' m' hix hxo hins hrd hkn hact hlays hs hc hb hn
     refine ⟨⟨⟨?_, ?_, ?_, ?_, ?_, ?_, ?_, hact, ?_⟩, hinv.rec_⟩, ?_, ?_, ?_, Nat.le_trans hinv.next hn, ?_⟩
     · rw [hix, hlen]
     · rw [hix, hxo]; exact ho'
     · rw [hxo]; exact hdst
     · intro t v hv; rw [← hinv.slots]; exact (hins t v hv).1
     · intro b p v hv; rw [memT_get hinv.cells hinv.blks]; exact hrd b p v hv
     · intro b j hj; rw [← hinv.blks]; exact hkn b j hj
     · intro t v hv; rw [hxo]; exact (hins t v hv).2
     · intro hl
       obtain ⟨h1, h2, h3, _, h5⟩ := hlays hl
       refine ⟨by rw [h1]; exact hinv.next, ?_, ?_, h5⟩
       · rw [h1]; exact allB_append h2
       · rw [h1]
         simp only [ltM, Mem.on, Bool.and_eq_true] at h3 ⊢
         exact ⟨allB_append h3.1, allB_append h3.2⟩
     · rw [hs]; simp only [stL, tt, if_true, List.append_assoc]; rw [hinv.slots]
     · rw [hc]; simp only [stL, tt, if_true, List.append_assoc]; rw [hinv.cells]
     · rw [hb]; simp only [stL, tt, if_true, List.append_assoc]; rw [hinv.blks]
     · intro y hy hl
       rcases List.mem_cons.1 hy with rfl | hy
       · obtain ⟨h1, _, _, h4, _⟩ := hlays hl; omega
       · have := hinv.lays y hy hl; omega
    have hdec' : ∀ v, DecOk (dropDec o.dst dec) (putS o.dst v s ++ bs) := by
     intro v d u hd
     obtain ⟨h1, h2⟩ := look_dropDec hd
     obtain ⟨b, h3, h4⟩ := hdec d u h1
     refine ⟨b, ?_, h4⟩
     cases hod : o.dst with
     | none => exact h3
     | some k =>
      simp only [putS, List.cons_append, look_cons]
      rw [if_neg (by rintro rfl; exact h2 hod)]
      exact h3
    have hins0 : ∀ t v, look (collectS (Cf.S ⟨nt, bs, bm⟩ s) (o.looksAt all)) t = some v → (look (s ++ bs) t = some v ∧ t ∈ o.looksAt all) := by
     intro t v hv
     rw [look_collectS] at hv
     split at hv
     · rename_i ht; exact ⟨hv, ht⟩
     · contradiction
    have passed : (∀ f a, SRel f (look (collectS (Cf.S ⟨nt, bs, bm⟩ s) (o.looksAt all))) a → Region.wanted o (yielded all a.tmps) = false) →
      (run P W G n (.dops all r (i + 1) (⟨i, o, collectS (Cf.S ⟨nt, bs, bm⟩ s) (o.looksAt all), [], [], none, m.next⟩ :: tr) (dropDec o.dst dec)) ⟨nt, bs, bm⟩ (putS o.dst .ud s) m).get = some lf →
      ∃ tr', lf.1 = .nrm ∧ tr'.length = L.length ∧ TInv W P all nt bs bm tr' lf.2.2.1 lf.2.2.2 ∧ indep all (ancs all.toList []) tr' = true := by
     intro hw hh
     refine ih (fun k hk => hS k (by omega)) r (i + 1) _ _ _ _ lf hh hvc hr (by simp [hlen]) (by omega) ?_ (hdec' .ud)
     refine next _ _ _ rfl rfl hins0 (by intro b p v hv; simp [findC] at hv) (by intro b j hj; simp [look] at hj) hw (by intro hl; simp [Entry.lays] at hl) ?_ ?_ ?_ (Nat.le_refl _)
     · exact gS_append o .ud s _ rfl rfl
     · rfl
     · rfl
    have carried : (∀ f a, SRel f (look (collectS (Cf.S ⟨nt, bs, bm⟩ s) (o.looksAt all))) a → Region.wanted o (yielded all a.tmps) = true) →
      (match dstep P W G (fun g args => ((run P W G n (.fn g args) ⟨0, [], ⟨[], [], 0⟩⟩ [] ⟨[], [], 0⟩).collapse [] ⟨[], [], 0⟩).toPR) all o (Cf.S ⟨nt, bs, bm⟩ s) (Cf.M ⟨nt, bs, bm⟩ m) with
       | (ins, rd, kn, pr) => (prune dec o pr).onEff fun e => match newOk (s ++ bs) (m.on bm) e with
        | true => run P W G n (.dops all r (i + 1) (⟨i, o, ins, rd, kn, some e, m.next⟩ :: tr) (dropDec o.dst dec)) ⟨nt, bs, bm⟩ (putS o.dst e.val s) (putM e m)
        | false => .fail).get = some lf →
      ∃ tr', lf.1 = .nrm ∧ tr'.length = L.length ∧ TInv W P all nt bs bm tr' lf.2.2.1 lf.2.2.2 ∧ indep all (ancs all.toList []) tr' = true := by
     intro hw hh
     generalize hds : dstep P W G (fun g args => ((run P W G n (.fn g args) ⟨0, [], ⟨[], [], 0⟩⟩ [] ⟨[], [], 0⟩).collapse [] ⟨[], [], 0⟩).toPR) all o (Cf.S ⟨nt, bs, bm⟩ s) (Cf.M ⟨nt, bs, bm⟩ m) = q at hh
     obtain ⟨ins, rd, kn, pr⟩ := q
     simp only [PR.get_onEff, prune_get hdec hds] at hh
     split at hh <;> try contradiction
     rename_i e he
     split at hh <;> try contradiction
     rename_i ex v s1 m1 h1
     simp only [Option.some.injEq] at hh
     subst hh
     simp only [SB.and_val, Bool.and_eq_true] at hvc
     split at h1 <;> try (simp [R.get] at h1)
     rename_i hnew
     obtain ⟨hi1, hi2, hi3, hi4⟩ := dstep_acts hG (pureF_of hG (hS n (Nat.lt_succ_self n))) hds he hvc.1
     subst hi1
     have := ih (fun k hk => hS k (by omega)) r (i + 1) _ _ _ _ (ex, v, s1, m1) h1 hvc.2 hr (by simp [hlen]) (by omega) (next ⟨i, o, collectS (Cf.S ⟨nt, bs, bm⟩ s) (o.looksAt all), rd, kn, some e, m.next⟩ (putS o.dst e.val s) (putM e m)
      rfl rfl hins0 hi2 hi3 ⟨hw, newOk_ws hnew, hi4⟩ ?_ ?_ ?_ ?_ ?_) (hdec' e.val)
     · exact this
     · intro hl
       have hnb : e.nb ≠ none := by
        intro h0
        simp [Entry.lays, h0] at hl
       obtain ⟨h2, h3⟩ := newOk_lt hnew hnb
       refine ⟨rfl, h2, h3, ?_, ?_⟩
       · cases hh : e.nb with
         | none => exact absurd hh hnb
         | some p => obtain ⟨t, l⟩ := p; simp [putM, hh]
       · exact newOk_init hnew rfl rfl
     · exact gS_append o e.val s _ rfl rfl
     · cases hh : e.nb with
       | none => simp [putM, hh, gC]
       | some p => obtain ⟨t, l⟩ := p; simp [putM, hh, gC]
     · cases hh : e.nb with
       | none => simp [putM, hh, gB]
       | some p => obtain ⟨t, l⟩ := p; simp [putM, hh, gB]
     · cases hh : e.nb with
       | none => simp [putM, hh]
       | some p => obtain ⟨t, l⟩ := p; simp [putM, hh]
    split at h
    · simp [R.get] at h
    · rename_i hgd
      exact passed (fun f a hS => guard_no hS (by rw [guardS_collect]; exact hgd)) h
    · rename_i hgd
      exact carried (fun f a hS => guard_yes hS (by rw [guardS_collect]; exact hgd)) h
    · rename_i d b want hgd
      have hwant : ∀ f a, SRel f (look (collectS (Cf.S ⟨nt, bs, bm⟩ s) (o.looksAt all))) a → Region.wanted o (yielded all a.tmps) = (b == want) :=
       fun f a hS => wanted_ask hS (by rw [guardS_collect]; exact hgd)
      obtain ⟨hSd, _⟩ := guard_ask hgd
      split at h
      · rename_i v hv
        obtain ⟨b', hb1, hb2⟩ := hdec d v hv
        have hbb : b' = b := by
         have : look (s ++ bs) d = some (.one (.bool (.sym b))) := hSd
         rw [this] at hb1
         simp only [Option.some.injEq, TV.one.injEq, SV.bool.injEq, SB.sym.injEq] at hb1
         exact hb1.symm
        subst hbb
        subst hb2
        split at h
        · rename_i hvw
          exact carried (fun f a hS => by rw [hwant f a hS]; exact hvw) h
        · rename_i hvw
          exact passed (fun f a hS => by rw [hwant f a hS]; exact hvw) h
      · simp only [R.get] at h
        have dec2 : ∀ v, b = v → DecOk ((d, v) :: dec) (s ++ bs) := by
         intro v hv d' u hd
         rw [look_cons] at hd
         split at hd
         · rename_i hdd
           subst hdd
           simp only [Option.some.injEq] at hd
           subst hd
           exact ⟨b, hSd, hv⟩
         · exact hdec d' u hd
        cases b
        · exact ih (fun k hk => hS k (by omega)) _ _ _ _ _ _ lf h hvc hrest hlen hile hinv (dec2 false rfl)
        · exact ih (fun k hk => hS k (by omega)) _ _ _ _ _ _ lf h hvc hrest hlen hile hinv (dec2 true rfl)
theorem any_cut {tr : List Entry} {N K : Nat} (hK : K ≤ all.size) (hanc : ∀ i, K ≤ i → i < all.size → ∀ j, j < K → j ∈ nthL (ancs all.toList []) i) (hrec : TRec W P all nt bs bm tr) (hlen : tr.length = K) (hind : indep all (ancs all.toList []) tr = true) (hlays : ∀ x ∈ tr, x.lays = true → x.nid < N) (hedges : edgesOk all.toList 0 = true)
  {Q : Exit → Act → World → Prop} {f0 : Nat → Nat} (hQ : ∀ f a w (listed : Array Bool), listed.size = all.size → (∀ i, i < K → listed.getD i true = true) → (∀ i, K ≤ i → i < all.size → listed.getD i true = false) → Inv W w0 X nt bs bm tr N tt f a w → Ext bm.next f0 f → wpAny P .any all Q (all.size - K) listed a w) :
  ∀ (fuel : Nat) (U : List Nat) (listed : Array Bool) (f : Nat → Nat) (a : Act) (w : World), U.length = fuel → U.Nodup → listed.size = all.size → (∀ i, i < K → (listed.getD i true = false ↔ i ∈ U)) → (∀ i, K ≤ i → i < all.size → listed.getD i true = false) → (∀ i ∈ U, i < K) →
   Closed all (fun i => listed.getD i false) → Inv W w0 X nt bs bm tr N (fun i => listed.getD i false) f a w → Ext bm.next f0 f → wpAny P .any all Q (fuel + (all.size - K)) listed a w := by
 have done : ∀ (listed : Array Bool) (f : Nat → Nat) (a : Act) (w : World), listed.size = all.size → (∀ i, i < K → listed.getD i true = true) → (∀ i, K ≤ i → i < all.size → listed.getD i true = false) → Inv W w0 X nt bs bm tr N (fun i => listed.getD i false) f a w → Ext bm.next f0 f → wpAny P .any all Q (all.size - K) listed a w := by
  intro listed f a w hsz hall hrest hinv hext
  refine hQ f a w listed hsz hall hrest ?_ hext
  have hsel : ∀ x ∈ tr, (fun i => listed.getD i false) x.ix = tt x.ix := by
   intro x hx
   have h1 := TRec.ix_lt hrec x hx
   rw [hlen] at h1
   have h2 := hall x.ix h1
   simp only [tt]
   rw [Array.getD_eq_getD_getElem?] at h2 ⊢
   have : listed[x.ix]? = some listed[x.ix] := by simp [show x.ix < listed.size by omega]
   rw [this] at h2 ⊢
   simpa using h2
  have e1 : ∀ t, look (stL gS (fun i => listed.getD i false) tr bs) t = look (stL gS tt tr bs) t := fun t => stL_congr (lk := fun l => look l t) (g := gS) (lkS_append t) fun x hx _ => hsel x hx
  have e2 : ∀ b o, findC (stL gC (fun i => listed.getD i false) tr bm.cells) b o = findC (stL gC tt tr bm.cells) b o := fun b o => stL_congr (lk := fun l => findC l b o) (g := gC) (lkC_append b o) fun x hx _ => hsel x hx
  have e3 : ∀ b, look (stL gB (fun i => listed.getD i false) tr bm.blks) b = look (stL gB tt tr bm.blks) b := fun b => stL_congr (lk := fun l => look l b) (g := gB) (lkS_append b) fun x hx _ => hsel x hx
  refine ⟨hinv.size, hinv.defers, ?_, hinv.mem.congr ?_ ?_ (Nat.le_refl _), hinv.fr⟩
  · intro t v hv hne; rw [← e1] at hv; exact hinv.slots t v hv hne
  · intro b o; simp only [memT, Mem.get, e2, e3]
  · intro b; simp only [memT, e3]
 intro fuel
 induction fuel with
 | zero =>
  intro U listed f a w hU _ hsz hUl hUr _ _ hinv hext
  have hnil : U = [] := List.eq_nil_of_length_eq_zero hU
  subst hnil
  have hall : ∀ i, i < K → listed.getD i true = true := by
   intro i hi
   cases h : listed.getD i true with
   | true => rfl
   | false => have := (hUl i hi).1 h; simp at this
  rw [Nat.zero_add]
  exact done listed f a w hsz hall hUr hinv hext
 | succ fuel ih =>
  intro U listed f a w hU hnd hsz hUl hUr hUlt hcl hinv hext
  rw [Nat.add_right_comm]
  refine ⟨?_, ?_⟩
  · intro hempty
    exfalso
    have key : ∀ k, ∀ i, i < k → i < all.size → listed.getD i true = true := by
     intro k
     induction k with
     | zero => intro i hi; omega
     | succ k ihk =>
      intro i hi hia
      by_cases hik : i < k
      · exact ihk i hik hia
      · cases h : listed.getD i true with
        | true => rfl
        | false =>
         have hr : i ∈ Region.ready .any all listed := by
          refine ready_mem hia h ?_
          intro o ho e he hb
          have hlt := edgesOk_spec hedges i o (by rw [Array.getElem?_toList]; exact ho) e he hb
          have h2 := ihk e.on (by omega) (by omega)
          rw [Array.getD_eq_getD_getElem?] at h2 ⊢
          have : listed[e.on]? = some (listed[e.on]'(by omega)) := by simp [show e.on < listed.size by omega]
          rw [this] at h2 ⊢
          simpa using h2
         rw [hempty] at hr
         simp at hr
    obtain ⟨i, hi⟩ : ∃ i, i ∈ U := by
     cases U with
     | nil => simp at hU
     | cons x r => exact ⟨x, by simp⟩
    have h1 := hUlt i hi
    have h2 := (hUl i h1).2 hi
    rw [key (i + 1) i (Nat.lt_succ_self _) (by omega)] at h2
    cases h2
  · intro i hi
    obtain ⟨h1, h2, h3⟩ := mem_ready hi
    have hiK : i < K := by
     refine Nat.lt_of_not_le fun hge => ?_
     have hcl' : Closed all (fun j => listed.getD j false || j == i) := by
      intro i' o ho e he hb hs
      simp only [Bool.or_eq_true, beq_iff_eq] at hs ⊢
      rcases hs with hs | rfl
      · exact .inl (hcl i' o ho e he hb hs)
      · exact .inl (h3 o ho e he hb)
     obtain ⟨j, hj⟩ : ∃ j, j ∈ U := by
      cases U with
      | nil => simp at hU
      | cons x r => exact ⟨x, by simp⟩
     have h4 := hUlt j hj
     have h5 := ancs_ok hcl' all.toList [] rfl (by simp) (by intro i j hj; simp [nthL] at hj) i j (hanc i hge h1 j h4) (by simp)
     have h6 := (hUl j h4).2 hj
     simp only [Bool.or_eq_true, beq_iff_eq] at h5
     rcases h5 with h5 | h5
     · rw [Array.getD_eq_getD_getElem?] at h5 h6
       have : listed[j]? = some (listed[j]'(by omega)) := by simp [show j < listed.size by omega]
       rw [this] at h5 h6
       simp at h5 h6
       rw [h5] at h6
       cases h6
     · omega
    have hiU := (hUl i hiK).1 h2
    obtain ⟨l1, x, l2, htr, hxi, hxr, _, hnew, hold⟩ := TRec.split hrec i (by omega)
    subst hxi
    have hoff : listed.getD x.ix false = false := by
     rw [Array.getD_eq_getD_getElem?] at h2 ⊢
     have : listed[x.ix]? = some (listed[x.ix]'(by omega)) := by simp [show x.ix < listed.size by omega]
     rw [this] at h2 ⊢
     simpa using h2
    have hmom := moment_of (sel := fun i => listed.getD i false) hcl htr hind hoff h3 hold hnew
    refine order_step hmom hxr (hlays x (by rw [htr]; simp)) hinv ?_
    intro f' a' w' hinv' hext'
    have hset : ∀ j, (listed.setIfInBounds x.ix true).getD j false = (listed.getD j false || j == x.ix) := by
     intro j
     simp only [Array.getD_eq_getD_getElem?, Array.getElem?_setIfInBounds]
     by_cases hj : x.ix = j
     · subst hj; simp [show x.ix < listed.size by omega]
     · simp [hj, Ne.symm hj]
    have hfun : (fun j => (listed.setIfInBounds x.ix true).getD j false) = fun j => (listed.getD j false || j == x.ix) := funext hset
    refine ih (U.erase x.ix) _ f' a' w' (by rw [List.length_erase_of_mem hiU, hU]; rfl) (hnd.erase _) (by simpa using hsz) ?_ ?_ ?_ ?_ ?_ (hext.trans hext' (Nat.le_refl _))
    · intro j hj
      rw [hnd.mem_erase_iff, ← hUl j hj]
      simp only [Array.getD_eq_getD_getElem?, Array.getElem?_setIfInBounds]
      by_cases hjx : x.ix = j
      · subst hjx; simp [show x.ix < listed.size by omega]
      · simp [hjx, Ne.symm hjx]
    · intro j hj1 hj2
      simp only [Array.getD_eq_getD_getElem?, Array.getElem?_setIfInBounds]
      rw [if_neg (by omega), ← Array.getD_eq_getD_getElem?]
      exact hUr j hj1 hj2
    · intro j hj; exact hUlt j (List.mem_of_mem_erase hj)
    · rw [hfun]
      intro j o ho e he hb hs
      simp only [Bool.or_eq_true, beq_iff_eq] at hs ⊢
      rcases hs with hs | rfl
      · exact .inl (hcl j o ho e he hb hs)
      · exact .inl (h3 o ho e he hb)
    · rw [hfun]; exact hinv'
theorem any_tail {Q : Exit → Act → World → Prop} {K : Nat} (hch : ∀ i, K < i → i < all.size → ∃ o, all[i]? = some o ∧ ∃ e ∈ o.after.toList, Region.binds .any e = true ∧ e.on + 1 = i) (hedges : edgesOk all.toList 0 = true) :
  ∀ (n K' : Nat) (listed : Array Bool) (a : Act) (w : World), K ≤ K' → all.size - K' = n → listed.size = all.size → (∀ i, i < K' → listed.getD i true = true) → (∀ i, K' ≤ i → i < all.size → listed.getD i true = false) →
   wpList P all Q (all.toList.drop K') a w → wpAny P .any all Q n listed a w := by
 have getD_eq : ∀ (l : Array Bool) (j : Nat), j < l.size → l.getD j false = l.getD j true := by
  intro l j hj
  rw [Array.getD_eq_getD_getElem?, Array.getD_eq_getD_getElem?]
  have : l[j]? = some (l[j]'hj) := by simp [hj]
  rw [this]
  rfl
 intro n
 induction n with
 | zero =>
  intro K' listed a w _ hn hsz hl _ h
  have hdrop : all.toList.drop K' = [] := List.drop_eq_nil_of_le (by simp; omega)
  rw [hdrop] at h
  refine ⟨?_, h⟩
  rw [List.eq_nil_iff_forall_not_mem]
  intro i hi
  obtain ⟨h1, h2, _⟩ := mem_ready hi
  rw [hl i (by omega)] at h2
  cases h2
 | succ n ih =>
  intro K' listed a w hKK hn hsz hl hu h
  have hlt : K' < all.size := by omega
  have hready : K' ∈ Region.ready .any all listed := by
   refine ready_mem hlt (hu K' (Nat.le_refl _) hlt) ?_
   intro o ho e he hb
   have h1 := edgesOk_spec hedges K' o (by rw [Array.getElem?_toList]; exact ho) e he hb
   rw [getD_eq listed e.on (by omega)]
   exact hl e.on (by omega)
  refine ⟨fun hempty => by rw [hempty] at hready; simp at hready, ?_⟩
  intro i hi
  obtain ⟨h1, h2, h3⟩ := mem_ready hi
  have hge : K' ≤ i := by
   refine Nat.le_of_not_lt fun hh => ?_
   rw [hl i hh] at h2
   cases h2
  have hiK : i = K' := by
   refine Nat.le_antisymm (Nat.le_of_not_lt fun hh => ?_) hge
   obtain ⟨o, ho, e, he, hb, hon⟩ := hch i (by omega) h1
   have h4 := h3 o ho e he hb
   rw [getD_eq listed e.on (by omega), hu e.on (by omega) (by omega)] at h4
   cases h4
  subst hiK
  have ho : all[i]? = some all[i] := by simp [hlt]
  have hdrop : all.toList.drop i = all[i] :: all.toList.drop (i + 1) := by
   rw [List.drop_eq_getElem_cons (by simpa using hlt)]
   simp
  rw [hdrop] at h
  have hstep : ∀ a' w', wpList P all Q (all.toList.drop (i + 1)) a' w' → wpAny P .any all Q n (listed.setIfInBounds i true) a' w' := by
   intro a' w' h'
   refine ih (i + 1) _ a' w' (by omega) (by omega) (by simpa using hsz) ?_ ?_ h'
   · intro j hj
     simp only [Array.getD_eq_getD_getElem?, Array.getElem?_setIfInBounds]
     by_cases hji : i = j
     · subst hji; simp [show i < listed.size by omega]
     · rw [if_neg hji, ← Array.getD_eq_getD_getElem?]
       exact hl j (by omega)
   · intro j hj1 hj2
     simp only [Array.getD_eq_getD_getElem?, Array.getElem?_setIfInBounds]
     rw [if_neg (by omega), ← Array.getD_eq_getD_getElem?]
     exact hu j (by omega) hj2
  unfold wpOp
  simp only [ho]
  simp only [wpList] at h
  split
  · rename_i hw
    rw [if_pos hw] at h
    exact h.imp (Oper.wp_mono hstep) id
  · rename_i hw
    rw [if_neg hw] at h
    exact hstep _ _ h
def tailB (all : Array Oper) (K : Nat) : Bool := allB (fun i => match all[K + 1 + i]? with
 | some o => anyB (fun e => Region.binds .any e && Nat.beq (e.on + 1) (K + 1 + i)) o.after.toList
 | none => false) (List.range (all.size - (K + 1)))
def waitsB (all : Array Oper) (K : Nat) : Bool := allB (fun i => allB (fun j => memN j (nthL (ancs all.toList []) (K + i))) (List.range K)) (List.range (all.size - K))
def cutOk (all : Array Oper) (K : Nat) : Bool := Nat.ble K all.size && edgesOk all.toList 0 && (tailB all K && waitsB all K)
theorem draw_cut (hG : GOk W P G) {n : Nat} {id : Nat} {ops : Array Oper} {K : Nat} (hcut : cutOk ops K = true) (hfol : P.follows .mixedOrders = true) {f : Nat → Nat} {a : Act} {w : World}
  (hg : (run P W G n (.dops ops (ops.toList.take K) 0 [] []) ⟨nt, bs, bm⟩ [] bm.fresh).good) (hrel : Rel W w0 X nt bs bm f a w) {Q : Exit → Act → World → Prop}
  (hQ : ∀ a' w', Post W w0 X nt bs bm f bm.next (run P W G n (.dops ops (ops.toList.take K) 0 [] []) ⟨nt, bs, bm⟩ [] bm.fresh) .normal a' w' → wpList P ops Q (ops.toList.drop K) a' w') : (Code.region id ops true).wp P Q a w := by
 unfold cutOk at hcut
 simp only [Bool.and_eq_true, Nat.ble_eq] at hcut
 obtain ⟨⟨hK, hedges⟩, htail, hwait⟩ := hcut
 have hch : ∀ i, K < i → i < ops.size → ∃ o, ops[i]? = some o ∧ ∃ e ∈ o.after.toList, Region.binds .any e = true ∧ e.on + 1 = i := by
  intro i h1 h2
  have := allB_iff htail (i - (K + 1)) (by simp; omega)
  rw [show K + 1 + (i - (K + 1)) = i by omega] at this
  split at this
  · rename_i o ho
    obtain ⟨e, he, h3⟩ := anyB_iff.1 this
    rw [Bool.and_eq_true, Nat.beq_eq] at h3
    exact ⟨o, ho, e, he, h3.1, h3.2⟩
  · cases this
 have hanc : ∀ i, K ≤ i → i < ops.size → ∀ j, j < K → j ∈ nthL (ancs ops.toList []) i := by
  intro i h1 h2 j hj
  have h3 := allB_iff hwait (i - K) (by simp; omega)
  have h4 := allB_iff h3 j (by simpa using hj)
  rw [show K + (i - K) = i by omega] at h4
  exact memN_iff.1 h4
 obtain ⟨ex, v, s, m, hget, hv⟩ := hg
 have hinv0 : TInv W P ops nt bs bm [] [] bm.fresh := ⟨trivial, rfl, rfl, rfl, Nat.le_refl _, by simp⟩
 obtain ⟨tr, hex, hlen, hinv, hind⟩ := dops_cut hG (L := ops.toList.take K) (fun i o ho => by
  rw [List.getElem?_take] at ho
  split at ho
  · exact ho
  · cases ho) n (fun k _ => sound hG (fun n hS => draw_sound hG n hS) k) (ops.toList.take K) 0 [] [] [] bm.fresh (ex, v, s, m) hget hv rfl rfl (Nat.zero_le _) hinv0 (by intro d u hd; simp [look] at hd)
 simp only at hex hinv
 subst hex
 have hlen' : tr.length = K := by rw [hlen, List.length_take, Array.length_toList]; omega
 refine wp_region_any hfol ?_
 have hstart : Inv W w0 X nt bs bm tr m.next (fun i => (Array.replicate ops.size false).getD i false) f a { w with drawn := w.drawn + 1 } := by
  have hsel : ∀ i, (Array.replicate ops.size false).getD i false = false := by
   intro i
   simp only [Array.getD_eq_getD_getElem?, Array.getElem?_replicate]
   split <;> rfl
  have hfun : (fun i => (Array.replicate ops.size false).getD i false) = fun _ => false := funext hsel
  have hnil : ∀ {α : Type} (g : Entry → List α) (b : List α) (l : List Entry), stL g (fun _ => false) l b = b := by
   intro α g b l
   induction l with
   | nil => rfl
   | cons x r ih => simp [stL, ih]
  rw [hfun]
  have hsame : ∀ i, i < w.heap.size → ({ w with drawn := w.drawn + 1 } : World).heap[i]? = w.heap[i]? := fun _ _ => rfl
  refine ⟨hrel.size, hrel.defers, by rw [hnil]; exact hrel.slots, ?_, hrel.fr.keep rfl rfl rfl (Nat.le_refl _) hsame⟩
  refine (hrel.mem.same hsame).congr ?_ ?_ hinv.next
  · intro b o; simp only [memT, hnil]; rfl
  · intro b; simp only [memT, hnil]
 have hany := any_cut (P := P) (Q := Q) (f0 := f) (w0 := w0) (X := X) (N := m.next) hK hanc hinv.rec_ hlen' hind hinv.lays hedges ?_ K (List.range K) (Array.replicate ops.size false) f a { w with drawn := w.drawn + 1 } (by simp) List.nodup_range (by simp) ?_ ?_ (by simp) ?_ hstart (.refl _ _)
 · rw [show K + (ops.size - K) = ops.size by omega] at hany
   exact hany
 · intro f1 a1 w1 listed hsz hl hu hi hext
   refine any_tail hch hedges (ops.size - K) K listed a1 w1 (Nat.le_refl _) rfl hsz hl hu (hQ a1 w1 ⟨.nrm, v, s, m, f1, hget, rfl, ?_, hext, hinv.next⟩)
   refine ⟨hi.size, hi.defers, by rw [hinv.slots]; exact hi.slots, ?_, hi.fr⟩
   refine hi.mem.congr ?_ ?_ (Nat.le_refl _)
   · intro b o; rw [← memT_get hinv.cells hinv.blks m.next]
   · intro b; simp only [Mem.on, memT, hinv.blks]
 · intro i hi
   simp [Array.getD_eq_getD_getElem?, show i < ops.size by omega, hi]
 · intro i _ hi
   simp [Array.getD_eq_getD_getElem?, hi]
 · intro i o _ e _ _ hs
   simp only [Array.getD_eq_getD_getElem?, Array.getElem?_replicate] at hs
   split at hs <;> simp at hs
end
end Go.Sx
