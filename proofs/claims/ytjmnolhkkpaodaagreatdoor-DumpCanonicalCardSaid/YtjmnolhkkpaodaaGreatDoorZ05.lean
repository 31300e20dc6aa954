/- A part of the proof: the reference is safe, both packages write and read alike. Several texts in one; printed by slim28.py out of the texts of wip. -/
import Derived.Test.YtjmnolhkkpaodaaGreatDoorZ04
import Derived.Below
set_option linter.all false
namespace Go.Sx
open Go Go.RowKit
section
variable {W w0 : World} {X : Nat → Prop} {f : Nat → Nat} {P : Program} {G : List (Nat × Spec)}
theorem toPart_den {v : TV} {p : Part} (h : v.toPart = some p) : partDen f p = v.den f ∧ v ≠ .un := by
 cases v with
 | un => simp [TV.toPart] at h
 | ud => simp [TV.toPart] at h
 | one s => simp [TV.toPart] at h; subst h; exact ⟨rfl, by simp⟩
 | agg l => simp [TV.toPart] at h; subst h; exact ⟨rfl, by simp⟩
 | tup _ => simp [TV.toPart] at h
def oneResult (tmps : Array Value) : ResultVar → Sem Value
 | .tmp t => pure (tmps.getD t undef)
 | .cell a t => do loadVar t (← asAddr (tmps.getD a undef))
theorem resultsS_run {a : Act} {w : World} {S : Nat → Option TV} {M : Mem} (hS : SRel f S a) (hC : CRel f M.get w) : ∀ {rs : List ResultVar} {ps : List Part}, resultsS P S M rs = some ps →
  (rs.mapM (oneResult a.tmps)).run P w = .ok (ps.map (partDen f)) w
 | [], ps, h => by simp [resultsS] at h; subst h; simp
 | .tmp t :: rs, ps, h => by
  simp only [resultsS] at h
  split at h <;> try contradiction
  rename_i v hv
  split at h <;> try contradiction
  rename_i p hp
  split at h <;> try contradiction
  rename_i l hl
  simp only [Option.some.injEq] at h
  subst h
  obtain ⟨h1, h2⟩ := toPart_den (f := f) hp
  have h3 := hS t v hv h2
  have h4 := resultsS_run hS hC hl
  simp only [List.mapM_cons, Sem.run_bind, oneResult, Sem.run_pure, Result.andThen_ok, h4, h3, List.map_cons, h1]
 | .cell x t :: rs, ps, h => by
  simp only [resultsS] at h
  split at h <;> try contradiction
  rename_i b off hx
  have h3 := hS x _ hx (by simp)
  simp only [TV.den, SV.den] at h3
  split at h <;> try contradiction
  · rename_i hagg
    split at h <;> try contradiction
    rename_i n hn
    split at h <;> try contradiction
    rename_i l hl
    split at h <;> try contradiction
    rename_i q hq
    simp only [Option.some.injEq] at h
    subst h
    have h4 := resultsS_run hS hC hq
    simp only [List.mapM_cons, Sem.run_bind, oneResult, h3, asAddr, loadVar, Sem.run_pure, Result.andThen_ok, isAgg_run hagg, if_true, sizeOf_run hn, loadCells_run hC hl, h4, List.map_cons, partDen]
  · rename_i hagg
    split at h <;> try contradiction
    rename_i v hv
    split at h <;> try contradiction
    rename_i q hq
    simp only [Option.some.injEq] at h
    subst h
    have h4 := resultsS_run hS hC hq
    have hcell := hC b off v hv
    simp only [List.mapM_cons, Sem.run_bind, oneResult, h3, asAddr, loadVar, Sem.run_pure, Result.andThen_ok, isAgg_run hagg, Bool.false_eq_true, if_false, run_load, hcell, h4, List.map_cons, partDen]
def resultOf (vs : Array Value) : Value := if h : vs.size = 1 then vs[0] else .tuple vs
theorem results_eq (fn : Func) (tmps : Array Value) : results fn tmps = (fn.results.mapM (oneResult tmps) >>= fun vs => pure (resultOf vs)) := by
 unfold results
 have hx : (fun (x : ResultVar) => match x with
   | .tmp t => (pure (tmps.getD t undef) : Sem Value)
   | .cell a t => (asAddr (tmps.getD a undef) >>= fun x => loadVar t x)) = oneResult tmps := by
  funext x
  cases x <;> rfl
 exact congrArg (fun g => (fn.results.mapM g >>= fun vs => (pure (resultOf vs) : Sem Value))) hx
theorem results_run {fn : Func} {a : Act} {w : World} {S : Nat → Option TV} {M : Mem} (hS : SRel f S a) (hC : CRel f M.get w) {ps : List Part} (h : resultsS P S M fn.results.toList = some ps) {v : TV} (hv : resultV ps = some v) :
  (results fn a.tmps).run P w = .ok (v.den f) w ∧ v ≠ .un := by
 have h1 := resultsS_run (P := P) hS hC h
 have h2 : (fn.results.mapM (oneResult a.tmps)).run P w = .ok (ps.map (partDen f)).toArray w := by
  rw [Array.mapM_eq_mapM_toList]
  simp only [Sem.run_map, h1, Result.andThen_ok]
 rw [results_eq]
 simp only [Sem.run_bind, h2, Result.andThen_ok, Sem.run_pure]
 match ps, hv with
 | [], hv => simp [resultV] at hv; subst hv; exact ⟨rfl, by simp⟩
 | [p], hv =>
  simp only [resultV] at hv
  obtain ⟨h3, h4⟩ := ofPart_den hv f
  exact ⟨by simp [resultOf, h3], h4⟩
 | p :: q :: r, hv =>
  simp [resultV] at hv
  subst hv
  exact ⟨by simp [resultOf, TV.den], by simp⟩
theorem look_argSlots : ∀ (args : List TV) (i k : Nat), look (argSlots i args) k = if i ≤ k then args[k - i]? else none
 | [], i, k => by simp [argSlots, look]
 | v :: r, i, k => by
  simp only [argSlots, look_cons, look_argSlots r (i + 1) k]
  by_cases h1 : i = k
  · subst h1; simp
  · rw [if_neg h1]
    by_cases h2 : i ≤ k
    · rw [if_pos h2, if_pos (by omega)]
      have : k - i = (k - (i + 1)) + 1 := by omega
      rw [this]
      simp
    · rw [if_neg h2, if_neg (by omega)]
theorem fn_rel {args : List TV} {nt : Nat} (hle : args.length ≤ nt) {M : Mem} {w : World} (hm : MOk w0 X f M w) (hf : Fr W w0 X w) :
  Rel W w0 X nt (argSlots 0 args) M f { tmps := (args.map (TV.den f)).toArray ++ Array.replicate (nt - (args.map (TV.den f)).toArray.size) undef, defers := [] } w := by
 refine ⟨by simp; omega, rfl, ?_, hm, hf⟩
 intro t v hv hne
 rw [look_argSlots] at hv
 simp only [Nat.zero_le, if_true, Nat.sub_zero] at hv
 have ht : t < args.length := (List.getElem?_eq_some_iff.1 hv).1
 rw [Array.getD_eq_getD_getElem?, Array.getElem?_append_left (by simpa using ht)]
 simp [hv]
theorem sound_fn (hG : GOk W P G) {n : Nat} (ih : Sound W P G n) : ∀ (w0 : World) (X : Nat → Prop) (g : FuncId) (args : List TV) (B : Cf) (s : SL) (m : Mem) (f : Nat → Nat) (w : World), (run P W G (n + 1) (.fn g args) B s m).good → MOk w0 X f (m.on B.bm) w → Fr W w0 X w →
  Calls P g (args.map (TV.den f)).toArray w (FnPost W w0 X B.bm f m.next (run P W G (n + 1) (.fn g args) B s m)) := by
 intro w0 X g args B s m f w hg hm hf
 have nogood : ∀ {p : Prop}, R.fail.good → p := by
  rintro p ⟨_, _, _, _, h, _⟩
  simp [R.get] at h
 simp only [run] at hg ⊢
 split at hg
 · rename_i sp hsp
   split at hg
   · rename_i e he
     split at hg
     · rename_i hnb
       obtain ⟨_, _, _, _, h, hv⟩ := hg
       simp only [R.get, Option.some.injEq, Prod.mk.injEq] at h
       obtain ⟨rfl, rfl, rfl, rfl⟩ := h
       obtain ⟨hne, hws, hcalls⟩ := (hG g sp hsp).1.ok args _ _ e f w he hnb hv hm.cell hm.blk hf.old (hm.ownK hf)
       refine hcalls.mono ?_
       rintro en w1 ⟨rfl, hu⟩
       obtain ⟨h1, h2⟩ := hm.upd hf hws hu
       have hpm : putM e (m.on B.bm) = ⟨e.ws ++ (m.on B.bm).cells, (m.on B.bm).blks, (m.on B.bm).next⟩ := by simp [putM, hnb]
       refine ⟨e.val, _, _, _, f, rfl, hne, rfl, ?_, h2, .refl _ _, ?_⟩
       · rw [putM_on, hpm]; exact h1
       · simp [putM, hnb]
     · exact nogood hg
   · exact nogood hg
 · split at hg
   · rename_i fn hfn
     split at hg
     · rename_i c hc
       split at hg
       · exact nogood hg
       · rename_i hcond
         simp only [Bool.or_eq_false_iff, Bool.not_eq_false', Nat.ble_eq] at hcond
         obtain ⟨ex, v, s1, m1, hr, hv⟩ := hg
         have hr' := hr
         rw [R.get_results] at hr
         have hgood : (run P W G n (.code c) ⟨fn.ntmps, argSlots 0 args, B.bm⟩ [] m).good := by
          have leafvc : ∀ {vc s2 m2}, (resultLeaf P fn.results.toList (argSlots 0 args) B.bm vc s2 m2).get = some (ex, v, s1, m1) → vc = v := by
           intro vc s2 m2 h
           unfold resultLeaf at h
           split at h
           · split at h
             · simp only [R.get, Option.some.injEq, Prod.mk.injEq] at h
               exact h.2.1
             · simp [R.get] at h
           · simp [R.get] at h
          split at hr <;> try contradiction
          · rename_i c2 s2 m2 h2; exact ⟨_, _, _, _, h2, by rw [leafvc hr]; exact hv⟩
          · rename_i c2 s2 m2 h2; exact ⟨_, _, _, _, h2, by rw [leafvc hr]; exact hv⟩
         refine calls_of_wp hfn hc (wp_mono (ih.code w0 X c ⟨fn.ntmps, argSlots 0 args, B.bm⟩ [] m f _ w hgood (fn_rel (by simpa using hcond.2) hm hf)) ?_)
         rintro e a1 w1 ⟨ex2, v2, s2, m2, f2, hr2, hex, hrel, hext, hn⟩
         rw [hr2] at hr
         have fin : (resultLeaf P fn.results.toList (argSlots 0 args) B.bm v2 s2 m2).get = some (ex, v, s1, m1) → a1.defers = [] ∧ ∃ u, (results fn a1.tmps).run P w1 = .ok u w1 ∧
           FnPost W w0 X B.bm f m.next ((run P W G n (.code c) ⟨fn.ntmps, argSlots 0 args, B.bm⟩ [] m).results P fn.results.toList (argSlots 0 args) B.bm) (.returned u) w1 := by
          intro h
          unfold resultLeaf at h
          split at h
          · rename_i ps hps
            split at h
            · rename_i x hx
              simp only [R.get, Option.some.injEq, Prod.mk.injEq] at h
              obtain ⟨rfl, rfl, rfl, rfl⟩ := h
              obtain ⟨h1, h2⟩ := results_run (P := P) hrel.slots hrel.mem.cell hps hx
              exact ⟨hrel.defers, _, h1, x, _, _, _, f2, hr', h2, rfl, hrel.mem, hrel.fr, hext, hn⟩
            · simp [R.get] at h
          · simp [R.get] at h
         cases ex2 with
         | nrm => simp only [exOf, Option.some.injEq] at hex; subst hex; exact fin hr
         | ret => simp only [exOf, Option.some.injEq] at hex; subst hex; exact fin hr
         | exit i => simp at hr
         | res x => simp at hr
     · exact nogood hg
   · exact nogood hg
theorem sound_zero : Sound W P G 0 := by
 have nogood : ∀ {p : Prop}, R.fail.good → p := by
  rintro p ⟨_, _, _, _, h, _⟩
  simp [R.get] at h
 exact ⟨fun _ _ _ _ _ _ _ _ _ h => nogood h, fun _ _ _ _ _ _ _ _ _ h => nogood h, fun _ _ _ _ _ _ _ _ _ _ h => nogood h, fun _ _ _ _ _ _ _ _ _ h => nogood h⟩
theorem sound_upto (hG : GOk W P G) (hd : ∀ n, (∀ k, k < n → Sound W P G k) → DrawSound W P G n) : ∀ n k, k ≤ n → Sound W P G k
 | 0, k, hk => by
  obtain rfl : k = 0 := by omega
  exact sound_zero
 | n + 1, k, hk => by
  have ih := sound_upto hG hd n
  by_cases h : k ≤ n
  · exact ih k h
  · obtain rfl : k = n + 1 := by omega
    have h1 := ih n (Nat.le_refl _)
    exact ⟨sound_code (hd n fun k hk => ih k (by omega)) h1, sound_loop h1, sound_ops hG h1, sound_fn hG h1⟩
theorem sound (hG : GOk W P G) (hd : ∀ n, (∀ k, k < n → Sound W P G k) → DrawSound W P G n) (n : Nat) : Sound W P G n := sound_upto hG hd n n (Nat.le_refl _)
theorem val_get : ∀ {r : R} {v : TV}, r.val = some v → ∃ c s m, r.get = some (.res v, c, s, m) ∧ c.val = true
 | .fail, v, h => by simp [R.val] at h
 | .leaf e c s m, v, h => by
  cases e with
  | res x =>
   simp only [R.val] at h
   split at h
   · simp only [Option.some.injEq] at h; subst h; exact ⟨_, s, m, rfl, rfl⟩
   · contradiction
   · rename_i b
     cases b
     · simp at h
     · simp only [cond_true, Option.some.injEq] at h; subst h; exact ⟨_, s, m, rfl, rfl⟩
  | _ => simp [R.val] at h
 | .br b x y, v, h => by
  simp only [R.val] at h
  cases b
  · obtain ⟨c, s, m, h1, h2⟩ := val_get (r := y) h
    exact ⟨c, s, m, h1, h2⟩
  · obtain ⟨c, s, m, h1, h2⟩ := val_get (r := x) h
    exact ⟨c, s, m, h1, h2⟩
theorem eval_calls (hG : GOk W P G) (hd : ∀ n, (∀ k, k < n → Sound W P G k) → DrawSound W P G n) {g : FuncId} {args : List TV} {v : TV} (h : eval P W G g args = some v) (w : World) (hW : Old W w) :
  Calls P g (args.map (TV.den fun _ => 0)).toArray w fun en w' => (∃ f, en = .returned (v.den f)) ∧ Below w.heap.size w w' := by
 obtain ⟨c, s, m, h1, h2⟩ := val_get h
 have hk : BKnown (⟨[], [], 0⟩ : Mem) := by
  intro b o v hv
  simp [Mem.get, findC, look] at hv
 obtain ⟨⟨e5, v5, s5, m5⟩, h5, hL⟩ := R.collapse_get hk _ h1
 have hm : MOk w (fun _ => False) (fun _ => 0) ((⟨[], [], 0⟩ : Mem).on ⟨[], [], 0⟩) w := by
  refine ⟨?_, ?_, ?_, ?_, ?_, ?_⟩ <;> intro b <;> simp [Mem.on, look, Mem.get, findC]
 have hf : Fr W w (fun _ => False) w := ⟨rfl, rfl, rfl, Nat.le_refl _, fun _ _ _ => rfl, hW.base⟩
 refine ((sound hG hd 100000).fn w (fun _ => False) g args ⟨0, [], ⟨[], [], 0⟩⟩ [] ⟨[], [], 0⟩ (fun _ => 0) w ⟨_, _, _, _, h5, hL.2.1.symm.trans h2⟩ hm hf).mono ?_
 rintro en w1 ⟨x, v2, s2, m2, f2, hr, hne, rfl, hm2, hf2, _, _⟩
 rw [h5] at hr
 simp only [Option.some.injEq, Prod.mk.injEq] at hr
 obtain ⟨rfl, _⟩ := hr
 rcases hL.1 with ⟨_, hno⟩ | ⟨u, u', hu, hu', hd⟩
 · exact absurd rfl (hno x)
 · simp only at hu hu'
   injection hu with hu
   injection hu' with hu'
   subst hu hu'
   obtain ⟨_, hden⟩ := hd f2 hne
   exact ⟨⟨f2, by rw [hden]⟩, ⟨hf2.os, hf2.tape, hf2.output, hf2.size, fun i hi => hf2.same i hi (by simp)⟩⟩
end
end Go.Sx
