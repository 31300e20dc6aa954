/- A part of the proof: the reference is safe, both packages write and read alike. Several texts in one; printed by slim28.py out of the texts of wip. -/
import Derived.Test.YtjmnolhkkpaodaaGreatDoorZ03
import Derived.LoopN
set_option linter.all false
namespace Go.Sx
open Go
structure Upd (f : Nat → Nat) (ws : List (Nat × Nat × SV)) (w w' : World) : Prop where
 os : w'.os = w.os
 tape : w'.tape = w.tape
 output : w'.output = w.output
 size : w.heap.size ≤ w'.heap.size
 heap : ∀ i, i < w.heap.size → w'.heap[i]? = (applyWs f ws w).heap[i]?
def wsOk (K : Nat → Option BI) (ws : List (Nat × Nat × SV)) : Prop := ∀ p ∈ ws, ∃ i, K p.1 = some i ∧ i.rw = true ∧ p.2.1 < i.init.length
structure SpecOk (W : World) (P : Program) (g : FuncId) (sp : Spec) : Prop where
 fn : ∃ fn, P.funcs[g]? = some fn ∧ (fn.name == "runtime.NumGoroutine") = false ∧ fn.body.isNone = false
 ok : ∀ args C K e f w, sp.fx args C K = some e → e.nb = none → e.vc.val = true → CRel f C w → KRel f K w → Old W w → OwnK W f K →
  e.val ≠ .un ∧ wsOk K e.ws ∧ Calls P g (args.map (TV.den f)).toArray w fun en w' => en = .returned (e.val.den f) ∧ Upd f e.ws w w'
structure LaidAt (w w' : World) (j : Nat) (arr : Array Value) (t : TypeId) : Prop where
 os : w'.os = w.os
 tape : w'.tape = w.tape
 output : w'.output = w.output
 size : w.heap.size ≤ w'.heap.size
 same : ∀ i, i < w.heap.size → w'.heap[i]? = w.heap[i]?
 ge : w.heap.size ≤ j
 at_ : w'.heap[j]? = some (.cells arr t)
def NbOk (W : World) (P : Program) (g : FuncId) (sp : Spec) : Prop := ∀ args C K e f w t l, sp.fx args C K = some e → e.nb = some (t, l) → e.vc.val = true → CRel f C w → KRel f K w → Old W w → OwnK W f K →
 Calls P g (args.map (TV.den f)).toArray w fun en w' => ∃ j, en = .returned (.slice (some ⟨j, 0, none⟩) l.length l.length) ∧ LaidAt w w' j (dens f l) t
def GOk (W : World) (P : Program) (G : List (Nat × Spec)) : Prop := ∀ g sp, look G g = some sp → SpecOk W P g sp ∧ (sp.kn [] = [77777] → NbOk W P g sp)
theorem size_applyWs (f : Nat → Nat) : ∀ (ws : List (Nat × Nat × SV)) (w : World), (applyWs f ws w).heap.size = w.heap.size
 | [], _ => rfl
 | (b, o, v) :: ws, w => by simp [applyWs, size_applyWs f ws w]
section
variable {W w0 : World} {X : Nat → Prop} {f : Nat → Nat} {P : Program} {G : List (Nat × Spec)}
theorem MOk.same {M : Mem} {w w' : World} (h : MOk w0 X f M w) (hh : ∀ i, i < w.heap.size → w'.heap[i]? = w.heap[i]?) : MOk w0 X f M w' := by
 have hb : ∀ b i, look M.blks b = some i → w'.heap[f b]? = w.heap[f b]? := by
  intro b i hi
  obtain ⟨arr, harr, _⟩ := h.blk b i hi
  exact hh _ (lt_of_blk harr)
 refine ⟨?_, ?_, h.known, h.inj, h.own, h.lt⟩
 · intro b i hi
   rw [hb b i hi]
   exact h.blk b i hi
 · intro b o v hv
   obtain ⟨i, hi⟩ := h.known b o v hv
   rw [← h.cell b o v hv]
   exact World.cell?_of_block (hb b i hi)
theorem Fr.keep {w w' : World} (h : Fr W w0 X w) (ho : w'.os = w.os) (ht : w'.tape = w.tape) (hu : w'.output = w.output) (hs : w.heap.size ≤ w'.heap.size)
  (hh : ∀ i, i < w.heap.size → w'.heap[i]? = w.heap[i]?) : Fr W w0 X w' :=
 ⟨ho.trans h.os, ht.trans h.tape, hu.trans h.output, Nat.le_trans h.size hs, fun i hi hx => (hh i (Nat.lt_of_lt_of_le hi h.size)).trans (h.same i hi hx), h.base⟩
theorem os_applyWs : ∀ (ws : List (Nat × Nat × SV)) (w : World), (applyWs f ws w).os = w.os ∧ (applyWs f ws w).tape = w.tape ∧ (applyWs f ws w).output = w.output
 | [], _ => ⟨rfl, rfl, rfl⟩
 | (_, _, _) :: ws, w => os_applyWs ws w
theorem MOk.upd {M : Mem} {w w' : World} (h : MOk w0 X f M w) (hf : Fr W w0 X w) {ws : List (Nat × Nat × SV)} (hws : wsOk (look M.blks) ws) (hu : Upd f ws w w') :
  MOk w0 X f ⟨ws ++ M.cells, M.blks, M.next⟩ w' ∧ Fr W w0 X w' := by
 obtain ⟨h1, h2⟩ := h.writes hf hws
 have hs := size_applyWs f ws w
 have ho := os_applyWs (f := f) ws w
 exact ⟨h1.same (fun i hi => hu.heap i (by omega)), h2.keep (hu.os.trans ho.1.symm) (hu.tape.trans ho.2.1.symm) (hu.output.trans ho.2.2.symm) (by have := hu.size; omega) (fun i hi => hu.heap i (by omega))⟩
def exOf : Ex → Option Exit
 | .nrm => some .normal
 | .ret => some .ret
 | .exit i => some (.exit i)
 | .res _ => none
def Post (W w0 : World) (X : Nat → Prop) (nt : Nat) (bs : SL) (bm : Mem) (f0 : Nat → Nat) (n0 : Nat) (r : R) (e : Exit) (a : Act) (w : World) : Prop :=
 ∃ ex v s m f, r.get = some (ex, v, s, m) ∧ exOf ex = some e ∧ Rel W w0 X nt (s ++ bs) (m.on bm) f a w ∧ Ext n0 f0 f ∧ n0 ≤ m.next
def FnPost (W w0 : World) (X : Nat → Prop) (bm : Mem) (f0 : Nat → Nat) (n0 : Nat) (r : R) (en : Ending) (w : World) : Prop :=
 ∃ x v s m f, r.get = some (.res x, v, s, m) ∧ x ≠ .un ∧ en = .returned (x.den f) ∧ MOk w0 X f (m.on bm) w ∧ Fr W w0 X w ∧ Ext n0 f0 f ∧ n0 ≤ m.next
def DrawSound (W : World) (P : Program) (G : List (Nat × Spec)) (n : Nat) : Prop :=
 ∀ (w0 : World) (X : Nat → Prop) (id : Nat) (ops : Array Oper) (nt : Nat) (bs : SL) (bm : Mem) (f : Nat → Nat) (a : Act) (w : World),
  (P.follows .mixedOrders && edgesOk ops.toList 0 && noSel ops.toList) = true → (run P W G n (.dops ops ops.toList 0 [] []) ⟨nt, bs, bm⟩ [] bm.fresh).good → Rel W w0 X nt bs bm f a w →
   (Code.region id ops true).wp P (Post W w0 X nt bs bm f bm.next (run P W G n (.dops ops ops.toList 0 [] []) ⟨nt, bs, bm⟩ [] bm.fresh)) a w
structure Sound (W : World) (P : Program) (G : List (Nat × Spec)) (n : Nat) : Prop where
 code : ∀ (w0 : World) (X : Nat → Prop) (c : Code) (B : Cf) (s : SL) (m : Mem) (f : Nat → Nat) (a : Act) (w : World), (run P W G n (.code c) B s m).good → Rel W w0 X B.nt (s ++ B.bs) (m.on B.bm) f a w →
  c.wp P (Post W w0 X B.nt B.bs B.bm f m.next (run P W G n (.code c) B s m)) a w
 loopr : ∀ (w0 : World) (X : Nat → Prop) (c : Code) (B : Cf) (s : SL) (m : Mem) (f : Nat → Nat) (a : Act) (w : World), (run P W G n (.code (.loop c)) B s m).good → Rel W w0 X B.nt (s ++ B.bs) (m.on B.bm) f a w →
  Code.rounds P c (Post W w0 X B.nt B.bs B.bm f m.next (run P W G n (.code (.loop c)) B s m)) n a w
 ops : ∀ (w0 : World) (X : Nat → Prop) (all : Array Oper) (rest : List Oper) (B : Cf) (s : SL) (m : Mem) (f : Nat → Nat) (a : Act) (w : World), (run P W G n (.ops all rest) B s m).good → Rel W w0 X B.nt (s ++ B.bs) (m.on B.bm) f a w →
  wpList P all (Post W w0 X B.nt B.bs B.bm f m.next (run P W G n (.ops all rest) B s m)) rest a w
 fn : ∀ (w0 : World) (X : Nat → Prop) (g : FuncId) (args : List TV) (B : Cf) (s : SL) (m : Mem) (f : Nat → Nat) (w : World), (run P W G n (.fn g args) B s m).good → MOk w0 X f (m.on B.bm) w → Fr W w0 X w →
  Calls P g (args.map (TV.den f)).toArray w (FnPost W w0 X B.bm f m.next (run P W G n (.fn g args) B s m))
theorem good_bind {g : SL → Mem → R} {r : R} (h : (r.bind g).good) : r.good ∧ ∀ v s m, r.get = some (.nrm, v, s, m) → (g s m).good := by
 obtain ⟨e, v, s, m, hg, hv⟩ := h
 rw [R.get_bind] at hg
 split at hg
 · rename_i v1 s1 m1 h1
   split at hg <;> try contradiction
   rename_i e2 v2 s2 m2 h2
   simp only [Option.some.injEq, Prod.mk.injEq] at hg
   obtain ⟨rfl, rfl, rfl, rfl⟩ := hg
   simp only [SB.and_val, Bool.and_eq_true] at hv
   refine ⟨⟨_, _, _, _, h1, hv.1⟩, ?_⟩
   intro v s m h3
   rw [h1] at h3
   simp only [Option.some.injEq, Prod.mk.injEq] at h3
   obtain ⟨_, rfl, rfl, rfl⟩ := h3
   exact ⟨_, _, _, _, h2, hv.2⟩
 · rename_i e1 v1 s1 m1 hne h1
   simp only [Option.some.injEq, Prod.mk.injEq] at hg
   obtain ⟨rfl, rfl, rfl, rfl⟩ := hg
   refine ⟨⟨_, _, _, _, h1, hv⟩, ?_⟩
   intro v s m h3
   rw [h1] at h3
   simp only [Option.some.injEq, Prod.mk.injEq] at h3
   exact absurd h3.1 hne
 · contradiction
theorem Post.bind_nrm {nt : Nat} {bs : SL} {bm : Mem} {f0 f1 : Nat → Nat} {n0 : Nat} {g : SL → Mem → R} {r : R} {v : SB} {s : SL} {m : Mem} (hr : r.get = some (.nrm, v, s, m)) (he : Ext n0 f0 f1) (hn : n0 ≤ m.next)
  {e : Exit} {a : Act} {w : World} (h : Post W w0 X nt bs bm f1 m.next (g s m) e a w) : Post W w0 X nt bs bm f0 n0 (r.bind g) e a w := by
 obtain ⟨ex, v', s', m', f', hg, hex, hrel, hext, hle⟩ := h
 exact ⟨ex, v.and v', s', m', f', by rw [R.get_bind, hr]; simp [hg], hex, hrel, he.trans hext hn, Nat.le_trans hn hle⟩
theorem Post.bind_other {nt : Nat} {bs : SL} {bm : Mem} {f0 : Nat → Nat} {n0 : Nat} {g : SL → Mem → R} {r : R} {e : Exit} {a : Act} {w : World} (h : Post W w0 X nt bs bm f0 n0 r e a w) (hne : e ≠ .normal) :
  Post W w0 X nt bs bm f0 n0 (r.bind g) e a w := by
 obtain ⟨ex, v', s', m', f', hg, hex, rest⟩ := h
 refine ⟨ex, v', s', m', f', ?_, hex, rest⟩
 rw [R.get_bind, hg]
 cases ex <;> simp_all [exOf]
theorem Rel.known {nt : Nat} {s : SL} {M : Mem} {a : Act} {w : World} (h : Rel W w0 X nt s M f a w) : BKnown M := h.mem.known
theorem fresh_on (M : Mem) : (M.fresh).on M = M := by cases M; simp [Mem.fresh, Mem.on]
theorem on_on (m m' b : Mem) : (m.on m').on b = m.on (m'.on b) := by simp [Mem.on]
theorem Post.of_over {nt : Nat} {bs s : SL} {bm m : Mem} {f0 : Nat → Nat} {n0 : Nat} {r : R} (hb : BKnown (m.on bm)) (hg : ((r.collapse (s ++ bs) (m.on bm)).over s m).good) {e : Exit} {a : Act} {w : World}
  (h : Post W w0 X nt (s ++ bs) (m.on bm) f0 n0 r e a w) : Post W w0 X nt bs bm f0 n0 ((r.collapse (s ++ bs) (m.on bm)).over s m) e a w := by
 obtain ⟨ex, v, s1, m1, f1, hr, hex, hrel, hext, hn⟩ := h
 obtain ⟨e2, v2, s2, m2, h2, hv2⟩ := hg
 rw [R.get_over] at h2
 split at h2 <;> try contradiction
 rename_i e3 v3 s3 m3 h3
 simp only [Option.some.injEq, Prod.mk.injEq] at h2
 obtain ⟨rfl, rfl, rfl, rfl⟩ := h2
 obtain ⟨l, hl, hL⟩ := R.collapse_get hb r h3
 rw [hr] at hl
 simp only [Option.some.injEq] at hl
 subst hl
 obtain ⟨hsame, hvv, hnx, hS, hM⟩ := hL
 have hexx : exOf e3 = some e := by
  rcases hsame with ⟨h1, _⟩ | ⟨x, x', h1, _⟩
  · simp only at h1
    rw [← h1]; exact hex
  · simp only at h1
    subst h1
    simp [exOf] at hex
 refine ⟨e3, v3, s3 ++ s, m3.on m, f1, by rw [R.get_over, h3], hexx, ?_, hext, Nat.le_trans hn hnx⟩
 have hs' := hS f1 a hrel.slots
 have hm' := hM w0 X f1 w hrel.mem
 rw [List.append_assoc, on_on]
 exact ⟨hrel.size, hrel.defers, hs', hm', hrel.fr⟩
theorem good_of_over {bs s : SL} {bm m : Mem} {r : R} (hb : BKnown bm) (hg : ((r.collapse bs bm).over s m).good) : r.good := by
 obtain ⟨e2, v2, s2, m2, h2, hv2⟩ := hg
 rw [R.get_over] at h2
 split at h2 <;> try contradiction
 rename_i e3 v3 s3 m3 h3
 simp only [Option.some.injEq, Prod.mk.injEq] at h2
 obtain ⟨rfl, rfl, rfl, rfl⟩ := h2
 obtain ⟨⟨e, v, s, m⟩, hl, hL⟩ := R.collapse_get hb r h3
 exact ⟨e, v, s, m, hl, hL.2.1.symm.trans hv2⟩
theorem wp_region_ops {n : Nat} {id : Nat} {ops : Array Oper} {nt : Nat} {bs : SL} {bm : Mem} {a : Act} {w : World} (ih : Sound W P G n) (hg : (run P W G n (.ops ops ops.toList) ⟨nt, bs, bm⟩ [] bm.fresh).good)
  (hrel : Rel W w0 X nt bs bm f a w) : (Code.region id ops false).wp P (Post W w0 X nt bs bm f bm.next (run P W G n (.ops ops ops.toList) ⟨nt, bs, bm⟩ [] bm.fresh)) a w := by
 refine wp_region_list ?_
 exact ih.ops w0 X ops ops.toList ⟨nt, bs, bm⟩ [] bm.fresh f a w hg (by rw [fresh_on]; exact hrel)
theorem inBlock_mono {id : Nat} {Q Q' : Exit → Act → World → Prop} (hq : ∀ e a w, Q e a w → Q' e a w) {e : Exit} {a : Act} {w : World} (h : Exit.inBlock id Q e a w) : Exit.inBlock id Q' e a w := by
 cases e with
 | exit i =>
  simp only [Exit.inBlock] at h ⊢
  split
  · rename_i hi; rw [if_pos hi] at h; exact hq _ _ _ h
  · rename_i hi; rw [if_neg hi] at h; exact hq _ _ _ h
 | _ => exact hq _ _ _ h
theorem good_unblock {id : Nat} {r : R} (h : (r.unblock id).good) : r.good := by
 obtain ⟨e, v, s1, m1, h1, hv⟩ := h
 rw [R.get_unblock] at h1
 split at h1 <;> try contradiction
 · rename_i i v2 s2 m2 h2
   simp only [Option.some.injEq, Prod.mk.injEq] at h1
   obtain ⟨_, rfl, rfl, rfl⟩ := h1
   exact ⟨_, _, _, _, h2, hv⟩
 · rename_i e2 v2 s2 m2 _ h2
   simp only [Option.some.injEq, Prod.mk.injEq] at h1
   obtain ⟨_, rfl, rfl, rfl⟩ := h1
   exact ⟨_, _, _, _, h2, hv⟩
theorem Post.unblock {nt : Nat} {bs : SL} {bm : Mem} {f0 : Nat → Nat} {n0 id : Nat} {r : R} {e : Exit} {a : Act} {w : World} (hp : Post W w0 X nt bs bm f0 n0 r e a w) :
  Exit.inBlock id (fun e a w => Post W w0 X nt bs bm f0 n0 (r.unblock id) e a w) e a w := by
 obtain ⟨ex, v, s1, m1, f1, hr, hex, rest⟩ := hp
 cases ex with
 | nrm => simp only [exOf, Option.some.injEq] at hex; subst hex; exact ⟨.nrm, v, s1, m1, f1, by rw [R.get_unblock, hr], rfl, rest⟩
 | ret => simp only [exOf, Option.some.injEq] at hex; subst hex; exact ⟨.ret, v, s1, m1, f1, by rw [R.get_unblock, hr], rfl, rest⟩
 | res x => simp [exOf] at hex
 | exit i =>
  simp only [exOf, Option.some.injEq] at hex
  subst hex
  simp only [Exit.inBlock]
  split
  · rename_i hi
    exact ⟨.nrm, v, s1, m1, f1, by rw [R.get_unblock, hr]; simp [hi], rfl, rest⟩
  · rename_i hi
    exact ⟨.exit i, v, s1, m1, f1, by rw [R.get_unblock, hr]; simp [hi], rfl, rest⟩
theorem rounds_mono {c : Code} {Q Q' : Exit → Act → World → Prop} (hq : ∀ e a w, Q e a w → Q' e a w) : ∀ (n : Nat) (a : Act) (w : World), Code.rounds P c Q n a w → Code.rounds P c Q' n a w
 | 0, _, _, h => h
 | n + 1, a, w, h => wp_mono h fun e a w he => by
  cases e with
  | normal => exact rounds_mono hq n a w he
  | _ => exact hq _ _ _ he
theorem sound_loop {n : Nat} (ih : Sound W P G n) : ∀ (w0 : World) (X : Nat → Prop) (c : Code) (B : Cf) (s : SL) (m : Mem) (f : Nat → Nat) (a : Act) (w : World), (run P W G (n + 1) (.code (.loop c)) B s m).good → Rel W w0 X B.nt (s ++ B.bs) (m.on B.bm) f a w →
  Code.rounds P c (Post W w0 X B.nt B.bs B.bm f m.next (run P W G (n + 1) (.code (.loop c)) B s m)) (n + 1) a w := by
 intro w0 X body B s m f a w hg hrel
 simp only [run] at hg ⊢
 obtain ⟨h1, h2⟩ := good_bind hg
 rw [rounds_succ]
 refine wp_mono (ih.code w0 X body B s m f a w h1 hrel) ?_
 intro e a1 w1 hp
 cases e with
 | normal =>
  obtain ⟨ex, v, s1, m1, f1, hr, hex, hrel1, hext, hn⟩ := hp
  have : ex = .nrm := by cases ex <;> simp_all [exOf]
  subst this
  exact rounds_mono (fun e a w hq => Post.bind_nrm hr hext hn hq) n a1 w1 (ih.loopr w0 X body B s1 m1 f1 a1 w1 (h2 v s1 m1 hr) hrel1)
 | exit i => exact hp.bind_other (by simp)
 | goto l => exact hp.bind_other (by simp)
 | ret => exact hp.bind_other (by simp)
 | panic c => exact hp.bind_other (by simp)
 | outgrown => exact hp.bind_other (by simp)
theorem sound_code {n : Nat} (hd : DrawSound W P G n) (ih : Sound W P G n) : ∀ (w0 : World) (X : Nat → Prop) (c : Code) (B : Cf) (s : SL) (m : Mem) (f : Nat → Nat) (a : Act) (w : World), (run P W G (n + 1) (.code c) B s m).good → Rel W w0 X B.nt (s ++ B.bs) (m.on B.bm) f a w →
  c.wp P (Post W w0 X B.nt B.bs B.bm f m.next (run P W G (n + 1) (.code c) B s m)) a w := by
 intro w0 X c B s m f a w hg hrel
 cases c with
 | skip => exact wp_skip ⟨.nrm, _, s, m, f, rfl, rfl, hrel, .refl _ _, Nat.le_refl _⟩
 | label l => exact wp_label ⟨.nrm, _, s, m, f, rfl, rfl, hrel, .refl _ _, Nat.le_refl _⟩
 | exit id => exact wp_exit ⟨.exit id, _, s, m, f, rfl, rfl, hrel, .refl _ _, Nat.le_refl _⟩
 | ret => exact wp_ret ⟨.ret, _, s, m, f, rfl, rfl, hrel, .refl _ _, Nat.le_refl _⟩
 | seq x y =>
  simp only [run] at hg ⊢
  obtain ⟨h1, h2⟩ := good_bind hg
  refine wp_seq (wp_mono (ih.code w0 X x B s m f a w h1 hrel) ?_)
  intro e a1 w1 hp
  cases e with
  | normal =>
   obtain ⟨ex, v, s1, m1, f1, hr, hex, hrel1, hext, hn⟩ := hp
   have : ex = .nrm := by cases ex <;> simp_all [exOf]
   subst this
   refine wp_mono (ih.code w0 X y B s1 m1 f1 a1 w1 (h2 v s1 m1 hr) hrel1) ?_
   intro e a2 w2 hq
   exact Post.bind_nrm hr hext hn hq
  | exit i => exact hp.bind_other (by simp)
  | goto l => exact hp.bind_other (by simp)
  | ret => exact hp.bind_other (by simp)
  | panic c => exact hp.bind_other (by simp)
  | outgrown => exact hp.bind_other (by simp)
 | loop body => exact wp_loop_rounds (n + 1) (sound_loop ih w0 X body B s m f a w hg hrel)
 | block id body =>
  simp only [run] at hg ⊢
  have hb := hrel.known
  have hg1 := good_unblock (good_of_over hb hg)
  refine wp_block (wp_mono (ih.code w0 X body ⟨B.nt, s ++ B.bs, m.on B.bm⟩ [] (m.on B.bm).fresh f a w hg1 (by rw [fresh_on]; exact hrel)) ?_)
  intro e a1 w1 hp
  exact inBlock_mono (fun e a w h => Post.of_over hb hg h) (Post.unblock hp)
 | cond c x y =>
  simp only [run] at hg ⊢
  split at hg
  · rename_i hc
    have h1 := (evalO_sound hrel.slots hc).1
    exact wp_cond_true h1 (ih.code w0 X x B s m f a w hg hrel)
  · rename_i hc
    have h1 := (evalO_sound hrel.slots hc).1
    exact wp_cond_false h1 (ih.code w0 X y B s m f a w hg hrel)
  · rename_i b hc
    have h1 := (evalO_sound hrel.slots hc).1
    simp only [TV.den, SV.den, SB.val_sym] at h1
    have hb := hrel.known
    have hgb := good_of_over hb hg
    refine wp_mono (wp_cond_split (Q := Post W w0 X B.nt (s ++ B.bs) (m.on B.bm) f m.next (R.br b (run P W G n (.code x) ⟨B.nt, s ++ B.bs, m.on B.bm⟩ [] (m.on B.bm).fresh)
      (run P W G n (.code y) ⟨B.nt, s ++ B.bs, m.on B.bm⟩ [] (m.on B.bm).fresh))) h1 ?_ ?_) (fun e a1 w1 hp => Post.of_over hb hg hp)
    · rintro rfl
      have hg1 : (run P W G n (.code x) ⟨B.nt, s ++ B.bs, m.on B.bm⟩ [] (m.on B.bm).fresh).good := hgb
      exact ih.code w0 X x ⟨B.nt, s ++ B.bs, m.on B.bm⟩ [] (m.on B.bm).fresh f a w hg1 (by rw [fresh_on]; exact hrel)
    · rintro rfl
      have hg1 : (run P W G n (.code y) ⟨B.nt, s ++ B.bs, m.on B.bm⟩ [] (m.on B.bm).fresh).good := hgb
      exact ih.code w0 X y ⟨B.nt, s ++ B.bs, m.on B.bm⟩ [] (m.on B.bm).fresh f a w hg1 (by rw [fresh_on]; exact hrel)
  · obtain ⟨_, _, _, _, h, _⟩ := hg
    simp [R.get] at h
 | region id ops draw =>
  cases draw with
  | false =>
   simp only [run] at hg ⊢
   have hb := hrel.known
   exact wp_mono (wp_region_ops ih (good_of_over hb hg) hrel) (fun e a1 w1 hp => Post.of_over hb hg hp)
  | true =>
   simp only [run] at hg ⊢
   by_cases hc : (P.follows .mixedOrders && edgesOk ops.toList 0 && noSel ops.toList) = true
   · simp only [hc] at hg ⊢
     have hb := hrel.known
     exact wp_mono (hd w0 X id ops B.nt (s ++ B.bs) (m.on B.bm) f a w hc (good_of_over hb hg) hrel) (fun e a1 w1 hp => Post.of_over hb hg hp)
   · simp only [Bool.not_eq_true] at hc
     simp only [hc] at hg
     obtain ⟨_, _, _, _, h, _⟩ := hg
     simp [R.get] at h
 | _ =>
  obtain ⟨_, _, _, _, h, _⟩ := hg
  simp [run, R.get] at h
end
end Go.Sx
namespace Go.Sx
open Go
section
variable {W w0 : World} {X : Nat → Prop} {f : Nat → Nat} {P : Program} {G : List (Nat × Spec)}
theorem tmps_bool {a : Act} {d : Nat} {b : Bool} (h : a.tmps.getD d undef = .bool b) : a.tmps[d]? = some (.bool b) := by
 rw [Array.getD_eq_getD_getElem?] at h
 cases hh : a.tmps[d]? with
 | none => rw [hh] at h; simp [undef] at h
 | some v => rw [hh] at h; simp at h; rw [h]
theorem guard_yes {all : Array Oper} {S : Nat → Option TV} {o : Oper} {a : Act} (hS : SRel f S a) (h : guardS all S o = .yes) : Region.wanted o (yielded all a.tmps) = true := by
 unfold guardS at h
 unfold Region.wanted
 split at h
 · rename_i hg; simp [hg]
 · rename_i j want hg
   split at h <;> try contradiction
   rename_i q hq
   split at h <;> try contradiction
   rename_i d hd
   split at h <;> try contradiction
   rename_i b hb
   split at h <;> try contradiction
   rename_i hbw
   have h1 := tmps_bool (hS d _ hb (by simp))
   have := eq_of_beq hbw
   subst this
   simp [hg, yielded, hq, hd, h1, SB.val_lit]
theorem guard_no {all : Array Oper} {S : Nat → Option TV} {o : Oper} {a : Act} (hS : SRel f S a) (h : guardS all S o = .no) : Region.wanted o (yielded all a.tmps) = false := by
 unfold guardS at h
 unfold Region.wanted
 split at h
 · contradiction
 · rename_i j want hg
   split at h <;> try contradiction
   rename_i q hq
   split at h <;> try contradiction
   rename_i d hd
   split at h <;> try contradiction
   · rename_i b hb
     split at h <;> try contradiction
     rename_i hbw
     have h1 := tmps_bool (hS d _ hb (by simp))
     simp only [hg, yielded, hq, hd, h1, Option.bind_some]
     cases b <;> cases want <;> simp_all [SB.val_lit]
   · rename_i hb
     have h1 := hS d _ hb (by simp)
     have h2 : a.tmps.getD d undef = undef := h1
     simp only [hg, yielded, hq, hd, Option.bind_some]
     rw [Array.getD_eq_getD_getElem?] at h2
     cases h3 : a.tmps[d]? with
     | none => rfl
     | some v =>
      rw [h3] at h2
      simp only [Option.getD_some] at h2
      subst h2
      rfl
theorem guard_ask {all : Array Oper} {S : Nat → Option TV} {o : Oper} {d : Nat} {b want : Bool} (h : guardS all S o = .ask d b want) :
  S d = some (.one (.bool (.sym b))) ∧ ∃ j q, o.guard = some (j, want) ∧ all[j]? = some q ∧ q.dst = some d := by
 unfold guardS at h
 split at h <;> try contradiction
 rename_i j w hg
 split at h <;> try contradiction
 rename_i q hq
 split at h <;> try contradiction
 rename_i d' hd
 split at h <;> try contradiction
 · split at h <;> contradiction
 · rename_i b' hb
   simp only [Gd.ask.injEq] at h
   obtain ⟨rfl, rfl, rfl⟩ := h
   exact ⟨hb, j, q, hg, hq, hd⟩
theorem fn_facts (hG : GOk W P G) {n : Nat} {g : FuncId} {args : List TV} {B : Cf} {s : SL} {m : Mem} (h : (run P W G n (.fn g args) B s m).good) :
  ∃ fn, P.funcs[g]? = some fn ∧ (fn.name == "runtime.NumGoroutine") = false ∧ fn.body.isNone = false := by
 obtain ⟨_, _, _, _, h, _⟩ := h
 cases n with
 | zero => simp [run, R.get] at h
 | succ n =>
  simp only [run] at h
  split at h
  · rename_i sp hsp
    exact (hG g sp hsp).1.fn
  · split at h
    · rename_i fn hfn
      split at h
      · rename_i c hc
        split at h
        · simp [R.get] at h
        · rename_i hcond
          simp only [Bool.or_eq_false_iff] at hcond
          exact ⟨fn, hfn, hcond.1, by simp [hc]⟩
      · simp [R.get] at h
    · simp [R.get] at h
theorem caps_den (cs : List (Nat × Nat)) : (cs.map capTV).map (TV.den f) = cs.map (caddr f) := by
 rw [List.map_map]
 rfl
theorem call_run {o : Oper} {a : Act} {w : World} {x : Operand} {az : List Operand} (hc : callOf o = some (x, az)) {g : FuncId} {cs : List (Nat × Nat)} {l : List TV}
  (hx : a.eval x = .func (.func g) #[] (cs.map (caddr f)).toArray) (hl : az.map a.eval = l.map (TV.den f))
  (hfn : ∃ fn, P.funcs[g]? = some fn ∧ (fn.name == "runtime.NumGoroutine") = false ∧ fn.body.isNone = false) :
  (execOp a.eval o).run P w = .ok (.enter g ((l ++ cs.map capTV).map (TV.den f)).toArray) w := by
 obtain ⟨fn, h1, h2, h3⟩ := hfn
 unfold callOf at hc
 split at hc <;> try contradiction
 rename_i c hop
 split at hc <;> try contradiction
 rename_i y hy
 simp only [Option.some.injEq, Prod.mk.injEq] at hc
 obtain ⟨rfl, rfl⟩ := hc
 have hargs : c.args.map a.eval = (l.map (TV.den f)).toArray := by
  rw [← hl, ← Array.toList_map]
 simp only [execOp, hop, resolve, hy, hx, Deferred.ofValue, hargs, Sem.run_bind, Sem.run_pure, Result.andThen_ok, invoke, callFunc, run_program, h1, h2, h3, Bool.false_eq_true, if_false]
 have hcap : (l ++ cs.map capTV).map (TV.den f) = l.map (TV.den f) ++ cs.map (caddr f) := by rw [List.map_append, caps_den]
 rw [hcap]
 simp
theorem wpList_up {ops : Array Oper} {Q Q' : Exit → Act → World → Prop} (hq : ∀ e a w, Q e a w → Q' e a w) : ∀ (l : List Oper) (a : Act) (w : World), wpList P ops Q l a w → wpList P ops Q' l a w
 | [], _, _, h => hq _ _ _ h
 | o :: l, a, w, h => by
  simp only [wpList] at h ⊢
  split
  · rename_i hw
    rw [if_pos hw] at h
    rcases h with h | ⟨h1, a1, w1, h2⟩
    · left
      unfold Oper.wp at h ⊢
      generalize (execOp a.eval o).run P w = r at h ⊢
      cases r with
      | ok n w' =>
       cases n <;> simp only [Oper.upon] at h ⊢
       case value v => exact wpList_up hq l _ _ h
       case skip => exact wpList_up hq l _ _ h
       case defer d => exact wpList_up hq l _ _ h
       case enter g args =>
        refine Calls.mono h fun e w'' he => ?_
        cases e with
        | returned v => exact wpList_up hq l _ _ he
        | panicked c => exact hq _ _ _ he
        | outgrown => obtain ⟨a2, w2, h3⟩ := he; exact ⟨a2, w2, hq _ _ _ h3⟩
       case row row args => exact Rows.mono h fun v w'' he => wpList_up hq l _ _ he
      | halt x w' => cases x <;> simp only [Oper.upon] at h ⊢ <;> exact hq _ _ _ h
    · exact .inr ⟨h1, a1, w1, hq _ _ _ h2⟩
  · rename_i hw
    rw [if_neg hw] at h
    exact wpList_up hq l _ _ h
theorem sound_ops (hG : GOk W P G) {n : Nat} (ih : Sound W P G n) : ∀ (w0 : World) (X : Nat → Prop) (all : Array Oper) (rest : List Oper) (B : Cf) (s : SL) (m : Mem) (f : Nat → Nat) (a : Act) (w : World), (run P W G (n + 1) (.ops all rest) B s m).good → Rel W w0 X B.nt (s ++ B.bs) (m.on B.bm) f a w →
  wpList P all (Post W w0 X B.nt B.bs B.bm f m.next (run P W G (n + 1) (.ops all rest) B s m)) rest a w := by
 intro w0 X all rest B s m f a w hg hrel
 have nogood : ∀ {p : Prop}, R.fail.good → p := by
  rintro p ⟨_, _, _, _, h, _⟩
  simp [R.get] at h
 cases rest with
 | nil => exact wpList_nil ⟨.nrm, _, s, m, f, rfl, rfl, hrel, .refl _ _, Nat.le_refl _⟩
 | cons o r =>
  simp only [run] at hg ⊢
  split at hg
  · exact nogood hg
  rename_i hdst
  split at hg
  · exact nogood hg
  · rename_i hgd
    have hw := guard_no (hrel.slots) hgd
    rw [wpList, if_neg (by simp [hw])]
    have hrel1 : Rel W w0 X B.nt (putS o.dst .ud s ++ B.bs) (m.on B.bm) f (a.put o.dst undef) w := by
     refine ⟨?_, ?_, ?_, hrel.mem, hrel.fr⟩
     · cases o.dst <;> simp [Act.put, hrel.size]
     · cases o.dst <;> simp [Act.put, hrel.defers]
     · rw [putS_append]
       exact hrel.slots.put hrel.size hdst (.inr rfl)
    exact ih.ops w0 X all r B (putS o.dst .ud s) m f (a.put o.dst undef) w hg hrel1
  · rename_i d b want hgd
    obtain ⟨hSd, _⟩ := guard_ask hgd
    have hval := hrel.slots d _ hSd (by simp)
    simp only [TV.den, SV.den, SB.val_sym] at hval
    split at hg
    · rename_i hlt
      have hput : ∀ b', b = b' → Rel W w0 X B.nt (putS (some d) (.one (.bool (.lit b'))) s ++ B.bs) (m.on B.bm) f a w := by
       rintro b' rfl
       refine ⟨hrel.size, hrel.defers, ?_, hrel.mem, hrel.fr⟩
       intro t v hv hne
       simp only [putS, List.cons_append, look_cons] at hv
       split at hv
       · rename_i hdt
         simp only [Option.some.injEq] at hv
         subst hv hdt
         simpa [TV.den, SV.den, SB.val_lit] using hval
       · exact hrel.slots t v hv hne
      have up : ∀ {r1 r2 : R} (ac : Act) (wc : World), wpList P all (Post W w0 X B.nt B.bs B.bm f m.next (bif b then r1 else r2)) (o :: r) ac wc → wpList P all (Post W w0 X B.nt B.bs B.bm f m.next (R.br b r1 r2)) (o :: r) ac wc := by
       intro r1 r2 ac wc h
       have he : ∀ e a w, Post W w0 X B.nt B.bs B.bm f m.next (bif b then r1 else r2) e a w = Post W w0 X B.nt B.bs B.bm f m.next (R.br b r1 r2) e a w := by
        intro e a w
        cases b <;> rfl
       have : Post W w0 X B.nt B.bs B.bm f m.next (bif b then r1 else r2) = Post W w0 X B.nt B.bs B.bm f m.next (R.br b r1 r2) := by
        funext e a w
        exact he e a w
       rw [← this]
       exact h
      apply up
      cases b
      · exact ih.ops w0 X all (o :: r) B _ m f a w hg (hput false rfl)
      · exact ih.ops w0 X all (o :: r) B _ m f a w hg (hput true rfl)
    · exact nogood hg
  · rename_i hgd
    have hw := guard_yes (hrel.slots) hgd
    rw [wpList, if_pos hw]
    left
    split at hg
    · rename_i x az hcall
      split at hg
      · rename_i g cs l hx hl
        split at hg
        · rename_i hlt
          obtain ⟨h1, h2⟩ := good_bind hg
          obtain ⟨e3, v3, s3, m3, h3, hv3⟩ := h1
          rw [R.get_land] at h3
          split at h3 <;> try contradiction
          rename_i xv cv _ m4 h4
          simp only [Option.some.injEq, Prod.mk.injEq] at h3
          obtain ⟨rfl, rfl, rfl, rfl⟩ := h3
          obtain ⟨⟨e5, v5, s5, m5⟩, h5, hL⟩ := R.collapse_get hrel.known _ h4
          have hgf : (run P W G n (.fn g (l ++ cs.map capTV)) ⟨0, [], m.on B.bm⟩ [] (m.on B.bm).fresh).good := ⟨_, _, _, _, h5, hL.2.1.symm.trans hv3⟩
          have hx1 := (evalO_sound hrel.slots hx).1
          have hl1 := (evalList_sound hrel.slots hl).1
          have hrun := call_run (P := P) (f := f) (w := w) hcall hx1 hl1 (fn_facts hG hgf)
          have hcalls := ih.fn w0 X g (l ++ cs.map capTV) ⟨0, [], m.on B.bm⟩ [] (m.on B.bm).fresh f w hgf (by rw [fresh_on]; exact hrel.mem) hrel.fr
          unfold Oper.wp
          rw [hrun, Oper.upon_enter]
          refine hcalls.mono ?_
          rintro en w1 ⟨xr, vr, sr, mr, fr, hgr, hxn, rfl, hmr, hfr, hext, hnx⟩
          rw [h5] at hgr
          simp only [Option.some.injEq, Prod.mk.injEq] at hgr
          obtain ⟨rfl, rfl, rfl, rfl⟩ := hgr
          obtain ⟨hsame, _, hnx2, _, hM⟩ := hL
          rcases hsame with ⟨_, hno⟩ | ⟨u, u', hu, hu', hd⟩
          · exact absurd rfl (hno xr)
          · simp only at hu hu'
            injection hu with hu
            injection hu' with hu'
            subst hu hu'
            obtain ⟨hne, hden⟩ := hd fr hxn
            have hmem := hM w0 X fr w1 hmr
            have hext' : Ext m.next f fr := hext
            have hslots : SRel fr (look (s ++ B.bs)) a := by
             intro t v hv hn
             rw [hrel.slots t v hv hn]
             exact (TV.lt_den (ltS_look hlt hv) hext').symm
            have hrel1 : Rel W w0 X B.nt (putS o.dst xv s ++ B.bs) ((m4.on m).on B.bm) fr (a.put o.dst (xr.den fr)) w1 := by
             refine ⟨?_, ?_, ?_, by rw [on_on]; exact hmem, hfr⟩
             · cases o.dst <;> simp [Act.put, hrel.size]
             · cases o.dst <;> simp [Act.put, hrel.defers]
             · rw [putS_append]
               exact hslots.put hrel.size hdst (.inr hden.symm)
            have hget : (((run P W G n (.fn g (l ++ cs.map capTV)) ⟨0, [], m.on B.bm⟩ [] (m.on B.bm).fresh).collapse [] (m.on B.bm)).land o.dst s m).get = some (.nrm, cv, putS o.dst xv s, m4.on m) := by
             rw [R.get_land, h4]
            have hnx3 : m.next ≤ (m4.on m).next := Nat.le_trans hnx hnx2
            have := ih.ops w0 X all r B (putS o.dst xv s) (m4.on m) fr (a.put o.dst (xr.den fr)) w1 (h2 _ _ _ hget) hrel1
            exact wpList_up (fun e a w hq => Post.bind_nrm hget hext' hnx3 hq) r _ _ this
        · exact nogood hg
      · exact nogood hg
    · rename_i hcall
      obtain ⟨h1, h2⟩ := good_bind hg
      obtain ⟨e3, v3, s3, m3, h3, hv3⟩ := h1
      have h3' := h3
      rw [PR.get_toR] at h3
      split at h3 <;> try contradiction
      rename_i e he
      split at h3 <;> try contradiction
      rename_i hnew
      simp only [Option.some.injEq, Prod.mk.injEq] at h3
      obtain ⟨rfl, rfl, rfl, rfl⟩ := h3
      have heff := prim_sound he hv3 hrel.slots hrel.mem.cell hrel.mem.blk hrel.fr.old
      obtain ⟨x, u, w1, f1, hrun, hx, hrel1, hext, hnx⟩ := hrel.step heff hnew hdst
      rw [← putS_append, ← putM_on] at hrel1
      have hnx3 : m.next ≤ (putM e m).next := by
       rw [← putM_on] at hnx
       exact hnx
      have := ih.ops w0 X all r B (putS o.dst e.val s) (putM e m) f1 (a.put o.dst u) w1 (h2 _ _ _ h3') hrel1
      have hfin := wpList_up (fun e a w hq => Post.bind_nrm h3' hext hnx3 hq) r _ _ this
      unfold Oper.wp
      rw [hrun]
      rcases hx with rfl | ⟨rfl, rfl⟩
      · exact hfin
      · exact hfin
end
end Go.Sx
