/- A part of the proof: the reference is safe, both packages write and read alike. Several texts in one; printed by slim28.py out of the texts of wip. -/
import Derived.Test.YtjmnolhkkpaodaaGreatDoorZ24
set_option linter.all false
namespace Go.Sx
open Go Go.RowKit
structure GapSp where
 k : Nat
 s : Nat
 x : Nat
 d : Nat
 t : TypeId
 e : TypeId
 size : Nat
 bytes : Nat
 i : Nat
structure LG where
 ks : List (Nat × Bool)
 bs : List (Nat × Bool)
 N : Nat
 F : SL → List (Nat × BI) → Gh → RG
inductive HG where
 | plain
 | seq (a b : HG)
 | block (a : HG)
 | cond (a b : HG)
 | gap (sp : GapSp)
 | loop (h : LG)
 | cust (F : SL → Mem → Gh → RG)
def oneS : SV → Bool
 | .int _ _ => true
 | .bool _ => true
 | .str _ => true
 | _ => false
noncomputable def grow (sp : GapSp) (s : SL) (m : Mem) (g : Gh) : RG :=
 match look s sp.s, look s sp.x, g[sp.i]? with
 | some (.one (.sl a n c)), some (.one (.row b off l _)), some o =>
  match rangeC m.get b off (l * sp.size) with
  | some cells => match allB oneS cells && Nat.beq o.e sp.e && Nat.beq o.size sp.size with
   | true => .any fun a' c' => .leaf .nrm (.sym ((decide (a = o.a) && (decide (n = o.n) && decide (c = o.c))) && (decide (o.n + l ≤ maxLen) && decide ((o.n + l) * sp.bytes ≤ 140737488355328))))
     (putS (some sp.d) (.one (.sl a' (o.n + l) c')) s) m (g.set sp.i ⟨sp.e, sp.size, a', o.n + l, c', o.xs ++ cells⟩)
   | false => .fail
  | none => .fail
 | _, _, _ => .fail
noncomputable def runG (P : Program) (W : World) (G : List (Nat × Spec)) (N nt : Nat) : HG → Code → SL → Mem → Gh → RG
 | .plain, c, s, m, g => (run P W G N (.code c) ⟨nt, [], noMem⟩ s m).toG g
 | .seq x y, .seq a b, s, m, g => (runG P W G N nt x a s m g).bind fun s' m' g' => runG P W G N nt y b s' m' g'
 | .block x, .block id c, s, m, g => (runG P W G N nt x c s m g).unblock id
 | .cond x y, .cond c a b, s, m, g => match evalO (look s) c with
  | some (.one (.bool (.lit true))) => runG P W G N nt x a s m g
  | some (.one (.bool (.lit false))) => runG P W G N nt y b s m g
  | some (.one (.bool (.sym q))) => .br q (runG P W G N nt x a s m g) (runG P W G N nt y b s m g)
  | _ => .fail
 | .gap sp, .region _ ops false, s, m, g => ((run P W G N (.ops ops (ops.toList.take sp.k)) ⟨nt, [], noMem⟩ s m).toG g).bind fun s m g =>
   (grow sp s m g).bind fun s m g => (run P W G N (.ops ops (ops.toList.drop (sp.k + 1))) ⟨nt, [], noMem⟩ s m).toG g
 | .gap sp, .region _ ops true, s, m, g => match P.follows .mixedOrders && cutOk ops sp.k with
  | true => ((((run P W G N (.dops ops (ops.toList.take sp.k) 0 [] []) ⟨nt, s, m⟩ [] m.fresh).collapse s m).over s m).toG g).bind fun s m g =>
   (grow sp s m g).bind fun s m g => (run P W G N (.ops ops (ops.toList.drop (sp.k + 1))) ⟨nt, [], noMem⟩ s m).toG g
  | false => .fail
 | .loop h, .loop _, s, m, g => match Nat.beq m.next h.N && allB (fun p => Nat.blt p.1 h.N) h.bs with
  | true => match pickB m h.bs with
   | some Bl => h.F (pickS (look s) h.ks) Bl g
   | none => .fail
  | false => .fail
 | .cust F, _, s, m, g => F s m g
 | _, _, _, _, _ => .fail
def GapOk (P : Program) (sp : GapSp) (ops : Array Oper) : Prop :=
 ∃ o, ops.toList[sp.k]? = some o ∧ o.guard = none ∧ o.dst = some sp.d ∧ o.op = .call { callee := .builtin .append, args := #[.tmp sp.s, .tmp sp.x], argTypes := #[sp.t, sp.t] } ∧
  P.underlying sp.t = some (.slice sp.e) ∧ (∃ z, (P.info? sp.e).map (fun i => (i.zero, i.size, i.bytes)) = some (some z, sp.size, sp.bytes) ∧ z.cells.size = sp.size) ∧ 0 < sp.size
def LoopGOk (W : Bs) (P : Program) (nt : Nat) (body : Code) (h : LG) : Prop :=
 ∀ (S : SL) (Bl : List (Nat × BI)) (g : Gh) (f : Nat → Nat) (a : Act) (w : World), (h.F S Bl g).Good → GSt W nt S ⟨[], Bl, h.N⟩ g f a w → (Code.loop body).wp P (GPost W nt (h.F S Bl g)) a w
def CustOk (W : Bs) (P : Program) (nt : Nat) (c : Code) (F : SL → Mem → Gh → RG) : Prop :=
 ∀ (s : SL) (m : Mem) (g : Gh) (f : Nat → Nat) (a : Act) (w : World), (F s m g).Good → GSt W nt s m g f a w → c.wp P (GPost W nt (F s m g)) a w
def HGOk (W : Bs) (P : Program) (nt : Nat) : HG → Code → Prop
 | .plain, _ => True
 | .seq x y, .seq a b => HGOk W P nt x a ∧ HGOk W P nt y b
 | .block x, .block _ c => HGOk W P nt x c
 | .cond x y, .cond _ a b => HGOk W P nt x a ∧ HGOk W P nt y b
 | .gap sp, .region _ ops _ => GapOk P sp ops ∧ sp.d < nt
 | .loop h, .loop body => LoopGOk W P nt body h
 | .cust F, c => CustOk W P nt c F
 | _, _ => True
section
variable {W : Bs} {P : Program} {G : List (Nat × Spec)}
theorem wpList_cat {ops : Array Oper} {Q Q' : Exit → Act → World → Prop} {l2 : List Oper} (hn : ∀ a w, Q' .normal a w → wpList P ops Q l2 a w) (he : ∀ e a w, e ≠ .normal → Q' e a w → Q e a w) :
  ∀ (l1 : List Oper) (a : Act) (w : World), wpList P ops Q' l1 a w → wpList P ops Q (l1 ++ l2) a w
 | [], a, w, h => hn a w h
 | o :: l1, a, w, h => by
  simp only [wpList, List.cons_append] at h ⊢
  split
  · rename_i hw
    rw [if_pos hw] at h
    rcases h with h | ⟨h1, a1, w1, h2⟩
    · left
      unfold Oper.wp at h ⊢
      generalize (execOp a.eval o).run P w = r at h ⊢
      cases r with
      | ok n w' =>
       cases n <;> simp only [Oper.upon] at h ⊢
       case value v => exact wpList_cat hn he l1 _ _ h
       case skip => exact wpList_cat hn he l1 _ _ h
       case defer d => exact wpList_cat hn he l1 _ _ h
       case enter g args =>
        refine Calls.mono h fun e w'' hh => ?_
        cases e with
        | returned v => exact wpList_cat hn he l1 _ _ hh
        | panicked c => exact he _ _ _ (by simp) hh
        | outgrown => obtain ⟨a2, w2, h3⟩ := hh; exact ⟨a2, w2, he _ _ _ (by simp) h3⟩
       case row row args => exact Rows.mono h fun v w'' hh => wpList_cat hn he l1 _ _ hh
      | halt x w' => cases x <;> simp only [Oper.upon] at h ⊢ <;> exact he _ _ _ (by simp) h
    · exact .inr ⟨h1, a1, w1, he _ _ _ (by simp) h2⟩
  · rename_i hw
    rw [if_neg hw] at h
    exact wpList_cat hn he l1 _ _ h
theorem toG_post {nt : Nat} {s : SL} {m : Mem} {g : Gh} {f : Nat → Nat} {a : Act} {w : World} {r : R} (h : GSt W nt s m g f a w) (hg : (r.toG g).Good) {e : Exit} {a' : Act} {w' : World}
  (hp : Post W.W w (fun i => ∃ b j, look m.blks b = some j ∧ f b = i) nt [] noMem f m.next r e a' w') : GPost W nt (r.toG g) e a' w' := by
 obtain ⟨ex, v, s1, m1, f1, hr, hex, hrel, hext, hn⟩ := hp
 rw [List.append_nil, on_noMem] at hrel
 refine toG_is hg fun e2 v2 s2 m2 h2 => ?_
 rw [hr] at h2
 simp only [Option.some.injEq, Prod.mk.injEq] at h2
 obtain ⟨rfl, rfl, rfl, rfl⟩ := h2
 exact ⟨hex, f1, h.next hrel ((toG_good hg).2 _ _ _ _ hr) hext hn⟩
theorem grow_sound {nt : Nat} {sp : GapSp} {ops : Array Oper} (hk : GapOk P sp ops) (hd : sp.d < nt) {s : SL} {m : Mem} {g : Gh} {f : Nat → Nat} {a : Act} {w : World} (hgood : (grow sp s m g).Good) (h : GSt W nt s m g f a w)
  {Q : Exit → Act → World → Prop} (hQ : ∀ a' w', GPost W nt (grow sp s m g) .normal a' w' → wpList P ops Q (ops.toList.drop (sp.k + 1)) a' w') : wpList P ops Q (ops.toList.drop sp.k) a w := by
 obtain ⟨o, ho, hgd, hdst, hop, hu, ⟨z, hz, hzs⟩, hpos⟩ := hk
 obtain ⟨i, hi, hz1, hz2, hz3⟩ := info_parts hz
 have hdrop : ops.toList.drop sp.k = o :: ops.toList.drop (sp.k + 1) := by
  obtain ⟨hlt, hget⟩ := List.getElem?_eq_some_iff.1 ho
  rw [List.drop_eq_getElem_cons hlt, hget]
 rw [hdrop]
 unfold grow at hgood hQ
 split at hgood <;> try exact hgood.elim
 rename_i sa sn sc b off l cc ow hs hx hgi
 split at hgood <;> try exact hgood.elim
 rename_i cells hcells
 split at hgood <;> try exact hgood.elim
 rename_i hchk
 simp only [hs, hx, hgi, hcells, hchk] at hQ
 simp only [Bool.and_eq_true, Nat.beq_eq] at hchk
 obtain ⟨⟨hone, he⟩, hsz⟩ := hchk
 have hg0 := hgood none 0
 simp only [RG.Good, SB.val_sym, Bool.and_eq_true, decide_eq_true_eq] at hg0
 obtain ⟨⟨e1, e2, e3⟩, hmax, hby⟩ := hg0
 have hown := h.gh.own sp.i ow hgi
 unfold Own.rel at hown
 have hsv : a.eval (.tmp sp.s) = ow.v := by
  have := h.slots sp.s _ hs (by simp)
  show a.tmps.getD sp.s undef = _
  rw [this]
  subst e1 e2 e3
  rfl
 have hxv : a.eval (.tmp sp.x) = .slice (some ⟨f b, off, none⟩) l cc := by
  have := h.slots sp.x _ hx (by simp)
  exact this
 obtain ⟨hlen, hget⟩ := rangeC_get hcells
 have hone' : ∀ v ∈ cells, oneS v = true := fun v hv => allB_iff hone v hv
 have hden : ∀ v ∈ cells, v.den f = v.den (fun _ => 0) := by
  intro v hv
  have := hone' v hv
  cases v <;> first | rfl | exact absurd this (by simp [oneS])
 rw [he, hsz] at hown
 refine wpList_append_own_at w hgd (.tmp sp.s) (.tmp sp.x) sp.t hop 0 sp.e i z sp.size sp.bytes hu hi hz1 hz2 hz3 hzs hpos ow.v ow.n ow.vals hsv hown ⟨f b, off, none⟩ l cc (cells.map (SV.den fun _ => 0)) hxv
  (by rw [List.length_map, hlen]) ?_ ?_ hmax hby (Nat.zero_le _) ?_
 · intro j u hj
   rw [List.getElem?_map] at hj
   obtain ⟨v, hv, rfl⟩ := Option.map_eq_some_iff.1 hj
   have h1 := h.mem.cell b (off + j) v (hget j v hv)
   rw [← hden v (List.mem_of_getElem? hv)]
   rw [show (⟨f b, off, none⟩ : Addr).add j = ⟨f b, off + j, none⟩ by simp [Addr.add]]
   exact h1
 · intro u hu
   obtain ⟨v, hv, rfl⟩ := List.mem_map.1 hu
   have := hone' v hv
   cases v <;> first | rfl | exact absurd this (by simp [oneS])
 · intro v' w' hown' hgrow _ hat
   refine hQ _ _ ?_
   have hv' : ∃ a' c', v' = .slice a' (ow.n + l) c' := by
    obtain ⟨_, ⟨rfl, hn0⟩ | ⟨b', cap, cur, rfl, _⟩⟩ := hown'
    · exact ⟨none, 0, by rw [hn0]⟩
    · exact ⟨_, _, rfl⟩
   obtain ⟨a', c', rfl⟩ := hv'
   refine ⟨a', c', rfl, f, ?_⟩
   have hlt : ∀ (q : Nat) (o : Own), g[q]? = some o → ∀ k, o.v.ownBlock = some k → k < w.heap.size := fun q o ho k hk => (World.ownsRow.lt (h.gh.own q o ho) k hk).2
   have hge : ∀ k, ow.v.ownBlock = some k → W.w0.heap.size ≤ k ∨ W.X k := fun k hk => h.gh.at_ sp.i ow hgi k hk
   have hsame : ∀ k, k < w.heap.size → (ow.v.ownBlock ≠ some k) → w'.heap[k]? = w.heap[k]? := fun k hk hne => hgrow.block k hk (fun hh => hne hh.symm)
   have hblk : ∀ b j, look m.blks b = some j → w'.heap[f b]? = w.heap[f b]? := by
    intro b j hj
    obtain ⟨arr, harr, _⟩ := h.mem.blk b j hj
    exact hsame _ (lt_of_blk harr) (fun hh => h.gh.off sp.i ow hgi _ hh b j hj rfl)
   have hget' : ∀ (q : Nat) (p : Own), (g.set sp.i ⟨sp.e, sp.size, a', ow.n + l, c', ow.xs ++ cells⟩)[q]? = some p → (q = sp.i ∧ p = ⟨sp.e, sp.size, a', ow.n + l, c', ow.xs ++ cells⟩) ∨ (q ≠ sp.i ∧ g[q]? = some p) := by
    intro q p hp
    rw [List.getElem?_set] at hp
    by_cases hq : sp.i = q
    · subst hq
      rw [if_pos rfl] at hp
      split at hp
      · simp only [Option.some.injEq] at hp
        exact .inl ⟨rfl, hp.symm⟩
      · cases hp
    · rw [if_neg hq] at hp
      exact .inr ⟨fun hh => hq hh.symm, hp⟩
   have hnew : ∀ k, (Value.slice a' (ow.n + l) c').ownBlock = some k → ow.v.ownBlock = some k ∨ k = w.heap.size := by
    intro k hk
    rcases hat with hat | hat
    · exact .inl (hat.symm.trans hk)
    · rw [hat] at hk
      simp only [Option.some.injEq] at hk
      exact .inr hk.symm
   refine ⟨?_, ?_, ?_, ?_, h.base, ?_, h.pin, ?_, ?_, ?_, ?_⟩
   · rw [hdst]
     simp [Act.put, h.size]
   · rw [hdst]
     simp [Act.put, h.defers]
   · rw [hdst]
     exact h.slots.put h.size (by simp [dstOk, Nat.blt]; omega) (.inr rfl)
   · refine ⟨?_, ?_, h.mem.known, h.mem.inj, fun b j hj _ => .inr ⟨b, j, hj, rfl⟩, h.mem.lt⟩
     · intro b j hj
       rw [hblk b j hj]
       exact h.mem.blk b j hj
     · intro b o v hv
       obtain ⟨j, hj⟩ := h.mem.known b o v hv
       rw [← h.mem.cell b o v hv]
       exact World.cell?_of_block (hblk b j hj)
   · refine ⟨hgrow.os.trans h.fr.os, hgrow.tape.trans h.fr.tape, hgrow.output.trans h.fr.output, Nat.le_trans h.fr.size hgrow.size, fun k hk hx => ?_, W.base⟩
     have := h.fr.size
     exact (hsame k (by omega) (fun hh => by rcases hge k hh with h1 | h1; omega; exact hx h1)).trans (h.fr.same k hk hx)
   · intro q p hp
     rcases hget' q p hp with ⟨_, rfl⟩ | ⟨hq, hp⟩
     · show w'.ownsRow 0 sp.e sp.size (.slice a' (ow.n + l) c') (ow.n + l) ((ow.xs ++ cells).map (SV.den fun _ => 0))
       rw [List.map_append]
       exact hown'
     · exact World.ownsRow.same (h.gh.own q p hp) (fun k hk => hsame k (hlt q p hp k hk) (h.gh.two q sp.i p ow hp hgi hq k hk))
   · intro q p hp k hk
     rcases hget' q p hp with ⟨_, rfl⟩ | ⟨_, hp⟩
     · rcases hnew k hk with h1 | h1
       · exact hge k h1
       · left
         have := h.fr.size
         omega
     · exact h.gh.at_ q p hp k hk
   · intro q p hp k hk b j hj hf
     rcases hget' q p hp with ⟨_, rfl⟩ | ⟨_, hp⟩
     · rcases hnew k hk with h1 | h1
       · exact h.gh.off sp.i ow hgi k h1 b j hj hf
       · obtain ⟨arr, harr, _⟩ := h.mem.blk b j hj
         have := lt_of_blk harr
         omega
     · exact h.gh.off q p hp k hk b j hj hf
   · intro q q' p p' hp hp' hne k hk hk'
     rcases hget' q p hp with ⟨rfl, rfl⟩ | ⟨h1, hp⟩ <;> rcases hget' q' p' hp' with ⟨rfl, rfl⟩ | ⟨h2, hp'⟩
     · exact hne rfl
     · rcases hnew k hk with h3 | h3
       · exact h.gh.two sp.i q' ow p' hgi hp' hne k h3 hk'
       · have := hlt q' p' hp' k hk'
         omega
     · rcases hnew k hk' with h3 | h3
       · exact h.gh.two q sp.i p ow hp hgi hne k hk h3
       · have := hlt q p hp k hk
         omega
     · exact h.gh.two q q' p p' hp hp' hne k hk hk'
theorem bind_leaf {nt : Nat} {K : SL → Mem → Gh → RG} {a : Act} {w : World} : ∀ {r : RG}, (r.bind K).Good → GPost W nt r .normal a w →
  ∃ s m g f, GSt W nt s m g f a w ∧ (K s m g).Good ∧ ∀ e a2 w2, GPost W nt (K s m g) e a2 w2 → GPost W nt (r.bind K) e a2 w2
 | .fail, _, hp => hp.elim
 | .leaf ex vc s1 m1 g1, hg, ⟨hex, f1, h1⟩ => by
  have : ex = .nrm := by cases ex <;> simp_all [exOf]
  subst this
  exact ⟨s1, m1, g1, f1, h1, (RG.good_addVc hg).1, fun e a2 w2 hq => RG.is_addVc hq⟩
 | .br b u v, hg, hp => by
  cases b
  · obtain ⟨s1, m1, g1, f1, h1, h2, h3⟩ := bind_leaf (hg.2 rfl) (hp.2 rfl)
    exact ⟨s1, m1, g1, f1, h1, h2, fun e a2 w2 hq => ⟨fun hb => (by cases hb), fun _ => h3 e a2 w2 hq⟩⟩
  · obtain ⟨s1, m1, g1, f1, h1, h2, h3⟩ := bind_leaf (hg.1 rfl) (hp.1 rfl)
    exact ⟨s1, m1, g1, f1, h1, h2, fun e a2 w2 hq => ⟨fun _ => h3 e a2 w2 hq, fun hb => (by cases hb)⟩⟩
 | .any k, hg, ⟨aa, nn, hp⟩ => by
  obtain ⟨s1, m1, g1, f1, h1, h2, h3⟩ := bind_leaf (hg aa nn) hp
  exact ⟨s1, m1, g1, f1, h1, h2, fun e a2 w2 hq => ⟨aa, nn, h3 e a2 w2 hq⟩⟩
 | .pick _ k, hg, ⟨y, hp⟩ => by
  obtain ⟨s1, m1, g1, f1, h1, h2, h3⟩ := bind_leaf (hg y) hp
  exact ⟨s1, m1, g1, f1, h1, h2, fun e a2 w2 hq => ⟨y, h3 e a2 w2 hq⟩⟩
theorem bind_other {nt : Nat} {K : SL → Mem → Gh → RG} {r : RG} {e : Exit} {a : Act} {w : World} (hne : e ≠ .normal) (hp : GPost W nt r e a w) : GPost W nt (r.bind K) e a w := by
 refine RG.is_bind (Φ := fun ex s m g => exOf ex = some e ∧ ∃ f, GSt W nt s m g f a w) ?_ (fun _ _ _ _ _ h => h) hp
 rintro s m g ⟨h1, _⟩
 simp only [exOf, Option.some.injEq] at h1
 exact absurd h1.symm hne
theorem runG_sound (hG : GOk W.W P G) {N nt : Nat} : ∀ (t : HG) (c : Code) (s : SL) (m : Mem) (g : Gh) (f : Nat → Nat) (a : Act) (w : World), HGOk W P nt t c → (runG P W.W G N nt t c s m g).Good → GSt W nt s m g f a w →
  c.wp P (GPost W nt (runG P W.W G N nt t c s m g)) a w := by
 intro t
 induction t with
 | plain =>
  intro c s m g f a w _ hg h
  exact wp_mono ((sound hG (fun n hS => draw_sound hG n hS) N).code w _ c ⟨nt, [], noMem⟩ s m f a w (toG_good hg).1 (by rw [List.append_nil, on_noMem]; exact h.rel)) (fun e a' w' hp => toG_post h hg hp)
 | seq x y ihx ihy =>
  intro c s m g f a w hh hg h
  cases c with
  | seq p q =>
   simp only [runG] at hg ⊢
   refine wp_seq (wp_mono (ihx p s m g f a w hh.1 (RG.good_of_bind hg) h) ?_)
   intro e a1 w1 hp
   cases e with
   | normal =>
    obtain ⟨s1, m1, g1, f1, h1, hgood, hlift⟩ := bind_leaf hg hp
    exact wp_mono (ihy q s1 m1 g1 f1 a1 w1 hh.2 hgood h1) hlift
   | exit i => exact bind_other (by simp) hp
   | goto l => exact bind_other (by simp) hp
   | ret => exact bind_other (by simp) hp
   | panic c => exact bind_other (by simp) hp
   | outgrown => exact bind_other (by simp) hp
  | _ => exact hg.elim
 | block x ihx =>
  intro c s m g f a w hh hg h
  cases c with
  | block id p =>
   simp only [runG] at hg ⊢
   refine wp_block (wp_mono (ihx p s m g f a w hh (RG.good_unblock hg) h) ?_)
   intro e a1 w1 hp
   cases e with
   | exit i =>
    simp only [Exit.inBlock]
    split
    · rename_i hi
      refine RG.is_unblock (RG.Is.mono ?_ hp)
      rintro ex s m g ⟨h1, h2⟩
      cases ex <;> simp only [exOf, Option.some.injEq, Exit.exit.injEq] at h1 <;> first | (exact absurd h1 (by simp)) | skip
      subst h1
      exact ⟨by simp [hi, exOf], h2⟩
    · rename_i hi
      refine RG.is_unblock (RG.Is.mono ?_ hp)
      rintro ex s m g ⟨h1, h2⟩
      cases ex <;> simp only [exOf, Option.some.injEq, Exit.exit.injEq] at h1 <;> first | (exact absurd h1 (by simp)) | skip
      subst h1
      exact ⟨by simp [hi, exOf], h2⟩
   | _ =>
    refine RG.is_unblock (RG.Is.mono ?_ hp)
    rintro ex s m g ⟨h1, h2⟩
    cases ex <;> first | exact ⟨h1, h2⟩ | (simp [exOf] at h1)
  | _ => exact hg.elim
 | cond x y ihx ihy =>
  intro c s m g f a w hh hg h
  cases c with
  | cond q p1 p2 =>
   simp only [runG] at hg ⊢
   split at hg
   · rename_i hc
     exact wp_cond_true (evalO_sound h.slots hc).1 (ihx p1 s m g f a w hh.1 hg h)
   · rename_i hc
     exact wp_cond_false (evalO_sound h.slots hc).1 (ihy p2 s m g f a w hh.2 hg h)
   · rename_i b hc
     have h1 := (evalO_sound h.slots hc).1
     simp only [TV.den, SV.den, SB.val_sym] at h1
     refine wp_cond_split h1 ?_ ?_
     · rintro rfl
       exact wp_mono (ihx p1 s m g f a w hh.1 (hg.1 rfl) h) (fun e a' w' hp => ⟨fun _ => hp, fun hb => (by cases hb)⟩)
     · rintro rfl
       exact wp_mono (ihy p2 s m g f a w hh.2 (hg.2 rfl) h) (fun e a' w' hp => ⟨fun hb => (by cases hb), fun _ => hp⟩)
   · exact hg.elim
  | _ => exact hg.elim
 | gap sp =>
  intro c s m g f a w hh hg h
  cases c with
  | region id ops draw =>
   cases draw with
   | true =>
    cases hc : (P.follows .mixedOrders && cutOk ops sp.k)
    · simp only [runG, hc] at hg
      exact hg.elim
    · simp only [runG, hc] at hg ⊢
      rw [Bool.and_eq_true] at hc
      have hg1 := RG.good_of_bind hg
      have hb := h.mem.known
      have hgr : (run P W.W G N (.dops ops (ops.toList.take sp.k) 0 [] []) ⟨nt, s, m⟩ [] m.fresh).good := good_of_over hb (toG_good hg1).1
      refine draw_cut hG hc.2 hc.1 hgr h.rel fun a1 w1 hp0 => ?_
      have hp := toG_post h hg1 (Post.of_over (bs := []) (bm := noMem) (by rw [on_noMem]; exact hb) (by rw [List.append_nil, on_noMem]; exact (toG_good hg1).1) (by rw [List.append_nil, on_noMem]; exact hp0) |> fun q => by
       rw [List.append_nil, on_noMem] at q
       exact q)
      obtain ⟨s1, m1, g1, f1, h1, hgood, hlift⟩ := bind_leaf hg hp
      refine grow_sound hh.1 hh.2 (RG.good_of_bind hgood) h1 fun a2 w2 hp2 => ?_
      obtain ⟨s2, m2, g2, f2, h2, hgood2, hlift2⟩ := bind_leaf hgood hp2
      exact wpList_up (fun e a' w' hp => hlift _ _ _ (hlift2 _ _ _ (toG_post h2 hgood2 hp))) _ _ _
       ((sound hG (fun n hS => draw_sound hG n hS) N).ops w2 _ ops (ops.toList.drop (sp.k + 1)) ⟨nt, [], noMem⟩ s2 m2 f2 a2 w2 (toG_good hgood2).1 (by rw [List.append_nil, on_noMem]; exact h2.rel))
   | false =>
    simp only [runG] at hg ⊢
    have hg1 := RG.good_of_bind hg
    refine wp_region_list ?_
    suffices key : wpList P ops (GPost W nt (((run P W.W G N (.ops ops (ops.toList.take sp.k)) ⟨nt, [], noMem⟩ s m).toG g).bind fun s m g =>
      (grow sp s m g).bind fun s m g => (run P W.W G N (.ops ops (ops.toList.drop (sp.k + 1))) ⟨nt, [], noMem⟩ s m).toG g)) (ops.toList.take sp.k ++ ops.toList.drop sp.k) a w by
     rw [List.take_append_drop] at key
     exact key
    refine wpList_cat (Q' := fun e a w => GPost W nt ((run P W.W G N (.ops ops (ops.toList.take sp.k)) ⟨nt, [], noMem⟩ s m).toG g) e a w) ?_ ?_ _ _ _
     (wpList_up (fun e a' w' hp => toG_post h hg1 hp) _ _ _ ((sound hG (fun n hS => draw_sound hG n hS) N).ops w _ ops (ops.toList.take sp.k) ⟨nt, [], noMem⟩ s m f a w (toG_good hg1).1 (by rw [List.append_nil, on_noMem]; exact h.rel)))
    · intro a1 w1 hp
      obtain ⟨s1, m1, g1, f1, h1, hgood, hlift⟩ := bind_leaf hg hp
      refine grow_sound hh.1 hh.2 (RG.good_of_bind hgood) h1 fun a2 w2 hp2 => ?_
      obtain ⟨s2, m2, g2, f2, h2, hgood2, hlift2⟩ := bind_leaf hgood hp2
      exact wpList_up (fun e a' w' hp => hlift _ _ _ (hlift2 _ _ _ (toG_post h2 hgood2 hp))) _ _ _
       ((sound hG (fun n hS => draw_sound hG n hS) N).ops w2 _ ops (ops.toList.drop (sp.k + 1)) ⟨nt, [], noMem⟩ s2 m2 f2 a2 w2 (toG_good hgood2).1 (by rw [List.append_nil, on_noMem]; exact h2.rel))
    · intro e a1 w1 hne hp
      exact bind_other hne hp
  | _ => exact hg.elim
 | loop hl =>
  intro c s m g f a w hh hg h
  cases c with
  | loop body =>
   cases hb : (Nat.beq m.next hl.N && allB (fun p => Nat.blt p.1 hl.N) hl.bs)
   · simp only [runG, hb] at hg
     exact hg.elim
   · cases hB : pickB m hl.bs with
     | none =>
      simp only [runG, hb, hB] at hg
      exact hg.elim
     | some Bl =>
      simp only [runG, hb, hB] at hg ⊢
      simp only [Bool.and_eq_true, Nat.beq_eq] at hb
      exact hh _ Bl g f a w hg (h.pick hB hb.2 (fun i hi => hb.1 ▸ (h.pin i hi).2) hl.ks)
  | _ => exact hg.elim
 | cust F =>
  intro c s m g f a w hh hg h
  have e : runG P W.W G N nt (.cust F) c s m g = F s m g := by cases c <;> rfl
  have hh' : CustOk W P nt c F := by cases c <;> exact hh
  rw [e] at hg ⊢
  exact hh' s m g f a w hg h
end
end Go.Sx
namespace Go.Sx
open Go Go.RowKit
def RG.All (Φ : Ex → SB → SL → Mem → Gh → Prop) : RG → Prop
 | .fail => False
 | .leaf e vc s m g => Φ e vc s m g
 | .br b x y => (b = true → x.All Φ) ∧ (b = false → y.All Φ)
 | .any k => ∀ a n, (k a n).All Φ
 | .pick _ k => ∀ y, (k y).All Φ
theorem RG.All.good {Φ : Ex → SB → SL → Mem → Gh → Prop} (h : ∀ e vc s m g, Φ e vc s m g → vc.val = true) : ∀ {r : RG}, r.All Φ → r.Good
 | .fail, hr => hr
 | .leaf _ _ _ _ _, hr => h _ _ _ _ _ hr
 | .br _ _ _, hr => ⟨fun hb => (hr.1 hb).good h, fun hb => (hr.2 hb).good h⟩
 | .any _, hr => fun a n => (hr a n).good h
 | .pick _ _, hr => fun y => (hr y).good h
theorem RG.All.meet {Φ : Ex → SB → SL → Mem → Gh → Prop} {Ψ : Ex → SL → Mem → Gh → Prop} : ∀ {r : RG}, r.All Φ → r.Is Ψ → ∃ e vc s m g, Φ e vc s m g ∧ Ψ e s m g
 | .fail, _, h => h.elim
 | .leaf e vc s m g, h1, h2 => ⟨e, vc, s, m, g, h1, h2⟩
 | .br b _ _, h1, h2 => by
  cases b
  · exact (h1.2 rfl).meet (h2.2 rfl)
  · exact (h1.1 rfl).meet (h2.1 rfl)
 | .any _, h1, ⟨a, n, h2⟩ => (h1 a n).meet h2
 | .pick _ _, h1, ⟨y, h2⟩ => (h1 y).meet h2
def RG.slim (N : Nat) (ks bs ke be : List (Nat × Bool)) : RG → RG
 | .fail => .fail
 | .leaf e vc s m g => match pickB m (e.sel bs be) with
  | some l => .leaf e vc (pickS (look s) (e.sel ks ke)) ⟨[], l, N⟩ g
  | none => .fail
 | .br b x y => .br b (x.slim N ks bs ke be) (y.slim N ks bs ke be)
 | .any k => .any fun a n => (k a n).slim N ks bs ke be
 | .pick x k => .pick x fun y => (k y).slim N ks bs ke be
section
variable {W : Bs} {P : Program} {G : List (Nat × Spec)}
theorem slim_good {N : Nat} {ks bs ke be : List (Nat × Bool)} : ∀ {r : RG}, (r.slim N ks bs ke be).Good → r.Good
 | .fail, h => h
 | .leaf e vc s m g, h => by
  simp only [RG.slim] at h
  split at h
  · exact h
  · exact h.elim
 | .br _ _ _, h => ⟨fun hb => slim_good (h.1 hb), fun hb => slim_good (h.2 hb)⟩
 | .any _, h => fun a n => slim_good (h a n)
 | .pick _ _, h => fun y => slim_good (h y)
theorem slim_post {nt N : Nat} (hpn : ∀ i, W.pin = some i → 0 < N) {ks bs ke be : List (Nat × Bool)} (hbs : allB (fun p => Nat.blt p.1 N) bs = true) (hbe : allB (fun p => Nat.blt p.1 N) be = true) {e : Exit} {a : Act} {w : World} :
  ∀ {r : RG}, (r.slim N ks bs ke be).Good → GPost W nt r e a w → GPost W nt (r.slim N ks bs ke be) e a w
 | .fail, h, _ => h.elim
 | .leaf ex vc s m g, h, ⟨hex, f, hst⟩ => by
  cases hp : pickB m (ex.sel bs be) with
  | none =>
   simp only [RG.slim, hp] at h
   exact h.elim
  | some l =>
   simp only [RG.slim, hp]
   refine ⟨hex, f, hst.pick hp ?_ hpn _⟩
   cases ex <;> first | exact hbs | exact hbe
 | .br _ _ _, h, hp => ⟨fun hb => slim_post hpn hbs hbe (h.1 hb) (hp.1 hb), fun hb => slim_post hpn hbs hbe (h.2 hb) (hp.2 hb)⟩
 | .any _, h, ⟨x, n, hp⟩ => ⟨x, n, slim_post hpn hbs hbe (h x n) hp⟩
 | .pick _ _, h, ⟨y, hp⟩ => ⟨y, slim_post hpn hbs hbe (h y) hp⟩
theorem loopG_core (hG : GOk W.W P G) {n nt N : Nat} {body : Code} {ks bs : List (Nat × Bool)} {π : Type} (Inv : π → Prop) (t : π → HG) (ht : ∀ p, Inv p → HGOk W P nt (t p) body) (μ : π → Nat) (SP : π → SL) (BP : π → List (Nat × BI)) (GP : π → Gh) (End : RG)
  (ke be : List (Nat × Bool)) (hbs : allB (fun p => Nat.blt p.1 N) bs = true) (hbe : allB (fun p => Nat.blt p.1 N) be = true)
  (step : ∀ p, Inv p → ((runG P W.W G n nt (t p) body (SP p) ⟨[], BP p, N⟩ (GP p)).slim N ks bs ke be).All fun e vc s m g => vc.val = true ∧
   ((e = .nrm ∧ ∃ p', Inv p' ∧ μ p' < μ p ∧ s = SP p' ∧ m = ⟨[], BP p', N⟩ ∧ g = GP p') ∨ (e ≠ .nrm ∧ ∀ f a w, GSt W nt s m g f a w → ∀ e', exOf e = some e' → GPost W nt End e' a w)))
  (p : π) (f : Nat → Nat) (a : Act) (w : World) (hI : Inv p) (hst : GSt W nt (SP p) ⟨[], BP p, N⟩ (GP p) f a w) (hpn : ∀ i, W.pin = some i → 0 < N) : (Code.loop body).wp P (GPost W nt End) a w := by
 have key : ∀ (k : Nat) (q : π) (f1 : Nat → Nat) (a : Act) (w : World), μ q < k → Inv q → GSt W nt (SP q) ⟨[], BP q, N⟩ (GP q) f1 a w → Code.rounds P body (GPost W nt End) k a w := by
  intro k
  induction k with
  | zero => intro q f1 a w hk; omega
  | succ k ih =>
   intro q f1 a w hk hI hst
   rw [rounds_succ]
   have hs := step q hI
   have hgd := RG.All.good (fun _ _ _ _ _ h => h.1) hs
   refine wp_mono (runG_sound hG (t q) body _ _ _ f1 a w (ht q hI) (slim_good hgd) hst) ?_
   intro e a2 w2 hp
   have hp2 := slim_post hpn hbs hbe hgd hp
   obtain ⟨ex, vc, s, m, g, ⟨_, hnext⟩, hex, f2, hst2⟩ := RG.All.meet hs hp2
   rcases hnext with ⟨rfl, p', hI', hlt, rfl, rfl, rfl⟩ | ⟨hne, hout⟩
   · simp only [exOf, Option.some.injEq] at hex
     subst hex
     exact ih p' f2 a2 w2 (by omega) hI' hst2
   · have hpost := hout f2 a2 w2 hst2 e hex
     cases e with
     | normal => cases ex <;> simp_all [exOf]
     | _ => exact hpost
 exact wp_loop_rounds (μ p + 1) (key (μ p + 1) p f a w (Nat.lt_succ_self _) hI hst)
theorem Own.rel.up {B : Nat} {w : World} {o : Own} (h : o.rel 0 w) (hk : ∀ k, o.v.ownBlock = some k → B ≤ k) : o.rel B w := by
 obtain ⟨h1, h2 | ⟨b, cap, cur, h3, h4, h5⟩⟩ := h
 · exact ⟨h1, .inl h2⟩
 · exact ⟨h1, .inr ⟨b, cap, cur, h3, hk b (by rw [h3]; rfl), h5⟩⟩
theorem calls_of_runX (hG : GOk W.W P G) {n : Nat} {g : FuncId} {fn : Func} {c : Code} (hfn : P.funcs[g]? = some fn) (hc : fn.body = some c) {t : HG} (ht : HGOk W P fn.ntmps t c) {args : List TV} (hle : args.length ≤ fn.ntmps) {R : TV → Mem → Gh → Prop} {N : Nat} {ks bs ke be : List (Nat × Bool)} (hbs : allB (fun p => Nat.blt p.1 N) bs = true) (hbe : allB (fun p => Nat.blt p.1 N) be = true)
  {m0 : Mem} {f0 : Nat → Nat} (hm : MOk W.w0 (fun i => ∃ b j, look m0.blks b = some j ∧ f0 b = i) f0 m0 W.w0) (hX : ∀ b j, look m0.blks b = some j → W.X (f0 b)) (hp0 : ∀ i, W.pin = some i → f0 0 = i ∧ 0 < m0.next) (hpn : ∀ i, W.pin = some i → 0 < N)
  (hres : ((runG P W.W G n fn.ntmps t c (argSlots 0 args) m0 []).slim N ks bs ke be).All fun e vc s m g => vc.val = true ∧ (e = .nrm ∨ e = .ret) ∧ ∃ ps v, resultsS P (look s) m fn.results.toList = some ps ∧ resultV ps = some v ∧ R v m g) :
  Calls P g (args.map (TV.den f0)).toArray W.w0 fun en w' => ∃ v m g f, R v m g ∧ en = .returned (v.den f) ∧ (∀ (q : Nat) (o : Own), g[q]? = some o → o.rel 0 w' ∧ ∀ k, o.v.ownBlock = some k → W.w0.heap.size ≤ k ∨ W.X k) ∧ Fr W.W W.w0 W.X w' ∧ MOk w' (fun i => ∃ b j, look m.blks b = some j ∧ f b = i) f m w' ∧ (∀ b j, look m.blks b = some j → W.w0.heap.size ≤ f b ∨ W.X (f b)) ∧ ∀ i, W.pin = some i → f 0 = i := by
 have hf : Fr W.W W.w0 (fun i => ∃ b j, look m0.blks b = some j ∧ f0 b = i) W.w0 := ⟨rfl, rfl, rfl, Nat.le_refl _, fun _ _ _ => rfl, W.base.old, fun i ⟨b, j, hj, hi⟩ => W.base.out i (hi ▸ hX b j hj)⟩
 have hr := fn_rel (nt := fn.ntmps) hle hm hf
 have hst : GSt W fn.ntmps (argSlots 0 args) m0 [] f0 { tmps := (args.map (TV.den f0)).toArray ++ Array.replicate (fn.ntmps - (args.map (TV.den f0)).toArray.size) undef, defers := [] } W.w0 := by
  refine ⟨hr.size, hr.defers, hr.slots, hm, fun b j hj => .inr (hX b j hj), ⟨rfl, rfl, rfl, Nat.le_refl _, fun _ _ _ => rfl, W.base⟩, hp0, ?_, ?_, ?_, ?_⟩
  · intro q o ho; simp at ho
  · intro q o ho; simp at ho
  · intro q o ho; simp at ho
  · intro q q' o p ho; simp at ho
 have hgd := RG.All.good (fun _ _ _ _ _ h => h.1) hres
 refine calls_of_wp hfn hc (wp_mono (runG_sound hG t c _ _ _ _ _ W.w0 ht (slim_good hgd) hst) ?_)
 intro e a1 w1 hp1
 have hp := slim_post hpn hbs hbe hgd hp1
 obtain ⟨ex, vc, s, m, gh, ⟨_, hexx, ps, v, hps, hv, hR⟩, hex, f2, hst2⟩ := RG.All.meet hres hp
 obtain ⟨h1, h2⟩ := results_run (P := P) hst2.slots hst2.mem.cell hps hv
 have fin : a1.defers = [] ∧ ∃ u, (results fn a1.tmps).run P w1 = .ok u w1 ∧ ∃ v m g f, R v m g ∧ Ending.returned u = .returned (v.den f) ∧ (∀ (q : Nat) (o : Own), g[q]? = some o → o.rel 0 w1 ∧ ∀ k, o.v.ownBlock = some k → W.w0.heap.size ≤ k ∨ W.X k) ∧ Fr W.W W.w0 W.X w1 ∧ MOk w1 (fun i => ∃ b j, look m.blks b = some j ∧ f b = i) f m w1 ∧ (∀ b j, look m.blks b = some j → W.w0.heap.size ≤ f b ∨ W.X (f b)) ∧ ∀ i, W.pin = some i → f 0 = i :=
  ⟨hst2.defers, _, h1, v, m, gh, f2, hR, rfl, fun q o ho => ⟨hst2.gh.own q o ho, hst2.gh.at_ q o ho⟩, hst2.fr, hst2.mem, hst2.base, fun i hi => (hst2.pin i hi).1⟩
 rcases hexx with rfl | rfl
 · simp only [exOf, Option.some.injEq] at hex
   subst hex
   exact fin
 · simp only [exOf, Option.some.injEq] at hex
   subst hex
   exact fin
theorem calls_of_runG {W : World} (hG : GOk W P G) {n : Nat} {g : FuncId} {fn : Func} {c : Code} (hfn : P.funcs[g]? = some fn) (hc : fn.body = some c) {t : HG} (ht : HGOk W P fn.ntmps t c) {args : List TV} (hle : args.length ≤ fn.ntmps) {R : TV → Gh → Prop} {N : Nat} {ks bs ke be : List (Nat × Bool)} (hbs : allB (fun p => Nat.blt p.1 N) bs = true) (hbe : allB (fun p => Nat.blt p.1 N) be = true)
  (hres : ((runG P W G n fn.ntmps t c (argSlots 0 args) noMem []).slim N ks bs ke be).All fun e vc s m g => vc.val = true ∧ (e = .nrm ∨ e = .ret) ∧ ∃ ps v, resultsS P (look s) m fn.results.toList = some ps ∧ resultV ps = some v ∧ R v g) :
  Calls P g (args.map (TV.den fun _ => 0)).toArray W fun en w' => ∃ v g f, R v g ∧ en = .returned (v.den f) ∧ (∀ (q : Nat) (o : Own), g[q]? = some o → o.rel W.heap.size w') ∧ Below W.heap.size W w' := by
 have hm : MOk W (fun i => ∃ b j, look noMem.blks b = some j ∧ (fun _ => 0) b = i) (fun _ => 0) noMem W := by
  refine ⟨?_, ?_, ?_, ?_, ?_, ?_⟩ <;> intro b <;> simp [noMem, look, Mem.get, findC]
 refine (calls_of_runX (W := Bs.of W) hG hfn hc ht hle (R := fun v _ g => R v g) hbs hbe hm (fun b j hj => by simp [noMem, look] at hj) (fun i hi => by cases hi) (fun i hi => by cases hi) hres).mono ?_
 rintro en w' ⟨v, m, g, f, hR, he, ho, hf, _, _, _⟩
 exact ⟨v, g, f, hR, he, fun q o hq => (ho q o hq).1.up fun k hk => ((ho q o hq).2 k hk).resolve_right (fun h => h), hf.os, hf.tape, hf.output, hf.size, fun i hi => hf.same i hi (fun h => h)⟩
end
def gapB (P : Program) (sp : GapSp) (ops : Array Oper) : Bool :=
 match ops.toList[sp.k]? with
 | some o => (match o.guard with | none => true | some _ => false) && (match o.dst with | some d => Nat.beq d sp.d | none => false) &&
   (match o.op with
   | .call ⟨.builtin .append, az, ts⟩ => (match az.toList with | [.tmp s, .tmp x] => Nat.beq s sp.s && Nat.beq x sp.x | _ => false) && (match ts.toList with | [t, u] => Nat.beq t sp.t && Nat.beq u sp.t | _ => false)
   | _ => false) &&
   (match P.underlying sp.t with | some (.slice e) => Nat.beq e sp.e | _ => false) &&
   (match P.info? sp.e with
   | some i => (match i.zero with | some z => Nat.beq z.cells.size sp.size | none => false) && Nat.beq i.size sp.size && Nat.beq i.bytes sp.bytes
   | none => false) && Nat.blt 0 sp.size
 | none => false
theorem gapB_ok {P : Program} {sp : GapSp} {ops : Array Oper} (h : gapB P sp ops = true) : GapOk P sp ops := by
 unfold gapB at h
 split at h <;> try contradiction
 rename_i o ho
 simp only [Bool.and_eq_true] at h
 obtain ⟨⟨⟨⟨⟨h1, h2⟩, h3⟩, h4⟩, h5⟩, h6⟩ := h
 split at h1 <;> try contradiction
 rename_i hg
 split at h2 <;> try contradiction
 rename_i d hd
 split at h3 <;> try contradiction
 rename_i az ts hop
 rw [Bool.and_eq_true] at h3
 obtain ⟨h7, h8⟩ := h3
 split at h7 <;> try contradiction
 rename_i s x has
 split at h8 <;> try contradiction
 rename_i t u hts
 split at h4 <;> try contradiction
 rename_i e he
 split at h5 <;> try contradiction
 rename_i i hi
 simp only [Bool.and_eq_true, Nat.beq_eq] at h5 h7 h8 h2 h4
 obtain ⟨⟨h9, h10⟩, h11⟩ := h5
 split at h9 <;> try contradiction
 rename_i z hz
 rw [Nat.beq_eq] at h9
 have e1 : az = #[.tmp s, .tmp x] := by rw [← Array.toArray_toList (xs := az), has]
 have e2 : ts = #[t, u] := by rw [← Array.toArray_toList (xs := ts), hts]
 refine ⟨o, ho, hg, by rw [hd, h2], ?_, by rw [he, h4], ⟨z, by rw [hi, Option.map_some, hz, h10, h11], h9⟩, lt_of_blt h6⟩
 rw [hop, e1, e2, h7.1, h7.2, h8.1, h8.2]
def hgB (P : Program) (nt : Nat) : HG → Code → Bool
 | .plain, _ => true
 | .seq x y, .seq a b => hgB P nt x a && hgB P nt y b
 | .block x, .block _ c => hgB P nt x c
 | .cond x y, .cond _ a b => hgB P nt x a && hgB P nt y b
 | .gap sp, .region _ ops _ => gapB P sp ops && Nat.blt sp.d nt
 | _, _ => false
theorem hgB_ok {W : Bs} {P : Program} {nt : Nat} : ∀ (t : HG) (c : Code), hgB P nt t c = true → HGOk W P nt t c := by
 intro t
 induction t with
 | plain => intro c _; exact trivial
 | seq x y ihx ihy =>
  intro c h
  cases c <;> simp only [hgB, Bool.and_eq_true, Bool.false_eq_true] at h
  exact ⟨ihx _ h.1, ihy _ h.2⟩
 | block x ih =>
  intro c h
  cases c <;> simp only [hgB, Bool.false_eq_true] at h
  exact ih _ h
 | cond x y ihx ihy =>
  intro c h
  cases c <;> simp only [hgB, Bool.and_eq_true, Bool.false_eq_true] at h
  exact ⟨ihx _ h.1, ihy _ h.2⟩
 | gap sp =>
  intro c h
  cases c <;> simp only [hgB, Bool.and_eq_true, Bool.false_eq_true] at h
  exact ⟨gapB_ok h.1, lt_of_blt h.2⟩
 | loop _ =>
  intro c h
  cases c <;> simp [hgB] at h
 | cust _ =>
  intro c h
  cases c <;> simp [hgB] at h
noncomputable def LG.at_ (c : Bool) (ks bs : List (Nat × Bool)) (N : Nat) (S0 : SL) (B0 : List (Nat × BI)) (g0 : Gh) (End : RG) : LG :=
 ⟨ks, bs, N, fun S B g => End.addVc (.sym (c && (sameS S S0 && (sameB B B0 && @decide (g = g0) (Classical.propDecidable _)))))⟩
theorem GSt.fresh {W : Bs} {nt : Nat} {s : SL} {m : Mem} {g : Gh} {f : Nat → Nat} {a : Act} {w : World} (h : GSt W nt s m g f a w) (e : TypeId) (size : Nat) : GSt W nt s m (g ++ [⟨e, size, none, 0, 0, []⟩]) f a w := by
 have hget : ∀ (q : Nat) (o : Own), (g ++ [(⟨e, size, none, 0, 0, []⟩ : Own)])[q]? = some o → g[q]? = some o ∨ o = ⟨e, size, none, 0, 0, []⟩ := by
  intro q o ho
  by_cases hq : q < g.length
  · rw [List.getElem?_append_left hq] at ho; exact .inl ho
  · rw [List.getElem?_append_right (by omega)] at ho
    right
    have := List.mem_of_getElem? ho
    simpa using this
 refine ⟨h.size, h.defers, h.slots, h.mem, h.base, h.fr, h.pin, ?_, ?_, ?_, ?_⟩
 · intro q o ho
   rcases hget q o ho with h1 | rfl
   · exact h.gh.own q o h1
   · exact World.ownsRow_nil _ _ _ _
 · intro q o ho k hk
   rcases hget q o ho with h1 | rfl
   · exact h.gh.at_ q o h1 k hk
   · cases hk
 · intro q o ho k hk
   rcases hget q o ho with h1 | rfl
   · exact h.gh.off q o h1 k hk
   · cases hk
 · intro q q' o p ho hp hne k hk hk'
   rcases hget q o ho with h1 | rfl
   · rcases hget q' p hp with h2 | rfl
     · exact h.gh.two q q' o p h1 h2 hne k hk hk'
     · cases hk'
   · cases hk
section
variable {W : Bs} {P : Program} {G : List (Nat × Spec)}
theorem loopG_at (hG : GOk W.W P G) {n nt : Nat} {body : Code} {c : Bool} {ks bs : List (Nat × Bool)} {N : Nat} {S0 : SL} {B0 : List (Nat × BI)} {g0 : Gh} {End : RG} {π : Type} (Inv : π → Prop) (t : π → HG) (ht : ∀ p, Inv p → HGOk W P nt (t p) body) (μ : π → Nat)
  (SP : π → SL) (BP : π → List (Nat × BI)) (GP : π → Gh) (ke be : List (Nat × Bool)) (hbs : allB (fun p => Nat.blt p.1 N) bs = true) (hbe : allB (fun p => Nat.blt p.1 N) be = true) (hpn : ∀ i, W.pin = some i → 0 < N)
  (start : c = true → ∃ p, Inv p ∧ S0 = SP p ∧ B0 = BP p ∧ (GP p = g0 ∨ ∃ e size, GP p = g0 ++ [⟨e, size, none, 0, 0, []⟩]))
  (step : ∀ p, Inv p → ((runG P W.W G n nt (t p) body (SP p) ⟨[], BP p, N⟩ (GP p)).slim N ks bs ke be).All fun e vc s m g => vc.val = true ∧
   ((e = .nrm ∧ ∃ p', Inv p' ∧ μ p' < μ p ∧ s = SP p' ∧ m = ⟨[], BP p', N⟩ ∧ g = GP p') ∨ (e ≠ .nrm ∧ ∀ f a w, GSt W nt s m g f a w → ∀ e', exOf e = some e' → GPost W nt End e' a w))) :
  LoopGOk W P nt body (LG.at_ c ks bs N S0 B0 g0 End) := by
 intro S Bl g f a w hgood hst
 obtain ⟨h1, h2⟩ := RG.good_addVc hgood
 have h3 := h2 (RG.good_is h1)
 simp only [SB.val_sym, Bool.and_eq_true, decide_eq_true_eq] at h3
 obtain ⟨h4, h5, h6, h7⟩ := h3
 obtain ⟨p, hI, h8, h9, h10⟩ := start h4
 have e1 := sameS_eq h5
 have e2 := sameB_eq h6
 subst e1 e2 h7
 have hst' : GSt W nt (SP p) ⟨[], BP p, N⟩ (GP p) f a w := by
  rw [← h8, ← h9]
  rcases h10 with h10 | ⟨e, size, h10⟩
  · rw [h10]; exact hst
  · rw [h10]; exact hst.fresh e size
 exact wp_mono (loopG_core hG Inv t ht μ SP BP GP End ke be hbs hbe step p f a w hI hst' hpn) (fun e a w hp => RG.is_addVc hp)
structure StepOk (W : Bs) (P : Program) (G : List (Nat × Spec)) (n nt : Nat) (t : HG) (body : Code) (N : Nat) (ks bs ke be : List (Nat × Bool)) {π : Type} (Inv : π → Prop) (μ : π → Nat) (SP : π → SL) (BP : π → List (Nat × BI)) (GP : π → Gh) (End : RG) : Prop where
 step : ∀ p, Inv p → ((runG P W.W G n nt t body (SP p) ⟨[], BP p, N⟩ (GP p)).slim N ks bs ke be).All fun e vc s m g => vc.val = true ∧
   ((e = .nrm ∧ ∃ p', Inv p' ∧ μ p' < μ p ∧ s = SP p' ∧ m = ⟨[], BP p', N⟩ ∧ g = GP p') ∨ (e ≠ .nrm ∧ ∀ f a w, GSt W nt s m g f a w → ∀ e', exOf e = some e' → GPost W nt End e' a w))
theorem loopG_step (hG : GOk W.W P G) {n nt : Nat} {body : Code} {c : Bool} {ks bs : List (Nat × Bool)} {N : Nat} {S0 : SL} {B0 : List (Nat × BI)} {g0 : Gh} {End : RG} {t : HG} (ht : HGOk W P nt t body) {π : Type} {Inv : π → Prop} {μ : π → Nat}
  {SP : π → SL} {BP : π → List (Nat × BI)} {GP : π → Gh} {ke be : List (Nat × Bool)} (hbs : allB (fun p => Nat.blt p.1 N) bs = true) (hbe : allB (fun p => Nat.blt p.1 N) be = true)
  (hst : StepOk W P G n nt t body N ks bs ke be Inv μ SP BP GP End)
  (start : c = true → ∃ p, Inv p ∧ S0 = SP p ∧ B0 = BP p ∧ (GP p = g0 ∨ ∃ e size, GP p = g0 ++ [⟨e, size, none, 0, 0, []⟩])) (hpn : ∀ i, W.pin = some i → 0 < N := by (intro i hi; first | (cases hi; done) | decide)) :
  LoopGOk W P nt body (LG.at_ c ks bs N S0 B0 g0 End) := loopG_at hG Inv (fun _ => t) (fun _ _ => ht) μ SP BP GP ke be hbs hbe hpn start hst.step
end
end Go.Sx
