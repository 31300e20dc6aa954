/- Code with appends to slices that it made itself: the walk, sound. No program of the seat is named here. -/
import Derived.Test.YtdglgiaegjkinaaDoorGapA
import Derived.Test.YtdglgiaegjkinaaDoorGapD
namespace Go.Sx
open Go Go.RowKit

/-- Where an append stands (its number among the operations of its region), the slot of the slice that grows, of what is put behind it, the result's, the slice's number among the own ones. -/
structure GapSp where
  k : Nat
  s : Nat
  x : Nat
  d : Nat
  t : TypeId
  e : TypeId
  size : Nat
  bytes : Nat
  i : Nat
/-- A loop by contract: what is kept at its head, what it comes to from there. -/
structure LG where
  ks : List (Nat × Bool)
  bs : List (Nat × Bool)
  N : Nat
  F : SL → List (Nat × BI) → Gh → RG
inductive HG where
  | plain
  | seq (a b : HG)
  | block (a : HG)
  | cond (a b : HG)
  | gap (sp : GapSp)
  | loop (h : LG)
  | cust (F : SL → Mem → Gh → RG)

def oneS : SV → Bool
  | .int _ _ => true
  | .bool _ => true
  | _ => false
def setAt (g : Gh) (i : Nat) (o : Own) : Gh := g.set i o
/-- 's = append(s, x...)' -/
noncomputable def grow (sp : GapSp) (s : SL) (m : Mem) (g : Gh) : RG :=
  match look s sp.s, look s sp.x, g[sp.i]? with
  | some (.one (.sl a n c)), some (.one (.row b off l _)), some o =>
    match rangeC m.get b off (l * sp.size) with
    | some cells => match allB oneS cells && Nat.beq o.e sp.e && Nat.beq o.size sp.size with
      | true => .any fun a' c' => .leaf .nrm (.sym ((decide (a = o.a) && (decide (n = o.n) && decide (c = o.c))) && (decide (o.n + l ≤ maxLen) && decide ((o.n + l) * sp.bytes ≤ 140737488355328))))
          (putS (some sp.d) (.one (.sl a' (o.n + l) c')) s) m (g.set sp.i ⟨sp.e, sp.size, a', o.n + l, c', o.xs ++ cells⟩)
      | false => .fail
    | none => .fail
  | _, _, _ => .fail

noncomputable def runG (P : Program) (W : World) (G : List (Nat × Spec)) (N nt : Nat) : HG → Code → SL → Mem → Gh → RG
  | .plain, c, s, m, g => (run P W G N (.code c) ⟨nt, [], noMem⟩ s m).toG g
  | .seq x y, .seq a b, s, m, g => (runG P W G N nt x a s m g).bind fun s' m' g' => runG P W G N nt y b s' m' g'
  | .block x, .block id c, s, m, g => (runG P W G N nt x c s m g).unblock id
  | .cond x y, .cond c a b, s, m, g => match evalO (look s) c with
    | some (.one (.bool (.lit true))) => runG P W G N nt x a s m g
    | some (.one (.bool (.lit false))) => runG P W G N nt y b s m g
    | some (.one (.bool (.sym q))) => .br q (runG P W G N nt x a s m g) (runG P W G N nt y b s m g)
    | _ => .fail
  | .gap sp, .region _ ops false, s, m, g => ((run P W G N (.ops ops (ops.toList.take sp.k)) ⟨nt, [], noMem⟩ s m).toG g).bind fun s m g =>
      (grow sp s m g).bind fun s m g => (run P W G N (.ops ops (ops.toList.drop (sp.k + 1))) ⟨nt, [], noMem⟩ s m).toG g
  | .gap sp, .region _ ops true, s, m, g => match P.follows .mixedOrders && cutOk ops sp.k with
    | true => ((((run P W G N (.dops ops (ops.toList.take sp.k) 0 [] []) ⟨nt, s, m⟩ [] m.fresh).collapse s m).over s m).toG g).bind fun s m g =>
      (grow sp s m g).bind fun s m g => (run P W G N (.ops ops (ops.toList.drop (sp.k + 1))) ⟨nt, [], noMem⟩ s m).toG g
    | false => .fail
  | .loop h, .loop _, s, m, g => match Nat.beq m.next h.N && allB (fun p => Nat.blt p.1 h.N) h.bs with
    | true => match pickB m h.bs with
      | some Bl => h.F (pickS (look s) h.ks) Bl g
      | none => .fail
    | false => .fail
  | .cust F, _, s, m, g => F s m g
  | _, _, _, _, _ => .fail

/-- The append of a gap is what the table says. -/
def GapOk (P : Program) (sp : GapSp) (ops : Array Oper) : Prop :=
  ∃ o, ops.toList[sp.k]? = some o ∧ o.guard = none ∧ o.dst = some sp.d ∧ o.op = .call { callee := .builtin .append, args := #[.tmp sp.s, .tmp sp.x], argTypes := #[sp.t, sp.t] } ∧
    P.underlying sp.t = some (.slice sp.e) ∧ (∃ z, (P.info? sp.e).map (fun i => (i.zero, i.size, i.bytes)) = some (some z, sp.size, sp.bytes) ∧ z.cells.size = sp.size) ∧ 0 < sp.size
def LoopGOk (W : Bs) (P : Program) (nt : Nat) (body : Code) (h : LG) : Prop :=
  ∀ (S : SL) (Bl : List (Nat × BI)) (g : Gh) (f : Nat → Nat) (a : Act) (w : World), (h.F S Bl g).Good → GSt W nt S ⟨[], Bl, h.N⟩ g f a w → (Code.loop body).wp P (GPost W nt (h.F S Bl g)) a w
def CustOk (W : Bs) (P : Program) (nt : Nat) (c : Code) (F : SL → Mem → Gh → RG) : Prop :=
  ∀ (s : SL) (m : Mem) (g : Gh) (f : Nat → Nat) (a : Act) (w : World), (F s m g).Good → GSt W nt s m g f a w → c.wp P (GPost W nt (F s m g)) a w
def HGOk (W : Bs) (P : Program) (nt : Nat) : HG → Code → Prop
  | .plain, _ => True
  | .seq x y, .seq a b => HGOk W P nt x a ∧ HGOk W P nt y b
  | .block x, .block _ c => HGOk W P nt x c
  | .cond x y, .cond _ a b => HGOk W P nt x a ∧ HGOk W P nt y b
  | .gap sp, .region _ ops _ => GapOk P sp ops ∧ sp.d < nt
  | .loop h, .loop body => LoopGOk W P nt body h
  | .cust F, c => CustOk W P nt c F
  | _, _ => True

section
variable {W : Bs} {P : Program} {G : List (Nat × Spec)}

theorem wpList_cat {ops : Array Oper} {Q Q' : Exit → Act → World → Prop} {l2 : List Oper} (hn : ∀ a w, Q' .normal a w → wpList P ops Q l2 a w) (he : ∀ e a w, e ≠ .normal → Q' e a w → Q e a w) :
    ∀ (l1 : List Oper) (a : Act) (w : World), wpList P ops Q' l1 a w → wpList P ops Q (l1 ++ l2) a w
  | [], a, w, h => hn a w h
  | o :: l1, a, w, h => by
    simp only [wpList, List.cons_append] at h ⊢
    split
    · rename_i hw
      rw [if_pos hw] at h
      rcases h with h | ⟨h1, a1, w1, h2⟩
      · left
        unfold Oper.wp at h ⊢
        generalize (execOp a.eval o).run P w = r at h ⊢
        cases r with
        | ok n w' =>
          cases n <;> simp only [Oper.upon] at h ⊢
          case value v => exact wpList_cat hn he l1 _ _ h
          case skip => exact wpList_cat hn he l1 _ _ h
          case defer d => exact wpList_cat hn he l1 _ _ h
          case enter g args =>
            refine Calls.mono h fun e w'' hh => ?_
            cases e with
            | returned v => exact wpList_cat hn he l1 _ _ hh
            | panicked c => exact he _ _ _ (by simp) hh
            | outgrown => obtain ⟨a2, w2, h3⟩ := hh; exact ⟨a2, w2, he _ _ _ (by simp) h3⟩
          case row row args => exact Rows.mono h fun v w'' hh => wpList_cat hn he l1 _ _ hh
        | halt x w' => cases x <;> simp only [Oper.upon] at h ⊢ <;> exact he _ _ _ (by simp) h
      · exact .inr ⟨h1, a1, w1, he _ _ _ (by simp) h2⟩
    · rename_i hw
      rw [if_neg hw] at h
      exact wpList_cat hn he l1 _ _ h

/-- A run of the executor, as a tree beside which own slices lie. -/
theorem toG_post {nt : Nat} {s : SL} {m : Mem} {g : Gh} {f : Nat → Nat} {a : Act} {w : World} {r : R} (h : GSt W nt s m g f a w) (hg : (r.toG g).Good) {e : Exit} {a' : Act} {w' : World}
    (hp : Post W.W w (fun i => ∃ b j, look m.blks b = some j ∧ f b = i) nt [] noMem f m.next r e a' w') : GPost W nt (r.toG g) e a' w' := by
  obtain ⟨ex, v, s1, m1, f1, hr, hex, hrel, hext, hn⟩ := hp
  rw [List.append_nil, on_noMem] at hrel
  refine toG_is hg fun e2 v2 s2 m2 h2 => ?_
  rw [hr] at h2
  simp only [Option.some.injEq, Prod.mk.injEq] at h2
  obtain ⟨rfl, rfl, rfl, rfl⟩ := h2
  exact ⟨hex, f1, h.next hrel ((toG_good hg).2 _ _ _ _ hr) hext hn⟩

theorem grow_sound {nt : Nat} {sp : GapSp} {ops : Array Oper} (hk : GapOk P sp ops) (hd : sp.d < nt) {s : SL} {m : Mem} {g : Gh} {f : Nat → Nat} {a : Act} {w : World} (hgood : (grow sp s m g).Good) (h : GSt W nt s m g f a w)
    {Q : Exit → Act → World → Prop} (hQ : ∀ a' w', GPost W nt (grow sp s m g) .normal a' w' → wpList P ops Q (ops.toList.drop (sp.k + 1)) a' w') : wpList P ops Q (ops.toList.drop sp.k) a w := by
  obtain ⟨o, ho, hgd, hdst, hop, hu, ⟨z, hz, hzs⟩, hpos⟩ := hk
  obtain ⟨i, hi, hz1, hz2, hz3⟩ := info_parts hz
  have hdrop : ops.toList.drop sp.k = o :: ops.toList.drop (sp.k + 1) := by
    obtain ⟨hlt, hget⟩ := List.getElem?_eq_some_iff.1 ho
    rw [List.drop_eq_getElem_cons hlt, hget]
  rw [hdrop]
  unfold grow at hgood hQ
  split at hgood <;> try exact hgood.elim
  rename_i sa sn sc b off l cc ow hs hx hgi
  split at hgood <;> try exact hgood.elim
  rename_i cells hcells
  split at hgood <;> try exact hgood.elim
  rename_i hchk
  simp only [hs, hx, hgi, hcells, hchk] at hQ
  simp only [Bool.and_eq_true, Nat.beq_eq] at hchk
  obtain ⟨⟨hone, he⟩, hsz⟩ := hchk
  have hg0 := hgood none 0
  simp only [RG.Good, SB.val_sym, Bool.and_eq_true, decide_eq_true_eq] at hg0
  obtain ⟨⟨e1, e2, e3⟩, hmax, hby⟩ := hg0
  have hown := h.gh.own sp.i ow hgi
  unfold Own.rel at hown
  have hsv : a.eval (.tmp sp.s) = ow.v := by
    have := h.slots sp.s _ hs (by simp)
    show a.tmps.getD sp.s undef = _
    rw [this]
    subst e1 e2 e3
    rfl
  have hxv : a.eval (.tmp sp.x) = .slice (some ⟨f b, off, none⟩) l cc := by
    have := h.slots sp.x _ hx (by simp)
    exact this
  obtain ⟨hlen, hget⟩ := rangeC_get hcells
  have hone' : ∀ v ∈ cells, oneS v = true := fun v hv => allB_iff hone v hv
  have hden : ∀ v ∈ cells, v.den f = v.den (fun _ => 0) := by
    intro v hv
    have := hone' v hv
    cases v <;> first | rfl | exact absurd this (by simp [oneS])
  rw [he, hsz] at hown
  refine wpList_append_own_at w hgd (.tmp sp.s) (.tmp sp.x) sp.t hop W.w0.heap.size sp.e i z sp.size sp.bytes hu hi hz1 hz2 hz3 hzs hpos ow.v ow.n ow.vals hsv hown ⟨f b, off, none⟩ l cc (cells.map (SV.den fun _ => 0)) hxv
    (by rw [List.length_map, hlen]) ?_ ?_ hmax hby h.fr.size ?_
  · intro j u hj
    rw [List.getElem?_map] at hj
    obtain ⟨v, hv, rfl⟩ := Option.map_eq_some_iff.1 hj
    have h1 := h.mem.cell b (off + j) v (hget j v hv)
    rw [← hden v (List.mem_of_getElem? hv)]
    rw [show (⟨f b, off, none⟩ : Addr).add j = ⟨f b, off + j, none⟩ by simp [Addr.add]]
    exact h1
  · intro u hu
    obtain ⟨v, hv, rfl⟩ := List.mem_map.1 hu
    have := hone' v hv
    cases v <;> first | rfl | exact absurd this (by simp [oneS])
  · intro v' w' hown' hgrow _ hat
    refine hQ _ _ ?_
    have hv' : ∃ a' c', v' = .slice a' (ow.n + l) c' := by
      obtain ⟨_, ⟨rfl, hn0⟩ | ⟨b', cap, cur, rfl, _⟩⟩ := hown'
      · exact ⟨none, 0, by rw [hn0]⟩
      · exact ⟨_, _, rfl⟩
    obtain ⟨a', c', rfl⟩ := hv'
    refine ⟨a', c', rfl, f, ?_⟩
    have hlt : ∀ (q : Nat) (o : Own), g[q]? = some o → ∀ k, o.v.ownBlock = some k → k < w.heap.size := fun q o ho k hk => (World.ownsRow.lt (h.gh.own q o ho) k hk).2
    have hge : ∀ k, ow.v.ownBlock = some k → W.w0.heap.size ≤ k := fun k hk => (World.ownsRow.lt (h.gh.own sp.i ow hgi) k hk).1
    have hsame : ∀ k, k < w.heap.size → (ow.v.ownBlock ≠ some k) → w'.heap[k]? = w.heap[k]? := fun k hk hne => hgrow.block k hk (fun hh => hne hh.symm)
    have hblk : ∀ b j, look m.blks b = some j → w'.heap[f b]? = w.heap[f b]? := by
      intro b j hj
      obtain ⟨arr, harr, _⟩ := h.mem.blk b j hj
      exact hsame _ (lt_of_blk harr) (fun hh => h.gh.off sp.i ow hgi _ hh b j hj rfl)
    have hget' : ∀ (q : Nat) (p : Own), (g.set sp.i ⟨sp.e, sp.size, a', ow.n + l, c', ow.xs ++ cells⟩)[q]? = some p → (q = sp.i ∧ p = ⟨sp.e, sp.size, a', ow.n + l, c', ow.xs ++ cells⟩) ∨ (q ≠ sp.i ∧ g[q]? = some p) := by
      intro q p hp
      rw [List.getElem?_set] at hp
      by_cases hq : sp.i = q
      · subst hq
        rw [if_pos rfl] at hp
        split at hp
        · simp only [Option.some.injEq] at hp
          exact .inl ⟨rfl, hp.symm⟩
        · cases hp
      · rw [if_neg hq] at hp
        exact .inr ⟨fun hh => hq hh.symm, hp⟩
    have hnew : ∀ k, (Value.slice a' (ow.n + l) c').ownBlock = some k → ow.v.ownBlock = some k ∨ k = w.heap.size := by
      intro k hk
      rcases hat with hat | hat
      · exact .inl (hat.symm.trans hk)
      · rw [hat] at hk
        simp only [Option.some.injEq] at hk
        exact .inr hk.symm
    refine ⟨?_, ?_, ?_, ?_, h.base, ?_, h.pin, ?_, ?_, ?_⟩
    · rw [hdst]
      simp [Act.put, h.size]
    · rw [hdst]
      simp [Act.put, h.defers]
    · rw [hdst]
      exact h.slots.put h.size (by simp [dstOk, Nat.blt]; omega) (.inr rfl)
    · refine ⟨?_, ?_, h.mem.known, h.mem.inj, fun b j hj _ => .inr ⟨b, j, hj, rfl⟩, h.mem.lt⟩
      · intro b j hj
        rw [hblk b j hj]
        exact h.mem.blk b j hj
      · intro b o v hv
        obtain ⟨j, hj⟩ := h.mem.known b o v hv
        rw [← h.mem.cell b o v hv]
        exact World.cell?_of_block (hblk b j hj)
    · refine ⟨hgrow.os.trans h.fr.os, hgrow.tape.trans h.fr.tape, hgrow.output.trans h.fr.output, Nat.le_trans h.fr.size hgrow.size, fun k hk hx => ?_, W.base⟩
      have := h.fr.size
      exact (hsame k (by omega) (fun hh => by have := hge k hh; omega)).trans (h.fr.same k hk hx)
    · intro q p hp
      rcases hget' q p hp with ⟨_, rfl⟩ | ⟨hq, hp⟩
      · show w'.ownsRow W.w0.heap.size sp.e sp.size (.slice a' (ow.n + l) c') (ow.n + l) ((ow.xs ++ cells).map (SV.den fun _ => 0))
        rw [List.map_append]
        exact hown'
      · exact World.ownsRow.same (h.gh.own q p hp) (fun k hk => hsame k (hlt q p hp k hk) (h.gh.two q sp.i p ow hp hgi hq k hk))
    · intro q p hp k hk b j hj hf
      rcases hget' q p hp with ⟨_, rfl⟩ | ⟨_, hp⟩
      · rcases hnew k hk with h1 | h1
        · exact h.gh.off sp.i ow hgi k h1 b j hj hf
        · obtain ⟨arr, harr, _⟩ := h.mem.blk b j hj
          have := lt_of_blk harr
          omega
      · exact h.gh.off q p hp k hk b j hj hf
    · intro q q' p p' hp hp' hne k hk hk'
      rcases hget' q p hp with ⟨rfl, rfl⟩ | ⟨h1, hp⟩ <;> rcases hget' q' p' hp' with ⟨rfl, rfl⟩ | ⟨h2, hp'⟩
      · exact hne rfl
      · rcases hnew k hk with h3 | h3
        · exact h.gh.two sp.i q' ow p' hgi hp' hne k h3 hk'
        · have := hlt q' p' hp' k hk'
          omega
      · rcases hnew k hk' with h3 | h3
        · exact h.gh.two q sp.i p ow hp hgi hne k hk h3
        · have := hlt q p hp k hk
          omega
      · exact h.gh.two q q' p p' hp hp' hne k hk hk'

theorem bind_leaf {nt : Nat} {K : SL → Mem → Gh → RG} {a : Act} {w : World} : ∀ {r : RG}, (r.bind K).Good → GPost W nt r .normal a w →
    ∃ s m g f, GSt W nt s m g f a w ∧ (K s m g).Good ∧ ∀ e a2 w2, GPost W nt (K s m g) e a2 w2 → GPost W nt (r.bind K) e a2 w2
  | .fail, _, hp => hp.elim
  | .leaf ex vc s1 m1 g1, hg, ⟨hex, f1, h1⟩ => by
    have : ex = .nrm := by cases ex <;> simp_all [exOf]
    subst this
    exact ⟨s1, m1, g1, f1, h1, (RG.good_addVc hg).1, fun e a2 w2 hq => RG.is_addVc hq⟩
  | .br b u v, hg, hp => by
    cases b
    · obtain ⟨s1, m1, g1, f1, h1, h2, h3⟩ := bind_leaf (hg.2 rfl) (hp.2 rfl)
      exact ⟨s1, m1, g1, f1, h1, h2, fun e a2 w2 hq => ⟨fun hb => (by cases hb), fun _ => h3 e a2 w2 hq⟩⟩
    · obtain ⟨s1, m1, g1, f1, h1, h2, h3⟩ := bind_leaf (hg.1 rfl) (hp.1 rfl)
      exact ⟨s1, m1, g1, f1, h1, h2, fun e a2 w2 hq => ⟨fun _ => h3 e a2 w2 hq, fun hb => (by cases hb)⟩⟩
  | .any k, hg, ⟨aa, nn, hp⟩ => by
    obtain ⟨s1, m1, g1, f1, h1, h2, h3⟩ := bind_leaf (hg aa nn) hp
    exact ⟨s1, m1, g1, f1, h1, h2, fun e a2 w2 hq => ⟨aa, nn, h3 e a2 w2 hq⟩⟩
  | .pick _ k, hg, ⟨y, hp⟩ => by
    obtain ⟨s1, m1, g1, f1, h1, h2, h3⟩ := bind_leaf (hg y) hp
    exact ⟨s1, m1, g1, f1, h1, h2, fun e a2 w2 hq => ⟨y, h3 e a2 w2 hq⟩⟩
theorem bind_other {nt : Nat} {K : SL → Mem → Gh → RG} {r : RG} {e : Exit} {a : Act} {w : World} (hne : e ≠ .normal) (hp : GPost W nt r e a w) : GPost W nt (r.bind K) e a w := by
  refine RG.is_bind (Φ := fun ex s m g => exOf ex = some e ∧ ∃ f, GSt W nt s m g f a w) ?_ (fun _ _ _ _ _ h => h) hp
  rintro s m g ⟨h1, _⟩
  simp only [exOf, Option.some.injEq] at h1
  exact absurd h1.symm hne
theorem runG_sound (hG : GOk W.W P G) {N nt : Nat} : ∀ (t : HG) (c : Code) (s : SL) (m : Mem) (g : Gh) (f : Nat → Nat) (a : Act) (w : World), HGOk W P nt t c → (runG P W.W G N nt t c s m g).Good → GSt W nt s m g f a w →
    c.wp P (GPost W nt (runG P W.W G N nt t c s m g)) a w := by
  intro t
  induction t with
  | plain =>
    intro c s m g f a w _ hg h
    exact wp_mono ((sound hG (fun n hS => draw_sound hG n hS) N).code w _ c ⟨nt, [], noMem⟩ s m f a w (toG_good hg).1 (by rw [List.append_nil, on_noMem]; exact h.rel)) (fun e a' w' hp => toG_post h hg hp)
  | seq x y ihx ihy =>
    intro c s m g f a w hh hg h
    cases c with
    | seq p q =>
      simp only [runG] at hg ⊢
      refine wp_seq (wp_mono (ihx p s m g f a w hh.1 (RG.good_of_bind hg) h) ?_)
      intro e a1 w1 hp
      cases e with
      | normal =>
        obtain ⟨s1, m1, g1, f1, h1, hgood, hlift⟩ := bind_leaf hg hp
        exact wp_mono (ihy q s1 m1 g1 f1 a1 w1 hh.2 hgood h1) hlift
      | exit i => exact bind_other (by simp) hp
      | goto l => exact bind_other (by simp) hp
      | ret => exact bind_other (by simp) hp
      | panic c => exact bind_other (by simp) hp
      | outgrown => exact bind_other (by simp) hp
    | _ => exact hg.elim
  | block x ihx =>
    intro c s m g f a w hh hg h
    cases c with
    | block id p =>
      simp only [runG] at hg ⊢
      refine wp_block (wp_mono (ihx p s m g f a w hh (RG.good_unblock hg) h) ?_)
      intro e a1 w1 hp
      cases e with
      | exit i =>
        simp only [Exit.inBlock]
        split
        · rename_i hi
          refine RG.is_unblock (RG.Is.mono ?_ hp)
          rintro ex s m g ⟨h1, h2⟩
          cases ex <;> simp only [exOf, Option.some.injEq, Exit.exit.injEq] at h1 <;> first | (exact absurd h1 (by simp)) | skip
          subst h1
          exact ⟨by simp [hi, exOf], h2⟩
        · rename_i hi
          refine RG.is_unblock (RG.Is.mono ?_ hp)
          rintro ex s m g ⟨h1, h2⟩
          cases ex <;> simp only [exOf, Option.some.injEq, Exit.exit.injEq] at h1 <;> first | (exact absurd h1 (by simp)) | skip
          subst h1
          exact ⟨by simp [hi, exOf], h2⟩
      | _ =>
        refine RG.is_unblock (RG.Is.mono ?_ hp)
        rintro ex s m g ⟨h1, h2⟩
        cases ex <;> first | exact ⟨h1, h2⟩ | (simp [exOf] at h1)
    | _ => exact hg.elim
  | cond x y ihx ihy =>
    intro c s m g f a w hh hg h
    cases c with
    | cond q p1 p2 =>
      simp only [runG] at hg ⊢
      split at hg
      · rename_i hc
        exact wp_cond_true (evalO_sound h.slots hc).1 (ihx p1 s m g f a w hh.1 hg h)
      · rename_i hc
        exact wp_cond_false (evalO_sound h.slots hc).1 (ihy p2 s m g f a w hh.2 hg h)
      · rename_i b hc
        have h1 := (evalO_sound h.slots hc).1
        simp only [TV.den, SV.den, SB.val_sym] at h1
        refine wp_cond_split h1 ?_ ?_
        · rintro rfl
          exact wp_mono (ihx p1 s m g f a w hh.1 (hg.1 rfl) h) (fun e a' w' hp => ⟨fun _ => hp, fun hb => (by cases hb)⟩)
        · rintro rfl
          exact wp_mono (ihy p2 s m g f a w hh.2 (hg.2 rfl) h) (fun e a' w' hp => ⟨fun hb => (by cases hb), fun _ => hp⟩)
      · exact hg.elim
    | _ => exact hg.elim
  | gap sp =>
    intro c s m g f a w hh hg h
    cases c with
    | region id ops draw =>
      cases draw with
      | true =>
        cases hc : (P.follows .mixedOrders && cutOk ops sp.k)
        · simp only [runG, hc] at hg
          exact hg.elim
        · simp only [runG, hc] at hg ⊢
          rw [Bool.and_eq_true] at hc
          have hg1 := RG.good_of_bind hg
          have hb := h.mem.known
          have hgr : (run P W.W G N (.dops ops (ops.toList.take sp.k) 0 [] []) ⟨nt, s, m⟩ [] m.fresh).good := good_of_over hb (toG_good hg1).1
          refine draw_cut hG hc.2 hc.1 hgr h.rel fun a1 w1 hp0 => ?_
          have hp := toG_post h hg1 (Post.of_over (bs := []) (bm := noMem) (by rw [on_noMem]; exact hb) (by rw [List.append_nil, on_noMem]; exact (toG_good hg1).1) (by rw [List.append_nil, on_noMem]; exact hp0) |> fun q => by
            rw [List.append_nil, on_noMem] at q
            exact q)
          obtain ⟨s1, m1, g1, f1, h1, hgood, hlift⟩ := bind_leaf hg hp
          refine grow_sound hh.1 hh.2 (RG.good_of_bind hgood) h1 fun a2 w2 hp2 => ?_
          obtain ⟨s2, m2, g2, f2, h2, hgood2, hlift2⟩ := bind_leaf hgood hp2
          exact wpList_up (fun e a' w' hp => hlift _ _ _ (hlift2 _ _ _ (toG_post h2 hgood2 hp))) _ _ _
            ((sound hG (fun n hS => draw_sound hG n hS) N).ops w2 _ ops (ops.toList.drop (sp.k + 1)) ⟨nt, [], noMem⟩ s2 m2 f2 a2 w2 (toG_good hgood2).1 (by rw [List.append_nil, on_noMem]; exact h2.rel))
      | false =>
        simp only [runG] at hg ⊢
        have hg1 := RG.good_of_bind hg
        refine wp_region_list ?_
        suffices key : wpList P ops (GPost W nt (((run P W.W G N (.ops ops (ops.toList.take sp.k)) ⟨nt, [], noMem⟩ s m).toG g).bind fun s m g =>
            (grow sp s m g).bind fun s m g => (run P W.W G N (.ops ops (ops.toList.drop (sp.k + 1))) ⟨nt, [], noMem⟩ s m).toG g)) (ops.toList.take sp.k ++ ops.toList.drop sp.k) a w by
          rw [List.take_append_drop] at key
          exact key
        refine wpList_cat (Q' := fun e a w => GPost W nt ((run P W.W G N (.ops ops (ops.toList.take sp.k)) ⟨nt, [], noMem⟩ s m).toG g) e a w) ?_ ?_ _ _ _
          (wpList_up (fun e a' w' hp => toG_post h hg1 hp) _ _ _ ((sound hG (fun n hS => draw_sound hG n hS) N).ops w _ ops (ops.toList.take sp.k) ⟨nt, [], noMem⟩ s m f a w (toG_good hg1).1 (by rw [List.append_nil, on_noMem]; exact h.rel)))
        · intro a1 w1 hp
          obtain ⟨s1, m1, g1, f1, h1, hgood, hlift⟩ := bind_leaf hg hp
          refine grow_sound hh.1 hh.2 (RG.good_of_bind hgood) h1 fun a2 w2 hp2 => ?_
          obtain ⟨s2, m2, g2, f2, h2, hgood2, hlift2⟩ := bind_leaf hgood hp2
          exact wpList_up (fun e a' w' hp => hlift _ _ _ (hlift2 _ _ _ (toG_post h2 hgood2 hp))) _ _ _
            ((sound hG (fun n hS => draw_sound hG n hS) N).ops w2 _ ops (ops.toList.drop (sp.k + 1)) ⟨nt, [], noMem⟩ s2 m2 f2 a2 w2 (toG_good hgood2).1 (by rw [List.append_nil, on_noMem]; exact h2.rel))
        · intro e a1 w1 hne hp
          exact bind_other hne hp
    | _ => exact hg.elim
  | loop hl =>
    intro c s m g f a w hh hg h
    cases c with
    | loop body =>
      cases hb : (Nat.beq m.next hl.N && allB (fun p => Nat.blt p.1 hl.N) hl.bs)
      · simp only [runG, hb] at hg
        exact hg.elim
      · cases hB : pickB m hl.bs with
        | none =>
          simp only [runG, hb, hB] at hg
          exact hg.elim
        | some Bl =>
          simp only [runG, hb, hB] at hg ⊢
          simp only [Bool.and_eq_true, Nat.beq_eq] at hb
          exact hh _ Bl g f a w hg (h.pick hB hb.2 (fun i hi => hb.1 ▸ (h.pin i hi).2) hl.ks)
    | _ => exact hg.elim
  | cust F =>
    intro c s m g f a w hh hg h
    have e : runG P W.W G N nt (.cust F) c s m g = F s m g := by cases c <;> rfl
    have hh' : CustOk W P nt c F := by cases c <;> exact hh
    rw [e] at hg ⊢
    exact hh' s m g f a w hg h
end
end Go.Sx
