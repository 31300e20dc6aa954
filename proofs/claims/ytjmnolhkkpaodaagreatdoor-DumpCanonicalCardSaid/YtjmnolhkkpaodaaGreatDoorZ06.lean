/- A part of the proof: the reference is safe, both packages write and read alike. Several texts in one; printed by slim28.py out of the texts of wip. -/
import Derived.Test.YtjmnolhkkpaodaaGreatDoorZ05
set_option linter.all false
namespace Go.Sx
open Go Go.RowKit
def stL {α : Type} (g : Entry → List α) (sel : Nat → Bool) : List Entry → List α → List α
 | [], b => b
 | x :: r, b => if sel x.ix then g x ++ stL g sel r b else stL g sel r b
def Entry.val (x : Entry) : TV := match x.eff with | some e => e.val | none => .ud
def gS (x : Entry) : SL := match x.o.dst with | some k => [(k, x.val)] | none => []
def gC (x : Entry) : List (Nat × Nat × SV) := match x.eff with | some e => e.ws | none => []
def gB (x : Entry) : List (Nat × BI) := match x.eff with | some e => (match e.nb with | some (t, l) => [(x.nid, ⟨t, l, true⟩)] | none => []) | none => []
section
variable {α β : Type} {lk : List α → Option β} {g : Entry → List α}
theorem stL_congr (hlk : ∀ a b, lk (a ++ b) = (lk a).or (lk b)) {sel1 sel2 : Nat → Bool} : ∀ {tr : List Entry} {b : List α}, (∀ x ∈ tr, lk (g x) ≠ none → sel1 x.ix = sel2 x.ix) →
  lk (stL g sel1 tr b) = lk (stL g sel2 tr b)
 | [], _, _ => rfl
 | x :: r, b, h => by
  have ih := stL_congr hlk (tr := r) (b := b) fun y hy => h y (by simp [hy])
  simp only [stL]
  cases hx : lk (g x) with
  | none => split <;> split <;> simp [hlk, hx, ih]
  | some v =>
   rw [h x (by simp) (by simp [hx])]
   split
   · simp [hlk, hx]
   · exact ih
theorem stL_src (hlk : ∀ a b, lk (a ++ b) = (lk a).or (lk b)) {sel : Nat → Bool} : ∀ {tr : List Entry} {b : List α} {v : β}, lk (stL g sel tr b) = some v →
  (∃ y ∈ tr, sel y.ix = true ∧ lk (g y) = some v) ∨ lk b = some v
 | [], _, _, h => .inr h
 | x :: r, b, v, h => by
  simp only [stL] at h
  split at h
  · rename_i hs
    rw [hlk] at h
    cases hx : lk (g x) with
    | none =>
     rw [hx] at h
     exact (stL_src hlk h).imp (fun ⟨y, hy, h1⟩ => ⟨y, by simp [hy], h1⟩) id
    | some u =>
     rw [hx] at h
     exact .inl ⟨x, by simp, hs, by rw [hx]; exact h⟩
  · exact (stL_src hlk h).imp (fun ⟨y, hy, h1⟩ => ⟨y, by simp [hy], h1⟩) id
theorem stL_insert (hlk : ∀ a b, lk (a ++ b) = (lk a).or (lk b)) {sel sel' : Nat → Bool} {x : Entry} {l2 : List Entry} {b : List α} (hx : sel x.ix = false) (hx' : sel' x.ix = true) : ∀ {l1 : List Entry},
  (∀ y ∈ l1 ++ l2, sel' y.ix = sel y.ix) → (lk (g x) ≠ none → ∀ y ∈ l1, lk (g y) ≠ none → sel y.ix = false) →
  lk (stL g sel' (l1 ++ x :: l2) b) = lk (g x ++ stL g sel (l1 ++ x :: l2) b)
 | [], h1, _ => by
  have h2 : lk (stL g sel' l2 b) = lk (stL g sel l2 b) := stL_congr hlk fun y hy _ => h1 y (by simpa using hy)
  simp only [List.nil_append, stL, hx, hx', if_true, Bool.false_eq_true, if_false, hlk, h2]
 | y :: l1, h1, h3 => by
  have ih := stL_insert hlk hx hx' (l1 := l1) (l2 := l2) (b := b) (fun z hz => h1 z (by simp at hz ⊢; exact .inr hz)) (fun hne z hz => h3 hne z (by simp [hz]))
  have hy := h1 y (by simp)
  simp only [List.cons_append, stL, hy]
  by_cases hs : sel y.ix = true
  · rw [if_pos hs, if_pos hs]
    simp only [hlk] at ih ⊢
    cases hgx : lk (g x) with
    | none => rw [ih, hgx]; simp
    | some v =>
     have := h3 (by simp [hgx]) y (by simp)
     cases hgy : lk (g y) with
     | none => rw [ih, hgx]; simp
     | some u => rw [this (by simp [hgy])] at hs; cases hs
  · rw [if_neg hs, if_neg hs]
    exact ih
theorem stL_below {i : Nat} {x : Entry} {l2 : List Entry} {b : List α} (hx : ¬ x.ix < i) (h2 : ∀ y ∈ l2, y.ix < i) : ∀ {l1 : List Entry}, (∀ y ∈ l1, ¬ y.ix < i) →
  stL g (fun j => decide (j < i)) (l1 ++ x :: l2) b = stL g (fun _ => true) l2 b
 | [], _ => by
  simp only [List.nil_append, stL]
  rw [if_neg (by simpa using hx)]
  clear hx
  induction l2 with
  | nil => rfl
  | cons y l2 ih =>
   simp only [stL]
   rw [if_pos (by simpa using h2 y (by simp)), if_pos trivial, ih (fun z hz => h2 z (by simp [hz]))]
 | y :: l1, h1 => by
  simp only [List.cons_append, stL]
  rw [if_neg (by simpa using h1 y (by simp))]
  exact stL_below hx h2 fun z hz => h1 z (by simp [hz])
end
def UpdE (f : Nat → Nat) (e : Eff) (w : World) (j : Nat) (w' : World) : Prop :=
 match e.nb with
 | none => Upd f e.ws w w'
 | some (t, l) => LaidAt w w' j (dens f l) t
def updJ (f : Nat → Nat) (nid j : Nat) (e : Eff) : Nat → Nat :=
 match e.nb with
 | none => f
 | some _ => fun k => if k = nid then j else f k
theorem laid_alloc (w : World) (arr : Array Value) (t : TypeId) : LaidAt w (w.alloc (.cells arr t)) w.heap.size arr t :=
 ⟨rfl, rfl, rfl, by simp, fun i hi => heap_alloc_old hi, Nat.le_refl _, heap_alloc_at⟩
def OpWp (P : Program) (o : Oper) (a : Act) (w : World) (f : Nat → Nat) (nid : Nat) (e : Eff) : Prop :=
 ∀ (next : Act → World → Prop) (Q : Exit → Act → World → Prop), (∀ u w' j, (e.val = .un ∨ u = e.val.den (updJ f nid j e)) → UpdE f e w j w' → next (a.put o.dst u) w') → o.wp P a w next Q
def Acts (W : World) (P : Program) (all : Array Oper) (x : Entry) : Prop :=
 match x.eff with
 | none => ∀ f a, SRel f (look x.ins) a → Region.wanted x.o (yielded all a.tmps) = false
 | some e => (∀ f a, SRel f (look x.ins) a → Region.wanted x.o (yielded all a.tmps) = true) ∧ (e.nb ≠ none → e.ws = []) ∧
  ∀ f a w, SRel f (look x.ins) a → CRel f (findC x.rd) w → KRel f (look x.kn) w → Old W w → OwnK W f (look x.kn) → OpWp P x.o a w f x.nid e ∧ wsOk (look x.kn) e.ws
def memT (bm : Mem) (sel : Nat → Bool) (tr : List Entry) (N : Nat) : Mem := ⟨stL gC sel tr bm.cells, stL gB sel tr bm.blks, N⟩
def tt : Nat → Bool := fun _ => true
structure ERec (W : World) (P : Program) (all : Array Oper) (nt : Nat) (bs : SL) (bm : Mem) (x : Entry) (r : List Entry) : Prop where
 ix : x.ix = r.length
 o : all[x.ix]? = some x.o
 dst : dstOk nt x.o.dst = true
 ins : ∀ t v, look x.ins t = some v → look (stL gS tt r bs) t = some v
 rd : ∀ b o v, findC x.rd b o = some v → (memT bm tt r 0).get b o = some v
 kn : ∀ b i, look x.kn b = some i → look (stL gB tt r bm.blks) b = some i
 look : ∀ t v, Go.Sx.look x.ins t = some v → t ∈ x.o.looksAt all
 act : Acts W P all x
 lays : x.lays = true → bm.next ≤ x.nid ∧ ltS x.nid bs = true ∧ ltM x.nid bm = true ∧ ∀ p ∈ gB x, allB (SV.lt x.nid) p.2.init = true
def TRec (W : World) (P : Program) (all : Array Oper) (nt : Nat) (bs : SL) (bm : Mem) : List Entry → Prop
 | [] => True
 | x :: r => ERec W P all nt bs bm x r ∧ TRec W P all nt bs bm r
section
variable {W : World} {P : Program} {G : List (Nat × Spec)} {all : Array Oper} {nt : Nat} {bs : SL} {bm : Mem}
theorem TRec.ix_lt : ∀ {tr : List Entry}, TRec W P all nt bs bm tr → ∀ y ∈ tr, y.ix < tr.length
 | [], _, y, hy => by simp at hy
 | x :: r, h, y, hy => by
  rcases List.mem_cons.1 hy with rfl | hy
  · rw [h.1.ix]; simp
  · have := TRec.ix_lt h.2 y hy; simp; omega
theorem TRec.split : ∀ {tr : List Entry}, TRec W P all nt bs bm tr → ∀ i, i < tr.length → ∃ l1 x l2, tr = l1 ++ x :: l2 ∧ x.ix = i ∧ ERec W P all nt bs bm x l2 ∧ TRec W P all nt bs bm l2 ∧ (∀ y ∈ l1, i < y.ix) ∧ (∀ y ∈ l2, y.ix < i)
 | [], _, i, hi => by simp at hi
 | x :: r, h, i, hi => by
  by_cases hx : x.ix = i
  · exact ⟨[], x, r, rfl, hx, h.1, h.2, by simp, fun y hy => by have := TRec.ix_lt h.2 y hy; rw [← hx, h.1.ix]; exact this⟩
  · have hi2 : i < r.length := by have := h.1.ix; simp at hi; omega
    obtain ⟨l1, z, l2, rfl, h1, h2, h3, h4, h5⟩ := TRec.split h.2 i hi2
    refine ⟨x :: l1, z, l2, rfl, h1, h2, h3, ?_, h5⟩
    intro y hy
    rcases List.mem_cons.1 hy with rfl | hy
    · rw [h.1.ix]; exact hi2
    · exact h4 y hy
theorem look_collectS {S : Nat → Option TV} : ∀ {l : List Nat} {t : Nat}, look (collectS S l) t = if t ∈ l then S t else none
 | [], t => by simp [collectS, look]
 | k :: l, t => by
  simp only [collectS]
  cases hk : S k with
  | none =>
   rw [look_collectS]
   by_cases h : t = k
   · subst h; simp [hk]
   · simp [h]
  | some v =>
   simp only [look_cons]
   rw [look_collectS]
   by_cases h : k = t
   · subst h; simp [hk]
   · simp [h, Ne.symm h]
theorem findC_collectR {C : Nat → Nat → Option SV} {b : Nat} : ∀ {n o : Nat} {c p : Nat} {v : SV}, findC (collectR C b o n) c p = some v → C c p = some v
 | 0, o, c, p, v, h => by simp [collectR, findC] at h
 | n + 1, o, c, p, v, h => by
  simp only [collectR] at h
  split at h
  · rename_i u hu
    rw [findC_cons] at h
    split at h
    · rename_i hc; obtain ⟨rfl, rfl⟩ := hc; rw [hu]; exact h
    · exact findC_collectR h
  · exact findC_collectR h
theorem findC_collectC {C : Nat → Nat → Option SV} : ∀ {l : List (Nat × Nat × Nat)} {c p : Nat} {v : SV}, findC (collectC C l) c p = some v → C c p = some v
 | [], c, p, v, h => by simp [collectC, findC] at h
 | (b, o, n) :: l, c, p, v, h => by
  simp only [collectC, findC_append] at h
  split at h
  · rename_i u hu; rw [← h]; exact findC_collectR hu
  · exact findC_collectC h
theorem look_collectK {K : Nat → Option BI} : ∀ {l : List Nat} {b : Nat} {i : BI}, look (collectK K l) b = some i → K b = some i
 | [], b, i, h => by simp [collectK, look] at h
 | c :: l, b, i, h => by
  simp only [collectK] at h
  split at h
  · rename_i j hj
    rw [look_cons] at h
    split at h
    · rename_i hc; subst hc; rw [hj]; exact h
    · exact look_collectK h
  · exact look_collectK h
theorem guardS_collect {S : Nat → Option TV} {o : Oper} : guardS all (look (collectS S (o.looksAt all))) o = guardS all S o := by
 unfold guardS
 cases hg : o.guard with
 | none => rfl
 | some gw =>
  obtain ⟨j, want⟩ := gw
  simp only
  cases hq : all[j]? with
  | none => rfl
  | some q =>
   simp only
   cases hd : q.dst with
   | none => rfl
   | some d =>
    have : d ∈ o.looksAt all := by simp [Oper.looksAt, hg, hq, hd]
    simp only [look_collectS, if_pos this]
theorem wanted_ask {S : Nat → Option TV} {o : Oper} {f : Nat → Nat} {a : Act} {d : Nat} {b want : Bool} (hS : SRel f S a) (h : guardS all S o = .ask d b want) : Region.wanted o (yielded all a.tmps) = (b == want) := by
 obtain ⟨h1, j, q, hg, hq, hd⟩ := guard_ask h
 have h2 := tmps_bool (hS d _ h1 (by simp))
 unfold Region.wanted
 simp only [hg, yielded, hq, hd, h2, Option.bind_some, SB.val_sym]
 cases b <;> cases want <;> rfl
theorem EffRun.opWp {o : Oper} {a : Act} {w : World} {f : Nat → Nat} {nid : Nat} {K : Nat → Option BI} {e : Eff} (h : EffRun P o a w f nid K e) : OpWp P o a w f nid e ∧ wsOk K e.ws ∧ (e.nb ≠ none → e.ws = []) := by
 obtain ⟨x, u, hrun, hx, hv, hws, hnb⟩ := h
 refine ⟨?_, hws, hnb⟩
 intro next Q hn
 unfold Oper.wp
 rw [hrun]
 have hu : UpdE f e w w.heap.size (effW f e w) := by
  unfold UpdE effW
  cases e.nb with
  | none =>
   have h1 := os_applyWs (f := f) e.ws w
   exact ⟨h1.1, h1.2.1, h1.2.2, by simp only [size_applyWs]; exact Nat.le_refl _, fun _ _ => rfl⟩
  | some p => exact laid_alloc _ _ _
 have hj : updF f nid w e = updJ f nid w.heap.size e := by
  unfold updF updJ
  cases e.nb <;> rfl
 rw [hj] at hv
 rcases hx with rfl | ⟨rfl, rfl⟩
 · exact hn u _ _ hv hu
 · exact hn _ _ _ hv hu
theorem R.get_toPR : ∀ {r : R} {e : Eff}, r.toPR.get = some e → ∃ vc v s m, r.get = some (.res v, vc, s, m) ∧ v.lt 0 = true ∧ e = ⟨vc, v, [], none⟩
 | .fail, e, h => by simp [R.toPR, PR.get] at h
 | .leaf x vc s m, e, h => by
  cases x with
  | res v =>
   simp only [R.toPR] at h
   split at h
   · rename_i hv
     simp only [PR.get, Option.some.injEq] at h
     exact ⟨vc, v, s, m, rfl, hv, h.symm⟩
   · simp [PR.get] at h
  | _ => simp [R.toPR, PR.get] at h
 | .br b x y, e, h => by
  simp only [R.toPR, PR.get] at h
  cases b
  · obtain ⟨vc, v, s, m, h1, h2⟩ := R.get_toPR (r := y) h
    exact ⟨vc, v, s, m, h1, h2⟩
  · obtain ⟨vc, v, s, m, h1, h2⟩ := R.get_toPR (r := x) h
    exact ⟨vc, v, s, m, h1, h2⟩
def PureF (W : World) (P : Program) (F : FuncId → List TV → PR) : Prop := ∀ g args e, (F g args).get = some e → e.vc.val = true →
 e.nb = none ∧ e.ws = [] ∧ (∃ fn, P.funcs[g]? = some fn ∧ (fn.name == "runtime.NumGoroutine") = false ∧ fn.body.isNone = false) ∧
  ∀ f w, Old W w → Calls P g (args.map (TV.den f)).toArray w fun en w' => en = .returned (e.val.den f) ∧ Upd f [] w w'
theorem pureF_of (hG : GOk W P G) {n : Nat} (h : Sound W P G n) : PureF W P (fun g args => ((run P W G n (.fn g args) ⟨0, [], ⟨[], [], 0⟩⟩ [] ⟨[], [], 0⟩).collapse [] ⟨[], [], 0⟩).toPR) := by
 intro g args e he hvc
 obtain ⟨vc, v, s, m, h1, h2, rfl⟩ := R.get_toPR he
 have hk : BKnown (⟨[], [], 0⟩ : Mem) := by
  intro b o v hv
  simp [Mem.get, findC, look] at hv
 obtain ⟨⟨e5, v5, s5, m5⟩, h5, hL⟩ := R.collapse_get hk _ h1
 have hgood : (run P W G n (.fn g args) ⟨0, [], ⟨[], [], 0⟩⟩ [] ⟨[], [], 0⟩).good := ⟨_, _, _, _, h5, hL.2.1.symm.trans hvc⟩
 refine ⟨rfl, rfl, fn_facts hG hgood, ?_⟩
 intro f w hW
 have hm : MOk w (fun _ => False) f ((⟨[], [], 0⟩ : Mem).on ⟨[], [], 0⟩) w := by
  refine ⟨?_, ?_, ?_, ?_, ?_, ?_⟩ <;> intro b <;> simp [Mem.on, look, Mem.get, findC]
 have hf : Fr W w (fun _ => False) w := ⟨rfl, rfl, rfl, Nat.le_refl _, fun _ _ _ => rfl, hW.base⟩
 refine (h.fn w (fun _ => False) g args ⟨0, [], ⟨[], [], 0⟩⟩ [] ⟨[], [], 0⟩ f w hgood hm hf).mono ?_
 rintro en w1 ⟨x, v2, s2, m2, f2, hr, hne, rfl, hm2, hf2, _, _⟩
 rw [h5] at hr
 simp only [Option.some.injEq, Prod.mk.injEq] at hr
 obtain ⟨rfl, _⟩ := hr
 refine ⟨?_, ⟨hf2.os, hf2.tape, hf2.output, hf2.size, fun i hi => hf2.same i hi (by simp)⟩⟩
 rcases hL.1 with ⟨_, hno⟩ | ⟨u, u', hu, hu', hd⟩
 · exact absurd rfl (hno x)
 · simp only at hu hu'
   injection hu with hu
   injection hu' with hu'
   subst hu hu'
   obtain ⟨_, hden⟩ := hd f2 hne
   rw [TV.lt_den h2 (f := f2) (f' := f) (fun b hb => by omega), hden]
theorem dstep_acts (hG : GOk W P G) {F : FuncId → List TV → PR} (hF : PureF W P F) {o : Oper} {S : Nat → Option TV} {M : Mem} {ins : SL} {rd : List (Nat × Nat × SV)} {kn : List (Nat × BI)} {pr : PR} (h : dstep P W G F all o S M = (ins, rd, kn, pr)) {e : Eff} (he : pr.get = some e) (hvc : e.vc.val = true) :
  ins = collectS S (o.looksAt all) ∧ (∀ b p v, findC rd b p = some v → M.get b p = some v) ∧ (∀ b i, look kn b = some i → look M.blks b = some i) ∧
  ∀ f a w, SRel f (look ins) a → CRel f (findC rd) w → KRel f (look kn) w → Old W w → OwnK W f (look kn) → OpWp P o a w f M.next e ∧ wsOk (look kn) e.ws := by
 unfold dstep at h
 simp only at h
 split at h
 · rename_i x az hcall
   split at h
   · rename_i g cs l hx hl
     split at h
     · rename_i sp hsp
       simp only [Prod.mk.injEq] at h
       obtain ⟨rfl, rfl, rfl, rfl⟩ := h
       cases he' : sp.fx (l ++ cs.map capTV) (findC (collectC M.get (sp.rd (l ++ cs.map capTV)))) (look (collectK (look M.blks) (sp.kn (l ++ cs.map capTV)))) with
       | none => rw [he'] at he; simp [PR.get] at he
       | some e' =>
       rw [he'] at he
       cases hnb : e'.nb with
       | some p =>
        obtain ⟨t, l0⟩ := p
        simp only [hnb] at he
        split at he <;> try (simp [PR.get] at he; done)
        rename_i hk
        simp only [PR.get, Option.some.injEq] at he
        subst he
        refine ⟨rfl, fun b p v hv => findC_collectC hv, fun b i hi => look_collectK hi, ?_⟩
        intro f a w hS hC hK hO hW
        have hcalls := (hG g sp hsp).2 hk _ _ _ e' f w t l0 he' hnb hvc hC hK hO hW
        refine ⟨?_, fun p hp => by simp at hp⟩
        intro next Q hn
        have hx1 := (evalO_sound hS hx).1
        have hl1 := (evalList_sound hS hl).1
        have hrun := call_run (P := P) (f := f) (w := w) hcall hx1 hl1 (hG g sp hsp).1.fn
        unfold Oper.wp
        rw [hrun, Oper.upon_enter]
        refine hcalls.mono ?_
        rintro en w1 ⟨j, rfl, hu⟩
        refine hn _ _ j (.inr ?_) ?_
        · simp [updJ, TV.den, SV.den]
        · unfold UpdE; exact hu
       | none =>
       simp only [hnb, PR.get, Option.some.injEq] at he
       subst he
       refine ⟨rfl, fun b p v hv => findC_collectC hv, fun b i hi => look_collectK hi, ?_⟩
       intro f a w hS hC hK hO hW
       obtain ⟨hne, hws, hcalls⟩ := (hG g sp hsp).1.ok _ _ _ e' f w he' hnb hvc hC hK hO hW
       refine ⟨?_, hws⟩
       intro next Q hn
       have hx1 := (evalO_sound hS hx).1
       have hl1 := (evalList_sound hS hl).1
       have hrun := call_run (P := P) (f := f) (w := w) hcall hx1 hl1 (hG g sp hsp).1.fn
       unfold Oper.wp
       rw [hrun, Oper.upon_enter]
       refine hcalls.mono ?_
       rintro en w1 ⟨rfl, hu⟩
       refine hn _ _ 0 (.inr ?_) ?_
       · simp [updJ, hnb]
       · unfold UpdE; rw [hnb]; exact hu
     · simp only [Prod.mk.injEq] at h
       obtain ⟨rfl, rfl, rfl, rfl⟩ := h
       split at he
       · obtain ⟨hnb, hws, hfn, hcalls⟩ := hF g _ e he hvc
         refine ⟨rfl, fun b p v hv => by simp [findC] at hv, fun b i hi => by simp [look] at hi, ?_⟩
         intro f a w hS hC hK hO _
         refine ⟨?_, by rw [hws]; intro p hp; simp at hp⟩
         intro next Q hn
         have hx1 := (evalO_sound hS hx).1
         have hl1 := (evalList_sound hS hl).1
         have hrun := call_run (P := P) (f := f) (w := w) hcall hx1 hl1 hfn
         unfold Oper.wp
         rw [hrun, Oper.upon_enter]
         refine (hcalls f w hO).mono ?_
         rintro en w1 ⟨rfl, hu⟩
         refine hn _ _ 0 (.inr ?_) ?_
         · simp [updJ, hnb]
         · unfold UpdE; rw [hnb, hws]; exact hu
       · simp [PR.get] at he
   · simp only [Prod.mk.injEq] at h
     obtain ⟨_, _, _, rfl⟩ := h
     simp [PR.get] at he
 · simp only [Prod.mk.injEq] at h
   obtain ⟨rfl, rfl, rfl, rfl⟩ := h
   refine ⟨rfl, fun b p v hv => findC_collectC hv, fun b i hi => look_collectK hi, ?_⟩
   intro f a w hS hC hK hO _
   obtain ⟨h1, h2, _⟩ := (prim_sound he hvc hS hC hK hO).opWp
   exact ⟨h1, h2⟩
structure TInv (W : World) (P : Program) (all : Array Oper) (nt : Nat) (bs : SL) (bm : Mem) (tr : List Entry) (s : SL) (m : Mem) : Prop where
 rec_ : TRec W P all nt bs bm tr
 slots : s ++ bs = stL gS tt tr bs
 cells : m.cells ++ bm.cells = stL gC tt tr bm.cells
 blks : m.blks ++ bm.blks = stL gB tt tr bm.blks
 next : bm.next ≤ m.next
 lays : ∀ x ∈ tr, x.lays = true → x.nid < m.next
def DecOk (dec : List (Nat × Bool)) (s : SL) : Prop := ∀ d v, look dec d = some v → ∃ b, look s d = some (.one (.bool (.sym b))) ∧ b = v
theorem look_dropDec {dst : Option Nat} {dec : List (Nat × Bool)} {d : Nat} {v : Bool} (h : look (dropDec dst dec) d = some v) : look dec d = some v ∧ dst ≠ some d := by
 cases dst with
 | none => exact ⟨h, by simp⟩
 | some k =>
  have key : ∀ l : List (Nat × Bool), look (dropDec.go k l) d = some v → look l d = some v ∧ k ≠ d := by
   intro l
   induction l with
   | nil => intro h'; simp [dropDec.go, look] at h'
   | cons p l ih =>
    obtain ⟨j, u⟩ := p
    intro h'
    simp only [dropDec.go] at h'
    split at h'
    · rename_i hj
      have := Nat.eq_of_beq_eq_true hj
      subst this
      obtain ⟨h1, h2⟩ := ih h'
      exact ⟨by rw [look_cons, if_neg h2]; exact h1, h2⟩
    · rename_i hj
      have hjk := Nat.ne_of_beq_eq_false hj
      rw [look_cons] at h' ⊢
      by_cases hd : j = d
      · subst hd
        rw [if_pos rfl] at h' ⊢
        exact ⟨h', Ne.symm hjk⟩
      · rw [if_neg hd] at h' ⊢
        exact ih h'
  obtain ⟨h1, h2⟩ := key dec h
  exact ⟨h1, by simp [h2]⟩
theorem drop_cons {l : List Oper} {i : Nat} {o : Oper} {r : List Oper} (h : o :: r = l.drop i) : l[i]? = some o ∧ r = l.drop (i + 1) := by
 have h1 : (l.drop i)[0]? = some o := by rw [← h]; rfl
 have h2 : (l.drop i).drop 1 = r := by rw [← h]; rfl
 rw [List.getElem?_drop] at h1
 rw [List.drop_drop] at h2
 exact ⟨by simpa using h1, by rw [← h2]⟩
theorem gS_append (o : Oper) (v : TV) (s : SL) (x : Entry) (ho : x.o = o) (hv : x.val = v) : putS o.dst v s = gS x ++ s := by
 subst ho hv
 unfold gS putS
 cases x.o.dst <;> rfl
theorem newOk_ws {s : SL} {M : Mem} {e : Eff} (h : newOk s M e = true) : e.nb ≠ none → e.ws = [] := by
 intro hn
 unfold newOk at h
 split at h
 · rename_i hh; exact absurd hh hn
 · split at h
   · rename_i hw; exact hw
   · contradiction
theorem newOk_lt {s : SL} {M : Mem} {e : Eff} (h : newOk s M e = true) : e.nb ≠ none → ltS M.next s = true ∧ ltM M.next M = true := by
 intro hn
 unfold newOk at h
 split at h
 · rename_i hh; exact absurd hh hn
 · split at h
   · simp only [Bool.and_eq_true] at h; exact h.1
   · contradiction
theorem newOk_init {s : SL} {M : Mem} {e : Eff} (h : newOk s M e = true) {x : Entry} (hx : x.eff = some e) (hn : x.nid = M.next) : ∀ p ∈ gB x, allB (SV.lt x.nid) p.2.init = true := by
 intro p hp
 unfold newOk at h
 unfold gB at hp
 rw [hx] at hp
 simp only at hp
 split at h
 · rename_i hh; rw [hh] at hp; simp at hp
 · rename_i t l hh
   rw [hh] at hp
   simp only [List.mem_singleton] at hp
   subst hp
   split at h
   · simp only [Bool.and_eq_true] at h; rw [hn]; exact h.2
   · contradiction
theorem allB_append {α : Type} {p : α → Bool} : ∀ {a b : List α}, allB p (a ++ b) = true → allB p b = true
 | [], b, h => h
 | x :: a, b, h => by
  simp only [List.cons_append, allB] at h
  split at h <;> try contradiction
  exact allB_append h
theorem memT_get {tr : List Entry} {m : Mem} (hc : m.cells ++ bm.cells = stL gC tt tr bm.cells) (hb : m.blks ++ bm.blks = stL gB tt tr bm.blks) (N : Nat) : (memT bm tt tr N).get = (m.on bm).get := by
 funext b o
 simp only [memT, Mem.get, Mem.on, hc, hb]
theorem prune_get {F : FuncId → List TV → PR} {o : Oper} {s : SL} {m : Mem} {dec : List (Nat × Bool)} (hdec : DecOk dec (s ++ bs)) {ins : SL} {rd : List (Nat × Nat × SV)} {kn : List (Nat × BI)} {pr : PR}
  (h : dstep P W G F all o (Cf.S ⟨nt, bs, bm⟩ s) (Cf.M ⟨nt, bs, bm⟩ m) = (ins, rd, kn, pr)) : (prune dec o pr).get = pr.get := by
 unfold prune
 split <;> try rfl
 rename_i d a b hop
 split <;> try rfl
 rename_i v hv
 split <;> try rfl
 rename_i q x y
 obtain ⟨b', hb, hbv⟩ := hdec d v hv
 subst hbv
 have hq : q = b' := by
  unfold dstep callOf at h
  simp only [hop, Prod.mk.injEq] at h
  obtain ⟨_, _, _, h⟩ := h
  unfold prim at h
  simp only [hop] at h
  have hl : ∀ u, evalO (look (collectS (Cf.S ⟨nt, bs, bm⟩ s) (o.looksAt all))) (.tmp d) = some u → u = .one (.bool (.sym b')) := by
   intro u hu
   simp only [evalO, look_collectS] at hu
   have hS : Cf.S ⟨nt, bs, bm⟩ s d = some (.one (.bool (.sym b'))) := hb
   rw [hS] at hu
   by_cases hm : d ∈ o.looksAt all
   · rw [if_pos hm] at hu
     simpa using hu.symm
   · rw [if_neg hm] at hu
     simp at hu
  split at h
  · rename_i hu; have := hl _ hu; simp at this
  · rename_i hu; have := hl _ hu; simp at this
  · rename_i q' hu
    have := hl _ hu
    simp only [PR.br.injEq] at h
    simp only [TV.one.injEq, SV.bool.injEq, SB.sym.injEq] at this
    rw [← h.1]; exact this
  · simp at h
 subst hq
 cases q <;> rfl
theorem dops_text (hG : GOk W P G) : ∀ (n : Nat) (_ : ∀ k, k < n → Sound W P G k) (rest : List Oper) (i : Nat) (tr : List Entry) (dec : List (Nat × Bool)) (s : SL) (m : Mem) (lf : Leaf),
  (run P W G n (.dops all rest i tr dec) ⟨nt, bs, bm⟩ s m).get = some lf → lf.2.1.val = true → rest = all.toList.drop i → tr.length = i → i ≤ all.size → TInv W P all nt bs bm tr s m → DecOk dec (s ++ bs) →
  ∃ tr', lf.1 = .nrm ∧ tr'.length = all.size ∧ TInv W P all nt bs bm tr' lf.2.2.1 lf.2.2.2 ∧ indep all (ancs all.toList []) tr' = true := by
 intro n
 induction n with
 | zero => intro _ rest i tr dec s m lf h; simp [run, R.get] at h
 | succ n ih =>
  intro hS rest i tr dec s m lf h hvc hrest hlen hile hinv hdec
  simp only [run] at h
  split at h
  · -- the end
    split at h
    · rename_i hind
      simp only [R.get, Option.some.injEq] at h
      subst h
      refine ⟨tr, rfl, ?_, hinv, hind⟩
      have : (all.toList.drop i).length = 0 := by rw [← hrest]; rfl
      simp at this
      omega
    · simp [R.get] at h
  · rename_i o r
    obtain ⟨ho, hr⟩ := drop_cons hrest
    have hlt : i < all.size := by
     have := (List.getElem?_eq_some_iff.1 ho).1
     simpa using this
    have ho' : all[i]? = some o := by rw [← Array.getElem?_toList]; exact ho
    split at h
    · simp [R.get] at h
    rename_i hdst
    have next : ∀ (x : Entry) (s' : SL) (m' : Mem), x.ix = i → x.o = o → (∀ t v, look x.ins t = some v → (look (s ++ bs) t = some v ∧ t ∈ o.looksAt all)) → (∀ b p v, findC x.rd b p = some v → (m.on bm).get b p = some v) →
      (∀ b j, look x.kn b = some j → look (m.on bm).blks b = some j) → Acts W P all x → (x.lays = true → x.nid = m.next ∧ ltS m.next (s ++ bs) = true ∧ ltM m.next (m.on bm) = true ∧ m.next < m'.next ∧ ∀ p ∈ gB x, allB (SV.lt x.nid) p.2.init = true) →
      s' = gS x ++ s → m'.cells = gC x ++ m.cells → m'.blks = gB x ++ m.blks → m.next ≤ m'.next → TInv W P all nt bs bm (x :: tr) s' m' := by
     intro x s' m' hix hxo hins hrd hkn hact hlays hs hc hb hn
     refine ⟨⟨⟨?_, ?_, ?_, ?_, ?_, ?_, ?_, hact, ?_⟩, hinv.rec_⟩, ?_, ?_, ?_, Nat.le_trans hinv.next hn, ?_⟩
     · rw [hix, hlen]
     · rw [hix, hxo]; exact ho'
     · rw [hxo]; exact hdst
     · intro t v hv; rw [← hinv.slots]; exact (hins t v hv).1
     · intro b p v hv; rw [memT_get hinv.cells hinv.blks]; exact hrd b p v hv
     · intro b j hj; rw [← hinv.blks]; exact hkn b j hj
     · intro t v hv; rw [hxo]; exact (hins t v hv).2
     · intro hl
       obtain ⟨h1, h2, h3, _, h5⟩ := hlays hl
       refine ⟨by rw [h1]; exact hinv.next, ?_, ?_, h5⟩
       · rw [h1]; exact allB_append h2
       · rw [h1]
         simp only [ltM, Mem.on, Bool.and_eq_true] at h3 ⊢
         exact ⟨allB_append h3.1, allB_append h3.2⟩
     · rw [hs]; simp only [stL, tt, if_true, List.append_assoc]; rw [hinv.slots]
     · rw [hc]; simp only [stL, tt, if_true, List.append_assoc]; rw [hinv.cells]
     · rw [hb]; simp only [stL, tt, if_true, List.append_assoc]; rw [hinv.blks]
     · intro y hy hl
       rcases List.mem_cons.1 hy with rfl | hy
       · obtain ⟨h1, _, _, h4, _⟩ := hlays hl; omega
       · have := hinv.lays y hy hl; omega
    have hdec' : ∀ v, DecOk (dropDec o.dst dec) (putS o.dst v s ++ bs) := by
     intro v d u hd
     obtain ⟨h1, h2⟩ := look_dropDec hd
     obtain ⟨b, h3, h4⟩ := hdec d u h1
     refine ⟨b, ?_, h4⟩
     cases hod : o.dst with
     | none => exact h3
     | some k =>
      simp only [putS, List.cons_append, look_cons]
      rw [if_neg (by rintro rfl; exact h2 hod)]
      exact h3
    have hins0 : ∀ t v, look (collectS (Cf.S ⟨nt, bs, bm⟩ s) (o.looksAt all)) t = some v → (look (s ++ bs) t = some v ∧ t ∈ o.looksAt all) := by
     intro t v hv
     rw [look_collectS] at hv
     split at hv
     · rename_i ht; exact ⟨hv, ht⟩
     · contradiction
    have passed : (∀ f a, SRel f (look (collectS (Cf.S ⟨nt, bs, bm⟩ s) (o.looksAt all))) a → Region.wanted o (yielded all a.tmps) = false) →
      (run P W G n (.dops all r (i + 1) (⟨i, o, collectS (Cf.S ⟨nt, bs, bm⟩ s) (o.looksAt all), [], [], none, m.next⟩ :: tr) (dropDec o.dst dec)) ⟨nt, bs, bm⟩ (putS o.dst .ud s) m).get = some lf →
      ∃ tr', lf.1 = .nrm ∧ tr'.length = all.size ∧ TInv W P all nt bs bm tr' lf.2.2.1 lf.2.2.2 ∧ indep all (ancs all.toList []) tr' = true := by
     intro hw hh
     refine ih (fun k hk => hS k (by omega)) r (i + 1) _ _ _ _ lf hh hvc hr (by simp [hlen]) (by omega) ?_ (hdec' .ud)
     refine next _ _ _ rfl rfl hins0 (by intro b p v hv; simp [findC] at hv) (by intro b j hj; simp [look] at hj) hw (by intro hl; simp [Entry.lays] at hl) ?_ ?_ ?_ (Nat.le_refl _)
     · exact gS_append o .ud s _ rfl rfl
     · rfl
     · rfl
    have carried : (∀ f a, SRel f (look (collectS (Cf.S ⟨nt, bs, bm⟩ s) (o.looksAt all))) a → Region.wanted o (yielded all a.tmps) = true) →
      (match dstep P W G (fun g args => ((run P W G n (.fn g args) ⟨0, [], ⟨[], [], 0⟩⟩ [] ⟨[], [], 0⟩).collapse [] ⟨[], [], 0⟩).toPR) all o (Cf.S ⟨nt, bs, bm⟩ s) (Cf.M ⟨nt, bs, bm⟩ m) with
       | (ins, rd, kn, pr) => (prune dec o pr).onEff fun e => match newOk (s ++ bs) (m.on bm) e with
        | true => run P W G n (.dops all r (i + 1) (⟨i, o, ins, rd, kn, some e, m.next⟩ :: tr) (dropDec o.dst dec)) ⟨nt, bs, bm⟩ (putS o.dst e.val s) (putM e m)
        | false => .fail).get = some lf →
      ∃ tr', lf.1 = .nrm ∧ tr'.length = all.size ∧ TInv W P all nt bs bm tr' lf.2.2.1 lf.2.2.2 ∧ indep all (ancs all.toList []) tr' = true := by
     intro hw hh
     generalize hds : dstep P W G (fun g args => ((run P W G n (.fn g args) ⟨0, [], ⟨[], [], 0⟩⟩ [] ⟨[], [], 0⟩).collapse [] ⟨[], [], 0⟩).toPR) all o (Cf.S ⟨nt, bs, bm⟩ s) (Cf.M ⟨nt, bs, bm⟩ m) = q at hh
     obtain ⟨ins, rd, kn, pr⟩ := q
     simp only [PR.get_onEff, prune_get hdec hds] at hh
     split at hh <;> try contradiction
     rename_i e he
     split at hh <;> try contradiction
     rename_i ex v s1 m1 h1
     simp only [Option.some.injEq] at hh
     subst hh
     simp only [SB.and_val, Bool.and_eq_true] at hvc
     split at h1 <;> try (simp [R.get] at h1)
     rename_i hnew
     obtain ⟨hi1, hi2, hi3, hi4⟩ := dstep_acts hG (pureF_of hG (hS n (Nat.lt_succ_self n))) hds he hvc.1
     subst hi1
     have := ih (fun k hk => hS k (by omega)) r (i + 1) _ _ _ _ (ex, v, s1, m1) h1 hvc.2 hr (by simp [hlen]) (by omega) (next ⟨i, o, collectS (Cf.S ⟨nt, bs, bm⟩ s) (o.looksAt all), rd, kn, some e, m.next⟩ (putS o.dst e.val s) (putM e m)
      rfl rfl hins0 hi2 hi3 ⟨hw, newOk_ws hnew, hi4⟩ ?_ ?_ ?_ ?_ ?_) (hdec' e.val)
     · exact this
     · intro hl
       have hnb : e.nb ≠ none := by
        intro h0
        simp [Entry.lays, h0] at hl
       obtain ⟨h2, h3⟩ := newOk_lt hnew hnb
       refine ⟨rfl, h2, h3, ?_, ?_⟩
       · cases hh : e.nb with
         | none => exact absurd hh hnb
         | some p => obtain ⟨t, l⟩ := p; simp [putM, hh]
       · exact newOk_init hnew rfl rfl
     · exact gS_append o e.val s _ rfl rfl
     · cases hh : e.nb with
       | none => simp [putM, hh, gC]
       | some p => obtain ⟨t, l⟩ := p; simp [putM, hh, gC]
     · cases hh : e.nb with
       | none => simp [putM, hh, gB]
       | some p => obtain ⟨t, l⟩ := p; simp [putM, hh, gB]
     · cases hh : e.nb with
       | none => simp [putM, hh]
       | some p => obtain ⟨t, l⟩ := p; simp [putM, hh]
    split at h
    · simp [R.get] at h
    · rename_i hgd
      exact passed (fun f a hS => guard_no hS (by rw [guardS_collect]; exact hgd)) h
    · rename_i hgd
      exact carried (fun f a hS => guard_yes hS (by rw [guardS_collect]; exact hgd)) h
    · rename_i d b want hgd
      have hwant : ∀ f a, SRel f (look (collectS (Cf.S ⟨nt, bs, bm⟩ s) (o.looksAt all))) a → Region.wanted o (yielded all a.tmps) = (b == want) :=
       fun f a hS => wanted_ask hS (by rw [guardS_collect]; exact hgd)
      obtain ⟨hSd, _⟩ := guard_ask hgd
      split at h
      · rename_i v hv
        obtain ⟨b', hb1, hb2⟩ := hdec d v hv
        have hbb : b' = b := by
         have : look (s ++ bs) d = some (.one (.bool (.sym b))) := hSd
         rw [this] at hb1
         simp only [Option.some.injEq, TV.one.injEq, SV.bool.injEq, SB.sym.injEq] at hb1
         exact hb1.symm
        subst hbb
        subst hb2
        split at h
        · rename_i hvw
          exact carried (fun f a hS => by rw [hwant f a hS]; exact hvw) h
        · rename_i hvw
          exact passed (fun f a hS => by rw [hwant f a hS]; exact hvw) h
      · simp only [R.get] at h
        have dec2 : ∀ v, b = v → DecOk ((d, v) :: dec) (s ++ bs) := by
         intro v hv d' u hd
         rw [look_cons] at hd
         split at hd
         · rename_i hdd
           subst hdd
           simp only [Option.some.injEq] at hd
           subst hd
           exact ⟨b, hSd, hv⟩
         · exact hdec d' u hd
        cases b
        · exact ih (fun k hk => hS k (by omega)) _ _ _ _ _ _ lf h hvc hrest hlen hile hinv (dec2 false rfl)
        · exact ih (fun k hk => hS k (by omega)) _ _ _ _ _ _ lf h hvc hrest hlen hile hinv (dec2 true rfl)
end
end Go.Sx
