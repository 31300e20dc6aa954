/- A part of the proof: the reference is safe, both packages write and read alike. Several texts in one; printed by slim28.py out of the texts of wip. -/
import Derived.Test.YtjmnolhkkpaodaaGreatDoorZ17
set_option linter.all false
namespace Go.Ty
open Go Go.Sx
theorem mem_memL {i j : Nat} : ∀ {l : List (Nat × Nat)}, (i, j) ∈ l → memL i j l = true
 | [], h => by simp at h
 | (x, y) :: l, h => by
  simp only [memL]
  split
  · rfl
  · rename_i hc
    rcases List.mem_cons.1 h with h | h
    · simp only [Prod.mk.injEq] at h
      obtain ⟨rfl, rfl⟩ := h
      simp at hc
    · exact mem_memL h
section
variable {T : Bool → TypeId → Option (List CT)} {v0 : Value} {κ κ' : Ctx} {n : Nat}
theorem AC.has_base (h1 : ∀ i, i < n → κ'.ρ i = κ.ρ i) (h2 : ∀ i, i < n → κ'.π i = κ.π i) (h3 : SExt κ.S κ'.S) {c : AC} {v : Value} (h : c.has T v0 κ v) (ho : ∀ m, c.off n m) : c.has T v0 κ' v := by
 have lt : ∀ i, (∀ m, ¬ (n ≤ i ∧ i < n + m)) → i < n := fun i hi => by have := hi (i + 1); omega
 cases c with
 | int k i d => simp only [AC.has] at h ⊢; rw [h1 i (lt i ho)]; exact h
 | bool b =>
  cases b with
  | lit _ => exact h
  | cmp c i d j e =>
   simp only [AC.has, AB.val] at h ⊢
   rw [h1 i (lt i fun m => (ho m).1), h1 j (lt j fun m => (ho m).2)]
   exact h
 | slc t i d => simp only [AC.has] at h ⊢; rw [h1 i (lt i ho)]; exact h.mono h3
 | nils => exact h
 | ptr t p o =>
  simp only [AC.has] at h ⊢
  rw [h2 p (lt p ho)]
  obtain ⟨k, k1, _, k2⟩ := h3 _ _ h.2
  exact ⟨h.1, by rw [k1, k2 rfl]⟩
 | eptr t o =>
  obtain ⟨b, j, x, ts, k1, k2, k3, k4, k5, k6⟩ := h
  obtain ⟨k, k7, k8, _⟩ := h3 b x k3
  exact ⟨b, j, ⟨x.row, x.t, k, x.cap⟩, ts, k1, k2, k7, k4, k5, Nat.lt_of_lt_of_le k6 k8⟩
 | fix => exact h
 | anyI k => exact h
 | anyB => exact h
theorem hasL_base (h1 : ∀ i, i < n → κ'.ρ i = κ.ρ i) (h2 : ∀ i, i < n → κ'.π i = κ.π i) (h3 : SExt κ.S κ'.S) : ∀ {l : List AC} {vs : List Value}, hasL T v0 κ l vs → (∀ m, offL n m l) → hasL T v0 κ' l vs
 | [], [], _, _ => trivial
 | c :: cs, v :: vs, hh, ho => ⟨AC.has_base h1 h2 h3 hh.1 fun m => ho m c (by simp), hasL_base h1 h2 h3 hh.2 fun m x hx => ho m x (by simp [hx])⟩
 | [], _ :: _, hh, _ => hh.elim
 | _ :: _, [], hh, _ => hh.elim
theorem hasP_base (h1 : ∀ i, i < n → κ'.ρ i = κ.ρ i) (h2 : ∀ i, i < n → κ'.π i = κ.π i) (h3 : SExt κ.S κ'.S) {q : Bool × List AC} {v : Value} (hh : hasP T v0 κ q v) (ho : ∀ m, offL n m q.2) : hasP T v0 κ' q v := by
 match q, hh with
 | (true, l), ⟨vs, k1, k2⟩ => exact ⟨vs, k1, hasL_base h1 h2 h3 k2 ho⟩
 | (false, [c]), hh => exact AC.has_base h1 h2 h3 hh fun m => ho m c (by simp)
theorem hasPs_base (h1 : ∀ i, i < n → κ'.ρ i = κ.ρ i) (h2 : ∀ i, i < n → κ'.π i = κ.π i) (h3 : SExt κ.S κ'.S) : ∀ {l : List (Bool × List AC)} {vs : List Value}, hasPs T v0 κ l vs → (∀ m, ∀ q ∈ l, offL n m q.2) → hasPs T v0 κ' l vs
 | [], [], _, _ => trivial
 | c :: cs, v :: vs, hh, ho => ⟨hasP_base h1 h2 h3 hh.1 fun m => ho m c (by simp), hasPs_base h1 h2 h3 hh.2 fun m x hx => ho m x (by simp [hx])⟩
 | [], _ :: _, hh, _ => hh.elim
 | _ :: _, [], hh, _ => hh.elim
theorem AV.has_base (h1 : ∀ i, i < n → κ'.ρ i = κ.ρ i) (h2 : ∀ i, i < n → κ'.π i = κ.π i) (h3 : SExt κ.S κ'.S) {x : AV} {v : Value} (h : x.has T v0 κ v) (ho : ∀ m, x.off n m) : x.has T v0 κ' v := by
 cases x with
 | ud => trivial
 | one c => exact AC.has_base h1 h2 h3 h ho
 | agg l => obtain ⟨vs, k1, k2⟩ := h; exact ⟨vs, k1, hasL_base h1 h2 h3 k2 ho⟩
 | tup ps => obtain ⟨vs, k1, k2⟩ := h; exact ⟨vs, k1, hasPs_base h1 h2 h3 k2 ho⟩
end
def upSel (sel : Nat → Bool) : List DE → Nat
 | [] => 0
 | x :: r => (if sel x.ix = true then x.e.up else 0) + upSel sel r
def upF (sel : Nat → Bool) : Nat → List TI → Nat
 | _, [] => 0
 | k, x :: r => (if sel k = true then x.up else 0) + upF sel (k + 1) r
def NewSel (es : List DE) (sel : Nat → Bool) (q : Nat) : Prop := ∃ x ∈ es, sel x.ix = true ∧ x.e.nb ≠ none ∧ q = x.I.n
section
variable {E : Env} {G : Nat → Option Con} {p : Par} {κ κ' κ0 : Ctx} {st st' : St} {all : Array Oper} {dps : List (List Nat)} {inf : List TI} {es : List DE} {S0 : SB'} {w0 : World} {a a0 : Act} {w w00 : World} {sel : Nat → Bool} {L0 : Int}
structure Inv (E : Env) (p : Par) (S0 : SB') (w0 : World) (st : St) (es : List DE) (inf : List TI) (κ0 : Ctx) (a0 : Act) (L0 : Int) (sel : Nat → Bool) (κ : Ctx) (a : Act) (w : World) : Prop where
 size : a.tmps.size = E.nt
 defers : a.defers = []
 ρ : ∀ i, i < st.nid → κ.ρ i = κ0.ρ i
 π : ∀ i, i < st.nid → κ.π i = κ0.π i
 ext : SExt κ0.S κ.S
 slots : ∀ x ∈ es, sel x.ix = true → ∀ d, x.o.dst = some d → x.e.av.has p.T p.v0 κ (a.tmps.getD d undef)
 base : ∀ t, (∀ x ∈ es, x.o.dst = some t → sel x.ix = false) → a.tmps.getD t undef = a0.tmps.getD t undef
 ids : ∀ x ∈ es, sel x.ix = true → ∀ (j : Nat) (b : Bd), x.e.new[j]? = some b → b.ok p.M (κ.ρ (x.I.n + j))
 lts : ∀ x ∈ es, sel x.ix = true → ∀ z ∈ x.e.lts, κ.ρ z.1 < κ.ρ z.2
 wt : WT p κ.S (L0 + upSel sel es) w
 mem0 : ∀ q t l, Sx.look st.mem q = some (t, l) → (∀ k ti, inf[k]? = some ti → sel k = true → tch ti q t = false) → cellsAt p κ w (κ.π q) l
 mem : ∀ x ∈ es, sel x.ix = true → ∀ y ∈ x.content, κ.S (κ.π y.1) = some ⟨false, y.2.1, 1, 1⟩ ∧ ((∀ k ti, inf[k]? = some ti → sel k = true → tch ti y.1 y.2.1 = true → k = x.ix ∨ k ∈ x.dp) → cellsAt p κ w (κ.π y.1) y.2.2)
 ps : ∀ q, (q ∈ st.ps ∨ NewSel es sel q) → κ.π q < w.heap.size
 inj : ∀ q q', (q ∈ st.ps ∨ NewSel es sel q) → (q' ∈ st.ps ∨ NewSel es sel q') → κ.π q = κ.π q' → q = q'
 fr : Fr0 E.eff S0 w0 (fun q => (q ∈ st.own ∧ q < st.nid) ∨ NewSel es sel q) κ w
structure EOk (E : Env) (st : St) (all : Array Oper) (inf : List TI) (acc : List DE) (x : DE) : Prop where
 dstOk : dstOk E.nt x.o.dst = true
 dst : ∀ t, x.o.dst = some t → dstIx all.toList t 0 = some x.ix
 av : ltV (x.I.n + x.e.new.length) x.e.av = true
 lts : ltPairs (x.I.n + x.e.new.length) x.e.lts = true
 kill : subK E.eff x.e.kill = true
 wr : wrOk E.eff (newL x.dp acc ++ st.own) (newL x.dp acc ++ st.ps) x.e.wr = true
 pm : conOkM (x.I.n + x.e.new.length) (newL x.dp acc ++ st.ps) x.e.pm = true
 nb : ∀ q, x.e.nb = some q → x.e.new.length = 1 ∧ ltLs (x.I.n + x.e.new.length) q.2 = true
 inf : ∃ ti, inf[x.ix]? = some ti ∧ ti.wr = x.e.wr ∧ ti.kill = x.e.kill ∧ ti.up = x.e.up
 off : offAll x.dp x.e x.content acc = true
theorem eOk {acc : List DE} {x : DE} (h : entOk E st all inf acc x = true) : EOk E st all inf acc x := by
 unfold entOk at h
 simp only [Bool.and_eq_true] at h
 obtain ⟨⟨⟨⟨⟨⟨⟨⟨⟨h2, h3⟩, h4⟩, h5⟩, h6⟩, h7⟩, h8⟩, h9⟩, h10⟩, h11⟩ := h
 refine ⟨h2, ?_, h4, h5, h6, h7, h8, ?_, ?_, h11⟩
 · intro t ht
   rw [ht] at h3
   simp only at h3
   split at h3 <;> try contradiction
   rename_i j hj
   rw [hj, Nat.eq_of_beq_eq_true h3]
 · intro q hq
   rw [hq] at h9
   obtain ⟨t, l⟩ := q
   simp only [Bool.and_eq_true, Nat.beq_eq] at h9
   exact h9
 · split at h10 <;> try contradiction
   rename_i ti hti
   simp only [Bool.and_eq_true, Nat.beq_eq] at h10
   exact ⟨ti, hti, eqWr_eq h10.1.1, eqK_eq h10.1.2, h10.2⟩
theorem content_mem {x : DE} {y : Nat × TypeId × List AC} (h : y ∈ x.content) : (∃ q, x.e.nb = some q ∧ y = (x.I.n, q.1, q.2)) ∨ y ∈ x.e.pm := by
 simp only [DE.content, List.mem_append] at h
 rcases h with h | h
 · cases hb : x.e.nb with
   | none => rw [hb] at h; simp [newM] at h
   | some q =>
    obtain ⟨t, l⟩ := q
    rw [hb] at h
    simp [newM] at h
    exact .inl ⟨(t, l), rfl, h⟩
 · exact .inr h
theorem upSel_congr {s s' : Nat → Bool} : ∀ {es : List DE}, (∀ x ∈ es, s x.ix = s' x.ix) → upSel s es = upSel s' es
 | [], _ => rfl
 | x :: r, h => by simp only [upSel, h x (by simp), upSel_congr (es := r) (s := s) (s' := s') fun y hy => h y (List.mem_cons_of_mem x hy)]
theorem upSel_more (hT : TR E G st all dps inf es) {x : DE} (hx : x ∈ es) (hs : sel x.ix = false) : upSel (fun j => sel j || j == x.ix) es = upSel sel es + x.e.up := by
 induction es with
 | nil => simp at hx
 | cons z r ih =>
  have hix := hT.1.ix
  simp only [upSel]
  by_cases hzx : z = x
  · subst hzx
    rw [upSel_congr (s' := sel) (fun y hy => by
     have := (TR.lt hT.2 y hy).1
     have hne : ¬ y.ix = z.ix := by omega
     simp [hne])]
    simp [hs]
    omega
  · have hxr : x ∈ r := by
     rcases List.mem_cons.1 hx with h | h
     · exact absurd h.symm hzx
     · exact h
    have hne : ¬ z.ix = x.ix := fun h => hzx (hT.uniq (by simp) hx h)
    rw [ih hT.2 hxr]
    simp [hne]
    omega
theorem upF_append (sel : Nat → Bool) : ∀ (l : List TI) (k : Nat) (x : TI), upF sel k (l ++ [x]) = upF sel k l + (if sel (k + l.length) = true then x.up else 0)
 | [], k, x => by simp [upF]
 | y :: l, k, x => by
  simp only [List.cons_append, upF, upF_append sel l (k + 1) x, List.length_cons]
  rw [show k + 1 + l.length = k + (l.length + 1) by omega]
  omega
theorem upSel_upF (hT : TR E G st all dps inf es) : upSel sel es = upF sel 0 (inf.take es.length) := by
 induction es with
 | nil => simp [upSel, upF]
 | cons x r ih =>
  have hix := hT.1.ix
  obtain ⟨ti, h1, _, _, h4⟩ := (eOk hT.1.ok).inf
  have hlt := (List.getElem?_eq_some_iff.1 h1)
  obtain ⟨hl, hg⟩ := hlt
  have : inf.take (r.length + 1) = inf.take r.length ++ [ti] := by
   rw [List.take_succ_eq_append_getElem (by omega)]
   congr 2
   rw [← hg]
   congr 1
   exact hix.symm
  simp only [upSel, List.length_cons, this, upF_append, Nat.zero_add, List.length_take]
  rw [ih hT.2, show min r.length inf.length = r.length by omega, hix, h4]
  omega
theorem upF_le {i : Nat} : ∀ {l : List TI} {k : Nat}, (∀ j, sel j = true → j ≠ i ∧ i ∉ getN dps j) → upF sel k l ≤ upSum dps i k l
 | [], k, _ => by simp [upF]
 | x :: r, k, h => by
  have ih := upF_le (l := r) (k := k + 1) h
  simp only [upF, upSum]
  by_cases hs : sel k = true
  · obtain ⟨h1, h2⟩ := h k hs
    have : (Nat.beq k i || memN i (getN dps k)) = false := by
     simp only [Bool.or_eq_false_iff]
     refine ⟨?_, ?_⟩
     · cases hh : Nat.beq k i
       · rfl
       · exact absurd (Nat.eq_of_beq_eq_true hh) h1
     · cases hh : memN i (getN dps k)
       · rfl
       · exact absurd (memN_iff.1 hh) h2
    rw [this]
    simp only [hs, if_true]
    omega
  · rw [if_neg hs]
    split <;> omega
theorem upF_take : ∀ (l : List TI) (n k : Nat), upF sel k (l.take n) ≤ upF sel k l
 | [], n, k => by simp
 | x :: r, 0, k => by simp [upF]
 | x :: r, n + 1, k => by
  simp only [List.take_succ_cons, upF]
  have := upF_take r n (k + 1)
  omega
end
end Go.Ty
namespace Go.Ty
open Go Go.Sx
section
variable {E : Env} {G : Nat → Option Con} {p : Par} {κ κ' κ0 : Ctx} {st st' : St} {all : Array Oper} {inf : List TI} {es : List DE} {S0 : SB'} {w0 : World} {a a0 : Act} {w w00 : World} {sel : Nat → Bool}
theorem notdep (hcl : ClosedS all sel) {i k : Nat} (hi : sel i = false) (hk : sel k = true) : i ∉ getN (dpsGo all.toList []) k := by
 intro h
 cases ho : all[k]? with
 | none =>
  have h2 := (dpsGo_ok (all := all) (l := all.toList) (pre := []) (acc := []) (by simp) rfl (fun i hi => by simp at hi)).2
  have : all.size ≤ k := by simpa using ho
  simp only [getN] at h
  rw [List.getElem?_eq_none (by omega)] at h
  simp at h
 | some o =>
  have := dps_all ho hcl (fun e he hb => hcl k o ho e he hb hk) i h
  rw [hi] at this
  cases this
theorem draw_step (hE : EnvOk E G p) (hrel : Rel E p S0 w0 κ0 st a0 w00) (hlts : LtsOk st) (hT : TR E G st all (dpsGo all.toList []) inf es) (hlen : es.length = all.size) {x : DE} (hx : x ∈ es) (hoff : sel x.ix = false)
  (haf : ∀ e ∈ x.o.after.toList, Region.binds .any e = true → sel e.on = true) (hcl : ClosedS all sel) (hinv : Inv E p S0 w0 st es inf κ0 a0 ((st.A : Int) * p.M + st.K) sel κ a w) :
  (match gdI E all x.I x.o with
   | some true => Region.wanted x.o (yielded all a.tmps) = true ∧ OpWp E p κ x.I x.o x.e (((st.A : Int) * p.M + st.K) + upSel sel es) a w
   | some false => Region.wanted x.o (yielded all a.tmps) = false ∧ OpOut p κ κ x.I.n x.e (((st.A : Int) * p.M + st.K) + upSel sel es) w w undef
   | none => False) ∧ ∀ u w' κ', OpOut p κ κ' x.I.n x.e (((st.A : Int) * p.M + st.K) + upSel sel es) w w' u →
   Inv E p S0 w0 st es inf κ0 a0 ((st.A : Int) * p.M + st.K) (fun j => sel j || j == x.ix) κ' (a.put x.o.dst u) w' := by
 obtain ⟨r, l, hes, hDF, hTr⟩ := hT.mem hx
 have hok := eOk hDF.ok
 have hdp : ∀ k ∈ x.dp, sel k = true := by rw [hDF.dp]; exact dps_all hDF.o hcl haf
 have hnd : ∀ k, sel k = true → x.ix ∉ getN (dpsGo all.toList []) k := fun k hk => notdep hcl hoff hk
 have hge : st.nid ≤ x.I.n := by rw [hDF.n]; exact hTr.ge
 have hpos0 : 0 < st.nid := hrel.inp.pos
 have hrin : ∀ y ∈ r, y ∈ es := fun y hy => by rw [hes]; simp [hy]
 have hrlt : ∀ y ∈ r, y.I.n + y.e.new.length ≤ x.I.n := fun y hy => by rw [hDF.n]; exact (hTr.lt y hy).2
 have hall : all.toList.length = es.length := by rw [hlen, Array.length_toList]
 have ent : ∀ (j : Nat) (o : Oper), all[j]? = some o → ∃ y ∈ es, y.ix = j ∧ y.o = o := by
  intro j o ho
  have hj : j < es.length := by rw [hlen]; exact (Array.getElem?_eq_some_iff.1 ho).1
  obtain ⟨y, h1, h2⟩ := hT.at hj
  obtain ⟨_, _, _, h4, _⟩ := hT.mem h1
  have := h4.o
  rw [h2, ho] at this
  simp only [Option.some.injEq] at this
  exact ⟨y, h1, h2, this.symm⟩
 have hagr : ∀ (v : AV) (u : Value), v.has p.T p.v0 κ0 u → (∀ m, v.off st.nid m) → v.has p.T p.v0 κ u := fun v u hv ho => AV.has_base hinv.ρ hinv.π hinv.ext hv ho
 have hI : InOk p κ x.I a w := by
  rw [hDF.I]
  refine ⟨by rw [hinv.ρ 0 hpos0]; exact hrel.inp.zero, ?_, ?_, ?_, ?_, ?_, ?_, ?_, ?_⟩
  · -- slots
    intro t v hv
    simp only [inOf, slotF] at hv
    split at hv
    · rename_i hn
      have hb : a.tmps.getD t undef = a0.tmps.getD t undef := hinv.base t fun y hy hd => by
       obtain ⟨_, _, _, h4, _⟩ := hT.mem hy
       exact absurd hd (dstIx_none hn y.o (List.mem_of_getElem? (by rw [Array.getElem?_toList]; exact h4.o)))
      rw [hb]
      exact hagr v _ (hrel.inp.slots t v hv) (hrel.inp.offS t v hv)
    · rename_i j hj
      split at hv
      case h_2 =>
       split at hv <;> try contradiction
       rename_i hij
       have hij := memN_iff.1 hij
       have hb : a.tmps.getD t undef = a0.tmps.getD t undef := hinv.base t fun y hy hd => by
        obtain ⟨_, _, _, h4, _⟩ := hT.mem hy
        have hyj := (eOk h4.ok).dst t hd
        rw [hj] at hyj
        simp only [Option.some.injEq] at hyj
        cases hsy : sel y.ix with
        | false => rfl
        | true => exact absurd hij (by rw [hyj]; exact hnd _ hsy)
       rw [hb]
       exact hagr v _ (hrel.inp.slots t v hv) (hrel.inp.offS t v hv)
      rename_i hjd
      have hjd := memN_iff.1 hjd
      rw [← hDF.dp] at hjd
      split at hv <;> try contradiction
      rename_i y hy
      simp only [Option.some.injEq] at hv
      subst hv
      obtain ⟨hyr, hyj⟩ := findE_mem hy
      obtain ⟨o, _, h2, h3⟩ := dstIx_some hj
      rw [Nat.sub_zero, Array.getElem?_toList] at h2
      have hyo : y.o = o := by
       obtain ⟨_, _, _, h4, _⟩ := hT.mem (hrin y hyr)
       have := h4.o
       rw [hyj, h2] at this
       simp only [Option.some.injEq] at this
       exact this.symm
      exact hinv.slots y (hrin y hyr) (by rw [hyj]; exact hdp j hjd) t (by rw [hyo]; exact h3)
  · -- known blocks
    intro q t c hq
    simp only [inOf] at hq
    rcases memF_spec hq with ⟨h1, h2⟩ | ⟨y, hy, hyd, hyc, h2⟩
    · obtain ⟨h3, _⟩ := hrel.inp.mem q t c h1
      have hqn : q < st.nid := (hrel.inp.offM q t c h1).1
      refine ⟨?_, hinv.mem0 q t c h1 fun k ti hk hsk => ?_⟩
      · rw [hinv.π q hqn]
        obtain ⟨k, k1, _, k2⟩ := hinv.ext _ _ h3
        rw [k1, k2 rfl]
      · cases ht : tch ti q t with
        | false => rfl
        | true =>
         rcases h2 k ti hk ht with rfl | h
         · rw [hoff] at hsk; cases hsk
         · exact absurd h (hnd k hsk)
    · rw [← hDF.dp] at hyd
      obtain ⟨h3, h4⟩ := hinv.mem y (hrin y hy) (hdp _ hyd) _ hyc
      refine ⟨h3, h4 fun k ti hk hsk ht => ?_⟩
      rcases h2 k ti hk ht with rfl | h | h | h
      · rw [hoff] at hsk; cases hsk
      · exact .inl h
      · exact .inr h
      · exact absurd h (hnd k hsk)
  · intro k b hb
    simp only [inOf] at hb
    rw [look_append] at hb
    split at hb
    · rename_i b' hb'
      simp only [Option.some.injEq] at hb
      subst hb
      obtain ⟨y, hy, hyd, h1, h2⟩ := idsL_look hb'
      rw [← hDF.dp] at hyd
      have := hinv.ids y (hrin y hy) (hdp _ hyd) _ _ h2
      rwa [show y.I.n + (k - y.I.n) = k by omega] at this
    · rw [hinv.ρ k (hrel.inp.offB k b hb)]
      exact hrel.inp.bd k b hb
  · intro i j hij
    simp only [inOf] at hij
    rcases List.mem_append.1 (memL_mem hij) with h | h
    · obtain ⟨y, hy, hyd, h1⟩ := ltsL_mem h
      rw [← hDF.dp] at hyd
      exact hinv.lts y (hrin y hy) (hdp _ hyd) _ h1
    · have h1 := hlts.lt _ h
      simp only at h1
      rw [hinv.ρ i h1.1, hinv.ρ j h1.2]
      exact hrel.inp.lts i j (mem_memL h)
  · show 0 < nidOf st r
    rw [← hDF.n]; omega
  · intro t v hv m
    simp only [inOf] at hv ⊢
    simp only [slotF] at hv
    rw [← hDF.n]
    split at hv
    · exact AV.off_up (hrel.inp.offS t v hv) hge m
    · rename_i j hj
      split at hv
      case h_2 =>
       split at hv <;> try contradiction
       exact AV.off_up (hrel.inp.offS t v hv) hge m
      split at hv <;> try contradiction
      rename_i y hy
      simp only [Option.some.injEq] at hv
      subst hv
      obtain ⟨hyr, _⟩ := findE_mem hy
      obtain ⟨ry, _, _, h4, _⟩ := hT.mem (hrin y hyr)
      exact AV.off_up (ltV_off (eOk h4.ok).av) (hrlt y hyr) m
  · intro q t c hq
    simp only [inOf] at hq ⊢
    rw [← hDF.n]
    rcases memF_spec hq with ⟨h1, _⟩ | ⟨y, hy, _, hyc, _⟩
    · obtain ⟨h2, h3⟩ := hrel.inp.offM q t c h1
      exact ⟨Nat.lt_of_lt_of_le h2 hge, offL_up h3 hge⟩
    · obtain ⟨ry, ly, hly, h4, h5⟩ := hT.mem (hrin y hy)
      have hy2 := eOk h4.ok
      have hle := hrlt y hy
      rcases content_mem hyc with ⟨⟨t', l'⟩, hq', heq⟩ | hyp
      · simp only [Prod.mk.injEq] at heq
        obtain ⟨rfl, rfl, rfl⟩ := heq
        obtain ⟨k1, k2⟩ := hy2.nb _ hq'
        exact ⟨by omega, offL_up (ltLs_off k2) hle⟩
      · obtain ⟨k1, k2⟩ := conOkM_mem hy2.pm _ hyp
        refine ⟨?_, offL_up (ltLs_off k2) hle⟩
        rcases List.mem_append.1 k1 with k1 | k1
        · obtain ⟨z, hz, _, hzn, hzq⟩ := newL_mem k1
          simp only at hzq
          have hz2 := (h5.lt z hz).2
          obtain ⟨rz, _, _, h6, _⟩ := h5.mem hz
          cases hzb : z.e.nb with
          | none => exact absurd hzb hzn
          | some qq =>
           have := ((eOk h6.ok).nb _ hzb).1
           have := h4.n
           omega
        · have := (hrel.ps _ k1).1
          simp only at this
          omega
  · intro k b hb
    simp only [inOf] at hb ⊢
    rw [← hDF.n]
    rw [look_append] at hb
    split at hb
    · rename_i b' hb'
      obtain ⟨y, hy, _, h1, h2⟩ := idsL_look hb'
      have := (List.getElem?_eq_some_iff.1 h2).1
      have := hrlt y hy
      omega
    · have := hrel.inp.offB k b hb
      simp only [St.inp] at this
      omega
 have hlow : (x.I.A : Int) * p.M + x.I.K ≤ ((st.A : Int) * p.M + st.K) + upSel sel es := by
  rw [hDF.I]
  simp only [inOf]
  omega
 have hhigh : ((st.A : Int) * p.M + st.K) + upSel sel es ≤ (x.I.A : Int) * p.M + x.I.U := by
  have h1 := upSel_upF (sel := sel) hT
  have h2 := upF_take (sel := sel) inf es.length 0
  have h3 := upF_le (sel := sel) (dps := dpsGo all.toList []) (i := x.ix) (l := inf) (k := 0) (fun j hj => ⟨fun h => absurd (h ▸ hj) (by rw [hoff]; simp), hnd j hj⟩)
  rw [hDF.I]
  simp only [inOf]
  omega
 have hgd : ∀ v, gdI E all x.I x.o = some v → Region.wanted x.o (yielded all a.tmps) = v := by
  intro v hv
  unfold gdI at hv
  unfold Region.wanted
  split at hv
  · rename_i hg
    rw [hg]
    simpa using hv
  · rename_i g b hg
    rw [hg]
    split at hv <;> try contradiction
    rename_i og hog
    split at hv <;> try contradiction
    rename_i d hd
    split at hv <;> try contradiction
    rename_i bb hbb
    split at hv <;> try contradiction
    rename_i v' hv'
    simp only [Option.some.injEq] at hv
    subst hv
    have h1 := hI.slots d _ hbb
    simp only [AV.has, AC.has] at h1
    rw [evalB_sound hI hE.M hv'] at h1
    have h2 : a.tmps[d]? = some (.bool v') := by
     rw [Array.getD_eq_getD_getElem?] at h1
     cases hh : a.tmps[d]? with
     | none => rw [hh] at h1; simp [undef] at h1
     | some z => rw [hh] at h1; simp only [Option.getD_some] at h1; rw [h1]
    simp only [yielded, hog, Option.bind_some, hd, h2]
    cases v' <;> cases b <;> rfl
 refine ⟨?_, ?_⟩
 · have hop := hDF.op
   unfold entE at hop
   split
   · rename_i hg
     rw [hg] at hop
     exact ⟨hgd _ hg, aop_sound hE hop hI hinv.wt hlow hhigh⟩
   · rename_i hg
     rw [hg] at hop
     simp only [Option.some.injEq] at hop
     refine ⟨hgd _ hg, ?_⟩
     rw [← hop]
     exact pureOut hinv.wt trivial
   · rename_i hg
     rw [hg] at hop
     cases hop
 intro u w' κ' hout
 have hag := hout.agree
 have sel' : ∀ {j}, (sel j || j == x.ix) = true → sel j = true ∨ j = x.ix := by
  intro j h
  simpa using h
 have offs : ∀ y ∈ es, sel y.ix = true → y.e.av.off x.I.n x.e.new.length ∧ (∀ z ∈ y.e.lts, ¬ (x.I.n ≤ z.1 ∧ z.1 < x.I.n + x.e.new.length) ∧ ¬ (x.I.n ≤ z.2 ∧ z.2 < x.I.n + x.e.new.length)) ∧
   (∀ z ∈ y.content, ¬ (x.I.n ≤ z.1 ∧ z.1 < x.I.n + x.e.new.length) ∧ offL x.I.n x.e.new.length z.2.2) ∧ (y.I.n + y.e.new.length ≤ x.I.n ∨ x.I.n + x.e.new.length ≤ y.I.n) := by
  intro y hy hsy
  have hne : y.ix ≠ x.ix := fun h => by rw [h, hoff] at hsy; cases hsy
  rcases Nat.lt_or_gt_of_ne hne with hlt | hgt
  · obtain ⟨hle, _⟩ := hT.order hy hx hlt
    obtain ⟨ry, ly, _, h4, h5⟩ := hT.mem hy
    have hy2 := eOk h4.ok
    refine ⟨AV.off_up (ltV_off hy2.av) hle _, fun z hz => ?_, fun z hz => ?_, .inl hle⟩
    · have := ltPairs_mem hy2.lts z hz
      omega
    · rcases content_mem hz with ⟨⟨t', l'⟩, hq', heq⟩ | hyp
      · subst heq
        obtain ⟨k1, k2⟩ := hy2.nb _ hq'
        exact ⟨by simp only; omega, offL_up (ltLs_off k2) hle _⟩
      · obtain ⟨k1, k2⟩ := conOkM_mem hy2.pm _ hyp
        refine ⟨?_, offL_up (ltLs_off k2) hle _⟩
        rcases List.mem_append.1 k1 with k1 | k1
        · obtain ⟨v, hv, _, hvn, hvq⟩ := newL_mem k1
          have hz2 := (h5.lt v hv).2
          obtain ⟨rz, _, _, h6, _⟩ := h5.mem hv
          cases hzb : v.e.nb with
          | none => exact absurd hzb hvn
          | some qq =>
           have := ((eOk h6.ok).nb _ hzb).1
           have := h4.n
           omega
        · have := (hrel.ps _ k1).1
          omega
  · obtain ⟨hle, ry, ly, h1, h2, h3, h4⟩ := hT.order hx hy hgt
    have hy2 := eOk h3.ok
    rcases offAll_mem hy2.off x h2 with h | ⟨h5, h6, h7⟩
    · rw [h3.dp] at h
      exact absurd h (hnd _ hsy)
    · exact ⟨h5, h6, h7, .inr hle⟩
 have hρ : ∀ i, i < x.I.n → κ'.ρ i = κ.ρ i := fun i hi => hag.ρ i (by omega)
 have hπ : ∀ i, i < x.I.n → κ'.π i = κ.π i := fun i hi => hag.π i (by omega)
 have hsz := hinv.size
 have psw : ∀ q, q ∈ newL x.dp r ++ st.ps → q ∈ st.ps ∨ NewSel es sel q := by
  intro q hq
  rcases List.mem_append.1 hq with h | h
  · obtain ⟨y, h1, h2, h3, h4⟩ := newL_mem h
    exact .inr ⟨y, hrin y h1, hdp _ h2, h3, h4⟩
  · exact .inl h
 have psn : ∀ q, (q ∈ st.ps ∨ NewSel es sel q) → κ'.π q = κ.π q := by
  intro q hq
  rcases hq with hq | ⟨y, h1, h2, h3, rfl⟩
  · exact hπ q (by have := (hrel.ps q hq).1; omega)
  · rcases (offs y h1 h2).2.2.2 with h | h
    · refine hπ _ ?_
      obtain ⟨ry, _, _, h4, _⟩ := hT.mem h1
      cases hb : y.e.nb with
      | none => exact absurd hb h3
      | some qq =>
       have := ((eOk h4.ok).nb _ hb).1
       omega
    · exact hag.π _ (by omega)
 have newx : ∀ q, NewSel es (fun j => sel j || j == x.ix) q → NewSel es sel q ∨ (q = x.I.n ∧ x.e.nb ≠ none) := by
  rintro q ⟨y, h1, h2, h3, h4⟩
  rcases sel' h2 with h | h
  · exact .inl ⟨y, h1, h, h3, h4⟩
  · have := hT.uniq h1 hx h
    subst this
    exact .inr ⟨h4, h3⟩
 have nbx : x.e.nb ≠ none → w.heap.size ≤ κ'.π x.I.n ∧ κ'.π x.I.n < w'.heap.size := by
  intro hb
  cases hbb : x.e.nb with
  | none => exact absurd hbb hb
  | some y =>
   obtain ⟨h1, ⟨arr, t, h5, _⟩, h3, h4⟩ := hout.nb _ hbb
   exact ⟨h3, lt_of_blk h5⟩
 have hwm := wrOk_mem hok.wr
 obtain ⟨ti, hti, hti1, hti2, hti3⟩ := hok.inf
 have stays : ∀ q t, (q ∈ st.ps ∨ NewSel es sel q) → κ.S (κ.π q) = some ⟨false, t, 1, 1⟩ → tch ti q t = false → w'.heap[κ.π q]? = w.heap[κ.π q]? := by
  intro q t hq hS ht
  simp only [tch, Bool.or_eq_false_iff] at ht
  refine hout.same _ (hinv.ps q hq) ?_ ?_
  · intro z hz hk
    rw [hS] at hz
    simp only [Option.some.injEq] at hz
    subst hz
    rw [← hti2] at hk
    rw [memK_iff.2 hk] at ht
    exact absurd ht.1 (by simp)
  · intro z hz hzz
    have hzq := hinv.inj _ _ (psw _ (hwm z hz).2) hq hzz
    rw [← hti1] at hz
    obtain ⟨y, hy⟩ := look_mem_of (l := ti.wr) (q := z.1) (x := z.2) hz
    rw [hzq] at hy
    rw [hy] at ht
    exact absurd ht.2 (by simp)
 refine ⟨?_, ?_, ?_, ?_, hinv.ext.trans hag.S, ?_, ?_, ?_, ?_, ?_, ?_, ?_, ?_, ?_, ?_⟩
 · cases hd : x.o.dst <;> simp [Act.put, hsz]
 · cases hd : x.o.dst <;> simp [Act.put, hinv.defers]
 · intro i hi; rw [hρ i (by omega)]; exact hinv.ρ i hi
 · intro i hi; rw [hπ i (by omega)]; exact hinv.π i hi
 · -- slots
   intro y hy hsy d hd
   rcases sel' hsy with h | h
   · have hne : y.ix ≠ x.ix := fun hh => by rw [hh, hoff] at h; cases h
     obtain ⟨ry, _, _, h4, _⟩ := hT.mem hy
     have hdy := (eOk h4.ok).dst d hd
     have hsame : (a.put x.o.dst u).tmps.getD d undef = a.tmps.getD d undef := by
      cases hxd : x.o.dst with
      | none => rfl
      | some d' =>
       have hdx := hok.dst d' hxd
       have : d' ≠ d := fun hh => by
        rw [hh, hdy] at hdx
        simp only [Option.some.injEq] at hdx
        exact hne hdx
       simp [Act.put, Array.getD_eq_getD_getElem?, Array.getElem?_setIfInBounds_ne this]
     rw [hsame]
     exact AV.has_agree hag (hinv.slots y hy h d hd) (offs y hy h).1
   · have := hT.uniq hy hx h
     subst this
     have hdk := hok.dstOk
     rw [hd] at hdk ⊢
     simp only [dstOk, blt_iff] at hdk
     have hlt : d < a.tmps.size := by rw [hsz]; exact hdk
     have : (a.put (some d) u).tmps.getD d undef = u := by
      simp [Act.put, Array.getD_eq_getD_getElem?, hlt]
     rw [this]
     exact hout.val
 · intro t ht
   rw [← hinv.base t fun y hy hd => by
    have := ht y hy hd
    simp only [Bool.or_eq_false_iff] at this
    exact this.1]
   cases hxd : x.o.dst with
   | none => rfl
   | some d' =>
    have : d' ≠ t := fun hh => by
     have := ht x hx (by rw [hxd, hh])
     simp at this
    simp [Act.put, Array.getD_eq_getD_getElem?, Array.getElem?_setIfInBounds_ne this]
 · intro y hy hsy j b hb
   rcases sel' hsy with h | h
   · have hlt := (List.getElem?_eq_some_iff.1 hb).1
     rw [hag.ρ _ (by rcases (offs y hy h).2.2.2 with h | h <;> omega)]
     exact hinv.ids y hy h j b hb
   · have := hT.uniq hy hx h
     subst this
     exact hout.new j b hb
 · intro y hy hsy z hz
   rcases sel' hsy with h | h
   · obtain ⟨k1, k2⟩ := (offs y hy h).2.1 z hz
     rw [hag.ρ _ k1, hag.ρ _ k2]
     exact hinv.lts y hy h z hz
   · have := hT.uniq hy hx h
     subst this
     exact hout.lts z hz
 · rw [upSel_more hT hx hoff]
   have := hout.wt
   rw [Int.natCast_add, ← Int.add_assoc]
   exact this
 · -- blocks of the base
   intro q t c hq hno
   have hqp := hrel.mps q _ hq
   have hqn := (hrel.ps q hqp).1
   rw [hπ q (by omega)]
   obtain ⟨h3, _⟩ := hrel.inp.mem q t c hq
   have hS : κ.S (κ.π q) = some ⟨false, t, 1, 1⟩ := by
    rw [hinv.π q hqn]
    obtain ⟨k, k1, _, k2⟩ := hinv.ext _ _ h3
    rw [k1, k2 rfl]
   have hc := hinv.mem0 q t c hq fun k ti hk hsk => hno k ti hk (by simp [hsk])
   refine cellsAt_agree hag hc (offL_up (hrel.inp.offM q t c hq).2 hge _) (stays q t (.inl hqp) hS (hno x.ix ti hti (by simp)))
 · intro y hy hsy z hz
   rcases sel' hsy with h | h
   · obtain ⟨k1, k2⟩ := hinv.mem y hy h z hz
     obtain ⟨o1, o2⟩ := (offs y hy h).2.2.1 z hz
     have hzp : z.1 ∈ st.ps ∨ NewSel es sel z.1 := by
      obtain ⟨ry, ly, hly, h4, h5⟩ := hT.mem hy
      rcases content_mem hz with ⟨q', hq', heq⟩ | hyp
      · subst heq
        exact .inr ⟨y, hy, h, by rw [hq']; simp, rfl⟩
      · rcases List.mem_append.1 (conOkM_mem (eOk h4.ok).pm _ hyp).1 with k | k
        · obtain ⟨v, hv, hvd, hvn, hvq⟩ := newL_mem k
          rw [h4.dp] at hvd
          have hve : v ∈ es := by rw [hly]; simp [hv]
          exact .inr ⟨v, hve, dps_all h4.o hcl (fun e he hb => hcl _ _ h4.o e he hb h) _ hvd, hvn, hvq⟩
        · exact .inl k
     have hpz := psn _ hzp
     rw [hpz]
     obtain ⟨k, e1, _, e2⟩ := hag.S _ _ k1
     refine ⟨by rw [e1, e2 rfl], fun hcond => ?_⟩
     have hnt : tch ti z.1 z.2.1 = false := by
      cases ht : tch ti z.1 z.2.1 with
      | false => rfl
      | true =>
       rcases hcond x.ix ti hti (by simp) ht with hh | hh
       · rw [← hh, hoff] at h; cases h
       · obtain ⟨ry, _, _, h4, _⟩ := hT.mem hy
         rw [h4.dp] at hh
         exact absurd hh (hnd _ h)
     exact cellsAt_agree hag (k2 fun k ti hk hsk ht => hcond k ti hk (by simp [hsk]) ht) o2 (stays _ _ hzp k1 hnt)
   · have := hT.uniq hy hx h
     subst this
     rcases content_mem hz with ⟨⟨t', l'⟩, hq', heq⟩ | hyp
     · subst heq
       obtain ⟨k1, k2, _, _⟩ := hout.nb _ hq'
       exact ⟨k1, fun _ => k2⟩
     · obtain ⟨k1, k2⟩ := hout.pm _ hyp
       exact ⟨k1, fun _ => k2⟩
 · intro q hq
   have hq2 : (q ∈ st.ps ∨ NewSel es sel q) ∨ (q = x.I.n ∧ x.e.nb ≠ none) := by
    rcases hq with hq | hq
    · exact .inl (.inl hq)
    · exact (newx q hq).imp .inr id
   rcases hq2 with hq | ⟨rfl, hb⟩
   · rw [psn q hq]
     exact Nat.lt_of_lt_of_le (hinv.ps q hq) hout.size
   · exact (nbx hb).2
 · intro q q' hq hq' hqq
   have conv : ∀ q, (q ∈ st.ps ∨ NewSel es (fun j => sel j || j == x.ix) q) → (q ∈ st.ps ∨ NewSel es sel q) ∨ (q = x.I.n ∧ x.e.nb ≠ none) := by
    intro q hq
    rcases hq with hq | hq
    · exact .inl (.inl hq)
    · exact (newx q hq).imp .inr id
   rcases conv q hq with h1 | ⟨rfl, h1⟩ <;> rcases conv q' hq' with h2 | ⟨rfl, h2⟩
   · rw [psn q h1, psn q' h2] at hqq
     exact hinv.inj q q' h1 h2 hqq
   · rw [psn q h1] at hqq
     have := hinv.ps q h1
     have := (nbx h2).1
     omega
   · rw [psn q' h2] at hqq
     have := hinv.ps q' h2
     have := (nbx h1).1
     omega
   · rfl
 · -- from where the function began
   have hf := hinv.fr
   refine ⟨hout.os.trans hf.os, hout.tape.trans hf.tape, hout.output.trans hf.output, Nat.le_trans hf.size hout.size, hf.ext.trans hag.S, ?_, ?_, ?_⟩
   · intro b z hz
     rcases hout.newS b z hz with ⟨y, hy⟩ | h
     · exact hf.newS b y hy
     · right; have := hf.size; omega
   · intro b hb hne
     have hbw : b < w.heap.size := Nat.lt_of_lt_of_le hb hf.size
     rw [← hf.same b hb hne]
     have back : ∀ z, κ.S b = some z → ∃ y, S0 b = some y ∧ y.row = z.row ∧ y.t = z.t := by
      intro z hz
      rcases hf.newS b z hz with ⟨y, hy⟩ | h
      · obtain ⟨k, h1, _⟩ := hf.ext b y hy
        rw [hz] at h1
        simp only [Option.some.injEq] at h1
        subst h1
        exact ⟨y, hy, rfl, rfl⟩
      · omega
     refine hout.same b hbw ?_ ?_
     · intro z hz hk
       obtain ⟨y, hy, h1, h2⟩ := back z hz
       exact hne y hy (by rw [h1, h2]; exact subK_mem hok.kill _ hk)
     · intro z hz hzz
       obtain ⟨h1, h2⟩ := hwm z hz
       rcases h1 with h1 | h1
       · have h5 : w0.heap.size ≤ κ.π z.1 := by
          rcases List.mem_append.1 h1 with h1 | h1
          · obtain ⟨y, k1, k2, k3, k4⟩ := newL_mem h1
            exact hf.own z.1 (.inr ⟨y, hrin y k1, hdp _ k2, k3, k4⟩)
          · exact hf.own z.1 (.inl ⟨h1, hrel.ownlt _ h1⟩)
         omega
       · have h3 := hout.wr z hz
         rw [hzz] at h3
         obtain ⟨y, hy, h4, h5⟩ := back _ h3
         exact hne y hy (by rw [h4, h5]; exact h1)
   · intro q hq
     rcases hq with ⟨h1, h2⟩ | h
     · rw [hπ q (by omega)]
       exact hf.own q (.inl ⟨h1, h2⟩)
     · rcases newx q h with h5 | ⟨rfl, h5⟩
       · rw [psn q (.inr h5)]
         exact hf.own q (.inr h5)
       · have := (nbx h5).1
         have := hf.size
         omega
end
end Go.Ty
