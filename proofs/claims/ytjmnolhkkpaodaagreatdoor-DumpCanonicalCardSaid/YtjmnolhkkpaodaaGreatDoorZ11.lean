/- A part of the proof: the reference is safe, both packages write and read alike. Several texts in one; printed by slim28.py out of the texts of wip. -/
import Derived.Test.YtjmnolhkkpaodaaGreatDoorZ10
set_option linter.all false
namespace Go.Ty
open Go Go.Sx
section
variable {E : Env} {G : Nat → Option Con} {p : Par} {κ κ' : Ctx} {I : In} {o : Oper} {e : Ef} {L : Int} {a : Act} {w w' : World} {S : SB'}
theorem asT_has {P : Program} {t : TypeId} {l : List AC} {v : AV} {vs : List Value} {T : Bool → TypeId → Option (List CT)} {v0 : Value} (h : asT P t l = some v) (hv : hasL T v0 κ l vs) {b off n : Nat} {arr : Array Value} {tt : TypeId} (hn : sizeOrOne P t = some n) (hl : vs.length = n)
  (hb : w.heap[b]? = some (.cells arr tt (0, 0))) (hat : ∀ j u, vs[j]? = some u → arr[off + j]? = some u) : ∃ u, (loadVar t ⟨b, off, none⟩).run P w = .ok u w ∧ v.has T v0 κ u ∧ ((∃ c, v = .one c) → arr[off]? = some u) := by
 have hcell : ∀ (j : Nat) (u : Value), vs[j]? = some u → w.cell? ((⟨b, off, none⟩ : Addr).add j) = some u := by
  intro j u hu
  rw [Addr.add_lit, cell_of_blk hb]
  exact hat j u hu
 unfold asT at h
 unfold sizeOrOne at hn
 split at h <;> try contradiction
 · rename_i hagg
   rw [hagg] at hn
   simp only at hn
   split at h <;> try contradiction
   rename_i m hm
   rw [hm] at hn
   simp only [Option.some.injEq] at hn
   subst hn
   split at h <;> try contradiction
   simp only [Option.some.injEq] at h
   subst h
   have h3 := run_loadCells_list (P := P) w ⟨b, off, none⟩ vs hcell
   rw [hl] at h3
   refine ⟨.agg vs.toArray, ?_, ⟨vs.toArray, rfl, by simpa using hv⟩, by simp⟩
   simp only [loadVar, Sem.run_bind, isAgg_run hagg, Result.andThen_ok, if_true, sizeOf_run hm, h3]
   rfl
 · rename_i hagg
   split at h <;> try contradiction
   rename_i c
   simp only [Option.some.injEq] at h
   subst h
   match vs, hv, hcell with
   | [u], hv, hcell =>
    refine ⟨u, ?_, hv.1, fun _ => by simpa using hat 0 u rfl⟩
    have := hcell 0 u rfl
    rw [Addr.add_lit, Nat.add_zero] at this
    simp only [loadVar, Sem.run_bind, isAgg_run hagg, Result.andThen_ok]
    simp [run_load, this]
   | [], hv, _ => exact hv.elim
   | _ :: _ :: _, hv, _ => exact hv.2.elim
def ctL (S : SB') (v0 : Value) (L : Int) : List CT → List Value → Prop
 | [], [] => True
 | c :: cs, v :: vs => c.has S v0 L v ∧ ctL S v0 L cs vs
 | _, _ => False
theorem ctL_of {v0 : Value} : ∀ {ts : List CT} {vs : List Value}, vs.length = ts.length → (∀ (o : Nat) (ct : CT), ts[o]? = some ct → ∃ v, vs[o]? = some v ∧ ct.has S v0 L v) → ctL S v0 L ts vs
 | [], [], _, _ => trivial
 | t :: ts, v :: vs, hl, h => by
  refine ⟨?_, ctL_of (by simpa using hl) fun o ct ho => ?_⟩
  · obtain ⟨v', h1, h2⟩ := h 0 t rfl
    simp at h1
    subst h1
    exact h2
  · obtain ⟨v', h1, h2⟩ := h (o + 1) ct (by simpa using ho)
    exact ⟨v', by simpa using h1, h2⟩
 | [], _ :: _, hl, _ => by simp at hl
 | _ :: _, [], hl, _ => by simp at hl
theorem frCells_sound {T : Bool → TypeId → Option (List CT)} {v0 : Value} {M A U : Nat} (hL : L ≤ (A : Int) * M + U) : ∀ {ts : List CT} {vs : List Value} (n : Nat), ctL S v0 L ts vs →
  ∃ xs : List Int, xs.length = (frCells A U ts n).2.length ∧ (∀ (j : Nat) (b : Bd), (frCells A U ts n).2[j]? = some b → ∃ x, xs[j]? = some x ∧ b.ok M x) ∧
   ∀ κ : Ctx, κ.ρ 0 = 0 → κ.S = S → (∀ (j : Nat) (x : Int), xs[j]? = some x → κ.ρ (n + j) = x) → hasL T v0 κ (frCells A U ts n).1 vs
 | [], [], n, _ => ⟨[], rfl, by simp [frCells], fun κ _ _ _ => trivial⟩
 | .fix :: ts, v :: vs, n, h => by
  obtain ⟨xs, h1, h2, h3⟩ := frCells_sound hL (ts := ts) (vs := vs) n h.2
  exact ⟨xs, h1, h2, fun κ hz hS hx => ⟨h.1, h3 κ hz hS hx⟩⟩
 | .int k lo hi :: ts, v :: vs, n, h => by
  obtain ⟨x, rfl, hx1, hx2⟩ := h.1
  cases hfull : (eqI lo (klo k) && eqI hi (khi k)) with
  | true =>
   obtain ⟨xs, h1, h2, h3⟩ := frCells_sound hL (ts := ts) (vs := vs) n h.2
   simp only [Bool.and_eq_true, eqI_iff] at hfull
   have e1 : frCells A U (.int k lo hi :: ts) n = (.anyI k :: (frCells A U ts n).1, (frCells A U ts n).2) := by
    simp only [frCells, hfull.1, hfull.2, eqI, decide_true, Bool.and_self]
   rw [e1]
   exact ⟨xs, h1, h2, fun κ hz hS hx => ⟨⟨x, rfl, by omega, by omega⟩, h3 κ hz hS hx⟩⟩
  | false =>
  obtain ⟨xs, h1, h2, h3⟩ := frCells_sound hL (ts := ts) (vs := vs) (n + 1) h.2
  have e1 : frCells A U (.int k lo hi :: ts) n = (.int k n 0 :: (frCells A U ts (n + 1)).1, ⟨lo, 0, hi⟩ :: (frCells A U ts (n + 1)).2) := by
   simp only [frCells, hfull]
  rw [e1]
  refine ⟨x :: xs, by simp [h1], ?_, fun κ hz hS hx => ⟨?_, h3 κ hz hS fun j y hy => ?_⟩⟩
  · intro j b hj
    cases j with
    | zero => simp at hj; subst hj; exact ⟨x, rfl, by simp only [Bd.ok]; omega⟩
    | succ j => simp at hj; obtain ⟨y, h4, h5⟩ := h2 j b hj; exact ⟨y, by simpa using h4, h5⟩
  · have := hx 0 x rfl
    simp only [Nat.add_zero] at this
    simp [AC.has, this]
  · have := hx (j + 1) y (by simpa using hy)
    rw [← this]; congr 1; omega
 | .bool :: ts, v :: vs, n, h => by
  obtain ⟨xs, h1, h2, h3⟩ := frCells_sound hL (ts := ts) (vs := vs) n h.2
  exact ⟨xs, h1, h2, fun κ hz hS hx => ⟨h.1, h3 κ hz hS hx⟩⟩
 | .slc t :: ts, v :: vs, n, h => by
  obtain ⟨x, hx1, hx2⟩ := h.1
  obtain ⟨xs, h1, h2, h3⟩ := frCells_sound hL (ts := ts) (vs := vs) (n + 1) h.2
  refine ⟨x :: xs, by simp [frCells, h1], ?_, fun κ hz hS hx => ⟨?_, h3 κ hz hS fun j y hy => ?_⟩⟩
  · intro j b hj
    cases j with
    | zero =>
     simp [frCells] at hj; subst hj
     refine ⟨x, rfl, ?_⟩
     obtain ⟨_, len, _, _, h5, _⟩ := hx2
     simp only [Bd.ok]
     omega
    | succ j => simp [frCells] at hj; obtain ⟨y, h4, h5⟩ := h2 j b hj; exact ⟨y, by simpa using h4, h5⟩
  · have := hx 0 x rfl
    simp only [Nat.add_zero] at this
    simp only [AC.has, this, hS, Int.add_zero]
    exact hx2
  · have := hx (j + 1) y (by simpa using hy)
    rw [← this]; congr 1; omega
 | .cnt :: ts, v :: vs, n, h => by
  obtain ⟨x, rfl, hx1, hx2⟩ := h.1
  obtain ⟨xs, h1, h2, h3⟩ := frCells_sound hL (ts := ts) (vs := vs) (n + 1) h.2
  refine ⟨x :: xs, by simp [frCells, h1], ?_, fun κ hz hS hx => ⟨?_, h3 κ hz hS fun j y hy => ?_⟩⟩
  · intro j b hj
    cases j with
    | zero => simp [frCells] at hj; subst hj; exact ⟨x, rfl, by simp only [Bd.ok]; omega⟩
    | succ j => simp [frCells] at hj; obtain ⟨y, h4, h5⟩ := h2 j b hj; exact ⟨y, by simpa using h4, h5⟩
  · have := hx 0 x rfl
    simp only [Nat.add_zero] at this
    simp [AC.has, this]
  · have := hx (j + 1) y (by simpa using hy)
    rw [← this]; congr 1; omega
 | [], _ :: _, _, h => h.elim
 | _ :: _, [], _, h => h.elim
theorem load_fresh {t : TypeId} {n : Nat} {ts : List CT} {v : AV} (hz : κ.ρ 0 = 0) (hpos : 0 < I.n) (hW : WT p κ.S L w) (hL2 : L ≤ (I.A : Int) * p.M + I.U) (hn : sizeOrOne E.P t = some n) {b base off : Nat} {arr : Array Value} {tt : TypeId} (hb : w.heap[b]? = some (.cells arr tt (0, 0)))
  (hty : ∀ (o : Nat) (ct : CT), ts[o]? = some ct → ∃ v, arr[base + o]? = some v ∧ ct.has κ.S p.v0 L v) (hle : off + n ≤ ts.length) (h : asT E.P t (frCells I.A I.U ((ts.drop off).take n) I.n).1 = some v) :
  ∃ u κ', (loadVar t ⟨b, base + off, none⟩).run E.P w = .ok u w ∧ OpOut p κ κ' I.n (.fresh v (frCells I.A I.U ((ts.drop off).take n) I.n).2) L w w u := by
 have hts : ((ts.drop off).take n).length = n := by rw [List.length_take, List.length_drop]; omega
 have hget : ∀ (j : Nat), j < n → ∃ ct v, ((ts.drop off).take n)[j]? = some ct ∧ arr[base + off + j]? = some v ∧ ct.has κ.S p.v0 L v := by
  intro j hj
  have h1 : ((ts.drop off).take n)[j]? = ts[off + j]? := by rw [List.getElem?_take, if_pos hj, List.getElem?_drop]
  obtain ⟨ct, hct⟩ : ∃ ct, ts[off + j]? = some ct := ⟨_, List.getElem?_eq_getElem (by omega)⟩
  obtain ⟨v, h2, h3⟩ := hty (off + j) ct hct
  exact ⟨ct, v, by rw [h1, hct], by rw [Nat.add_assoc]; exact h2, h3⟩
 let vs : List Value := (List.range n).map fun j => (arr[base + off + j]?).getD undef
 have hvl : vs.length = n := by simp [vs]
 have hvs : ∀ (j : Nat) (u : Value), vs[j]? = some u → arr[base + off + j]? = some u := by
  intro j u hu
  have hj : j < n := by rw [← hvl]; exact (List.getElem?_eq_some_iff.1 hu).1
  obtain ⟨ct, v, _, h2, _⟩ := hget j hj
  simp only [vs, List.getElem?_map, List.getElem?_range hj, Option.map_some, Option.some.injEq] at hu
  rw [h2] at hu ⊢
  simpa using hu
 have hct : ctL κ.S p.v0 L ((ts.drop off).take n) vs := by
  refine ctL_of (by rw [hvl, hts]) fun o ct ho => ?_
  have hj : o < n := by rw [← hts]; exact (List.getElem?_eq_some_iff.1 ho).1
  obtain ⟨ct', v, h1, h2, h3⟩ := hget o hj
  rw [ho] at h1
  simp only [Option.some.injEq] at h1
  subst h1
  refine ⟨v, ?_, h3⟩
  simp only [vs, List.getElem?_map, List.getElem?_range hj, Option.map_some, h2, Option.getD_some]
 obtain ⟨xs, h1, h2, h3⟩ := frCells_sound (T := p.T) hL2 I.n hct
 have h4 := h3 (κ.put I.n xs) (by rw [Ctx.put_zero hpos, hz]) rfl fun j x hx => Ctx.put_at hx
 obtain ⟨u, h5, h6, _⟩ := asT_has (w := w) h h4 hn hvl hb hvs
 exact ⟨u, _, h5, freshOut hW h1 h2 h6⟩
theorem piece_get0 {α : Type} (l r : List α) (off : Nat) (h : off + r.length ≤ l.length) (i : Nat) : (l.take off ++ r ++ l.drop (off + r.length))[i]? = if off ≤ i ∧ i < off + r.length then r[i - off]? else l[i]? := by
 by_cases h1 : i < off
 · rw [if_neg (by omega), List.append_assoc, List.getElem?_append_left (by rw [List.length_take]; omega), List.getElem?_take, if_pos h1]
 · by_cases h2 : i < off + r.length
   · rw [if_pos ⟨by omega, h2⟩, List.getElem?_append_left (by rw [List.length_append, List.length_take]; omega), List.getElem?_append_right (by rw [List.length_take]; omega)]
     congr 1
     rw [List.length_take]; omega
   · rw [if_neg (by omega), List.getElem?_append_right (by rw [List.length_append, List.length_take]; omega), List.getElem?_drop]
     congr 1
     rw [List.length_append, List.length_take]; omega
theorem mat_out {e : Ef} {q t off : Nat} {l : List AC} {u : Value} {arr : Array Value} {tt : TypeId} {n : Nat} (hn : n = I.n + e.new.length) (hout : OpOut p κ κ' I.n e L w w u) (hs : e.wr = [] ∧ e.kill = [] ∧ e.up = 0) (hz : κ.ρ 0 = 0) (hpos : 0 < I.n) (hmem : ∀ x : Int, hasL p.T p.v0 (κ'.put n [x]) l arr.toList)
  (hb : w.heap[κ'.π q]? = some (.cells arr tt (0, 0))) (hS : κ'.S (κ'.π q) = some ⟨false, t, 1, 1⟩) (ho : (∃ c, e.av = .one c) → arr[off]? = some u) : ∃ κ'', OpOut p κ κ'' I.n (matE e q t l off n) L w w u := by
 subst hn
 have ag : ∀ (x : Int), Agree κ (κ'.put (I.n + e.new.length) [x]) I.n (e.new.length + 1) := by
  intro x
  refine ⟨fun i hi => ?_, fun i hi => hout.agree.π i (by omega), hout.agree.S⟩
  rw [(Ctx.put_agree (κ := κ') (n := I.n + e.new.length) (xs := [x])).ρ i (by simp; omega), hout.agree.ρ i (by omega)]
 have nw : ∀ (x : Int) (b0 : Bd), b0.ok p.M x → ∀ (j : Nat) (b : Bd), (e.new ++ [b0])[j]? = some b → b.ok p.M ((κ'.put (I.n + e.new.length) [x]).ρ (I.n + j)) := by
  intro x b0 hb0 j b hj
  by_cases hlt : j < e.new.length
  · rw [List.getElem?_append_left hlt] at hj
    rw [(Ctx.put_agree (κ := κ') (n := I.n + e.new.length) (xs := [x])).ρ _ (by simp; omega)]
    exact hout.new j b hj
  · rw [List.getElem?_append_right (by omega)] at hj
    have hj0 : j - e.new.length = 0 := by
     have := (List.getElem?_eq_some_iff.1 hj).1
     simp at this
     omega
    rw [hj0] at hj
    simp at hj
    subst hj
    rw [show I.n + j = I.n + e.new.length + 0 by omega, Ctx.put_at (j := 0) (x := x) rfl]
    exact hb0
 have z0 : ∀ (x : Int), (κ'.put (I.n + e.new.length) [x]).ρ 0 = 0 := by
  intro x
  rw [(Ctx.put_agree (κ := κ') (n := I.n + e.new.length) (xs := [x])).ρ 0 (by omega), hout.agree.ρ 0 (by omega), hz]
 have at_ : ∀ (x : Int), (κ'.put (I.n + e.new.length) [x]).ρ (I.n + e.new.length) = x := fun x => by
  have := Ctx.put_at (κ := κ') (n := I.n + e.new.length) (xs := [x]) (j := 0) (x := x) rfl
  simpa using this
 have cells : ∀ (x : Int) (c : AC), arr[off]? = some u → c.has p.T p.v0 (κ'.put (I.n + e.new.length) [x]) u → hasL p.T p.v0 (κ'.put (I.n + e.new.length) [x]) (setsA l off [c]) arr.toList := by
  intro x c ha hc
  have hl := hasL_length (hmem x)
  have hlt : off < l.length := by rw [hl, Array.length_toList]; exact (Array.getElem?_eq_some_iff.1 ha).1
  refine hasL_of (by simp only [setsA, List.length_append, List.length_take, List.length_drop, List.length_cons, List.length_nil]; omega) fun i c' v h1 h2 => ?_
  simp only [setsA] at h1
  rw [piece_get0 l [c] off (by simp only [List.length_cons, List.length_nil]; omega)] at h1
  split at h1
  · rename_i hi
    have : i = off := by simp at hi; omega
    subst this
    simp at h1
    subst h1
    rw [Array.getElem?_toList, ha] at h2
    simp only [Option.some.injEq] at h2
    subst h2
    exact hc
  · obtain ⟨v', h3, h4⟩ := hasL_get (hmem x) h1
    rw [h2] at h3
    simp only [Option.some.injEq] at h3
    subst h3
    exact h4
 have hwt : WT p κ'.S (L + ((0 : Nat) : Int)) w := by
  have := hout.wt
  rwa [hs.2.2] at this
 unfold matE
 split
 · rename_i k h1
   have hv := hout.val
   rw [h1] at hv
   obtain ⟨x, rfl, hx1, hx2⟩ := hv
   have hc : (AC.int k (I.n + e.new.length) 0).has p.T p.v0 (κ'.put (I.n + e.new.length) [x]) (.int k x) := by simp [AC.has, at_ x]
   refine ⟨κ'.put (I.n + e.new.length) [x], ⟨by rw [List.length_append]; exact ag x, hc, nw x _ (by simp only [Bd.ok]; omega), by simp, hwt, rfl, rfl, rfl, Nat.le_refl _, hout.newS, fun _ _ _ _ => rfl, by simp, ?_, by simp⟩⟩
   intro y hy
   simp at hy
   subst hy
   exact ⟨hS, arr, tt, hb, cells x _ (ho ⟨_, h1⟩) hc⟩
 · rename_i h1
   have hv := hout.val
   rw [h1] at hv
   obtain ⟨x, rfl⟩ := hv
   have hc : (AC.bool (.cmp .eq (I.n + e.new.length) 0 0 1)).has p.T p.v0 (κ'.put (I.n + e.new.length) [if x then 1 else 0]) (.bool x) := by
    simp only [AC.has, AB.val, Cmp.on, at_, z0]
    cases x <;> rfl
   refine ⟨κ'.put (I.n + e.new.length) [if x then 1 else 0], ⟨by rw [List.length_append]; exact ag _, hc, nw _ _ (by cases x <;> simp [Bd.ok]), by simp, hwt, rfl, rfl, rfl, Nat.le_refl _, hout.newS, fun _ _ _ _ => rfl, by simp, ?_, by simp⟩⟩
   intro y hy
   simp at hy
   subst hy
   exact ⟨hS, arr, tt, hb, cells _ _ (ho ⟨_, h1⟩) hc⟩
 · exact ⟨κ', hout⟩
theorem op_load {t : TypeId} {x : Operand} (hop : o.op = .load t x) (h : aop0 E G I o = some e) (hI : InOk p κ I a w) (hW : WT p κ.S L w) (hT : E.T = p.T) (hL2 : L ≤ (I.A : Int) * p.M + I.U) : OpWp E p κ I o e L a w := by
 simp only [aop0, hop] at h
 split at h <;> try contradiction
 rename_i n hn
 split at h <;> try contradiction
 · rename_i pt q off hx
   obtain ⟨hx1, hx2⟩ := (evO_has hI hx).1
   obtain ⟨ts, arr, hts, hpos, hb, hsz, hty⟩ := (hW.blk _ _ hx2).at_
   split at h
   · rename_i t' l hM
     obtain ⟨hS', arr', tt, hb', hl'⟩ := hI.mem q t' l hM
     split at h <;> try contradiction
     rename_i hle
     simp only [Nat.ble_eq] at hle
     split at h <;> try contradiction
     rename_i v hv
     simp only [Option.some.injEq] at h
     subst h
     have hlen := (hasL_length hl').trans Array.length_toList
     obtain ⟨u, h5, h6, h7⟩ := asT_has (w := w) (off := off) hv (hasL_take n (hasL_drop off hl')) hn (by rw [List.length_take, List.length_drop, Array.length_toList]; omega) hb' (fun j u hu => by
      rw [List.getElem?_take] at hu
      split at hu
      · rw [List.getElem?_drop, Array.getElem?_toList] at hu; exact hu
      · contradiction)
     obtain ⟨κ'', hout⟩ := mat_out (q := q) (t := t') (l := l) (off := off) (n := I.n) (by simp [Ef.pure]) (pureOut (n := I.n) hW h6) (by simp [Ef.pure]) hI.zero hI.pos (fun x => hasL_agree (Ctx.put_agree (κ := κ) (n := I.n) (xs := [x])) hl' ((hI.offM q t' l hM).2 _)) hb' hS' h7
     refine .value (u := u) ?_ hout
     simp only [execOp, hop, hx1, Instr.loadAt, Instr.sureAddr, Sem.run_bind, Sem.run_pure, Result.andThen_ok, h5]
   · split at h <;> try contradiction
     rename_i ts' hts'
     rw [hT] at hts'
     simp only at hts
     rw [hts] at hts'
     simp only [Option.some.injEq] at hts'
     subst hts'
     split at h <;> try contradiction
     rename_i hle
     simp only [Nat.ble_eq] at hle
     split at h <;> try contradiction
     rename_i v hv
     simp only [Option.some.injEq] at h
     subst h
     have hsz' : arr.size = ts.length := by simpa using hsz
     have hct : ctL κ.S p.v0 L ts arr.toList := ctL_of (by rw [Array.length_toList, hsz']) fun o ct ho => by
      obtain ⟨u, k1, k2⟩ := hty 0 o ct (by simp) ho
      exact ⟨u, by simpa using k1, k2⟩
     obtain ⟨xs, k1, k2, k3⟩ := frCells_sound (T := p.T) hL2 I.n hct
     have hh := k3 (κ.put I.n xs) (by rw [Ctx.put_zero hI.pos, hI.zero]) rfl fun j x hx => Ctx.put_at hx
     have hlen := (hasL_length hh).trans Array.length_toList
     obtain ⟨u, h5, h6, h7⟩ := asT_has (w := w) (off := off) hv (hasL_take n (hasL_drop off hh)) hn (by rw [List.length_take, List.length_drop, Array.length_toList]; omega) hb (fun j u hu => by
      rw [List.getElem?_take] at hu
      split at hu
      · rw [List.getElem?_drop, Array.getElem?_toList] at hu; exact hu
      · contradiction)
     have ho := freshOut (v := v) hW k1 k2 h6
     have ho2 : OpOut p κ (κ.put I.n xs) I.n ⟨v, (frCells I.A I.U ts I.n).2, [], [], [(q, pt, (frCells I.A I.U ts I.n).1)], none, [], 0⟩ L w w u := by
      refine ⟨ho.agree, h6, ho.new, by simp, ho.wt, rfl, rfl, rfl, Nat.le_refl _, ho.newS, fun _ _ _ _ => rfl, by simp, ?_, by simp⟩
      intro y hy
      simp at hy
      subst hy
      exact ⟨hx2, arr, _, hb, hh⟩
     obtain ⟨κ'', hout⟩ := mat_out (q := q) (t := pt) (l := (frCells I.A I.U ts I.n).1) (off := off) (n := I.n + (frCells I.A I.U ts I.n).2.length) rfl ho2 (by simp) hI.zero hI.pos (fun x => by
      refine k3 ((κ.put I.n xs).put _ [x]) (by rw [Ctx.put_zero (by have := hI.pos; omega), Ctx.put_zero hI.pos, hI.zero]) rfl fun j y hy => ?_
      have hj := (List.getElem?_eq_some_iff.1 hy).1
      rw [(Ctx.put_agree (κ := κ.put I.n xs) (n := I.n + (frCells I.A I.U ts I.n).2.length) (xs := [x])).ρ _ (by omega)]
      exact Ctx.put_at hy) hb hx2 h7
     refine .value (u := u) ?_ hout
     simp only [execOp, hop, hx1, Instr.loadAt, Instr.sureAddr, Sem.run_bind, Sem.run_pure, Result.andThen_ok, h5]
 · rename_i et off hx
   obtain ⟨b, j, y, ts0, hx1, hts0, hy, hyr, hyt, hj⟩ := (evO_has hI hx).1
   obtain ⟨ts, arr, hts, hpos, hb, hsz, hty⟩ := (hW.blk _ _ hy).at_
   split at h <;> try contradiction
   rename_i ts' hts'
   rw [hT] at hts'
   rw [hts0] at hts'
   rw [hyr, hyt, hts0] at hts
   simp only [Option.some.injEq] at hts' hts
   subst hts' hts
   split at h <;> try contradiction
   rename_i hle
   simp only [Nat.ble_eq] at hle
   split at h <;> try contradiction
   rename_i v hv
   simp only [Option.some.injEq] at h
   subst h
   obtain ⟨u, κ', h1, h2⟩ := load_fresh (base := j * ts0.length) hI.zero hI.pos hW hL2 hn hb (fun o ct ho => hty j o ct hj ho) hle hv
   refine .value (u := u) ?_ h2
   simp only [execOp, hop, hx1, Instr.loadAt, Instr.sureAddr, Sem.run_bind, Sem.run_pure, Result.andThen_ok, h1]
end
end Go.Ty
namespace Go.Ty
open Go Go.Sx
section
variable {E : Env} {G : Nat → Option Con} {p : Par} {κ κ' : Ctx} {I : In} {o : Oper} {e : Ef} {L : Int} {a : Act} {w w' : World} {S : SB'}
theorem piece_get {α : Type} (l r : List α) (off : Nat) (h : off + r.length ≤ l.length) (i : Nat) : (l.take off ++ r ++ l.drop (off + r.length))[i]? = if off ≤ i ∧ i < off + r.length then r[i - off]? else l[i]? := by
 by_cases h1 : i < off
 · rw [if_neg (by omega), List.append_assoc, List.getElem?_append_left (by rw [List.length_take]; omega), List.getElem?_take, if_pos h1]
 · by_cases h2 : i < off + r.length
   · rw [if_pos ⟨by omega, h2⟩, List.getElem?_append_left (by rw [List.length_append, List.length_take]; omega), List.getElem?_append_right (by rw [List.length_take]; omega)]
     congr 1
     rw [List.length_take]; omega
   · rw [if_neg (by omega), List.getElem?_append_right (by rw [List.length_append, List.length_take]; omega), List.getElem?_drop]
     congr 1
     rw [List.length_append, List.length_take]; omega
theorem ext_self {b : Nat} {x : BK} (hx : S b = some x) : SB'.put S b ⟨x.row, x.t, x.k, x.cap⟩ = S := by
 funext c
 simp only [SB'.put]
 split
 · rename_i h; subst h; exact hx.symm
 · rfl
theorem store_typed {b base off : Nat} {x : BK} {ts : List CT} {l : List AC} {vs : List Value} {u : Nat} (hI : InOk p κ I a w) (hM : p.M ≤ E.mx) (hW : WT p κ.S L w) (hL : (I.A : Int) * p.M + I.K ≤ L) (hv0 : p.v0.oneCell' = true ∧ p.v0.cells = #[p.v0]) (hx : κ.S b = some x) (hts : p.T x.row x.t = some ts)
  {j : Nat} (hj : j < x.k) (hbase : base = j * ts.length) (hle : off + l.length ≤ ts.length) (hfit : fitL I.B E.mx I.A I.K l ((ts.drop off).take l.length) = some u) (hv : hasL p.T p.v0 κ l vs) (P : Program) :
  ∃ arr, w.heap[b]? = some (.cells arr x.t (0, 0)) ∧ (storeCells ⟨b, base + off, none⟩ vs 0).run P w = .ok () (w.setRow b (arr.toList.take (base + off) ++ vs ++ arr.toList.drop (base + off + vs.length)).toArray) ∧
   WT p κ.S (L + u) (w.setRow b (arr.toList.take (base + off) ++ vs ++ arr.toList.drop (base + off + vs.length)).toArray) ∧ base + off + vs.length ≤ arr.size := by
 obtain ⟨ts', arr, hts', hpos, hb, hsz, hty⟩ := (hW.blk _ _ hx).at_
 rw [hts] at hts'
 simp only [Option.some.injEq] at hts'
 subst hts'
 have hvl := hasL_length hv
 have hjc : j < x.cap := Nat.lt_of_lt_of_le hj (hW.blk _ _ hx).kc
 have hfits : base + off + vs.length ≤ arr.size := by
  rw [hsz, hbase]
  have : (j + 1) * ts.length ≤ x.cap * ts.length := Nat.mul_le_mul_right _ hjc
  rw [Nat.add_mul] at this
  omega
 have hst := run_storeCells_at P b (base + off) x.t vs 0 arr w hb (by simpa using hfits) (hasL_one hv0 hv)
 simp only [Nat.add_zero] at hst
 refine ⟨arr, hb, hst, ?_, hfits⟩
 obtain ⟨_, hfty⟩ := fitL_sound hI hM (L := L + u) hfit hv (by omega)
 have hW' := hW.mono (L' := L + u) (by omega)
 have := WT.set (k := x.k) (arr := (arr.toList.take (base + off) ++ vs ++ arr.toList.drop (base + off + vs.length)).toArray) hW' hx (Nat.le_refl _) (fun _ => rfl) (hW.blk _ _ hx).kc hts (by
   simp only [List.size_toArray, List.length_append, List.length_take, List.length_drop, Array.length_toList]; omega) (by
   intro i q ct hi hq
   have hql : q < ts.length := (List.getElem?_eq_some_iff.1 hq).1
   rw [List.getElem?_toArray, piece_get _ _ _ (by rw [Array.length_toList]; exact hfits)]
   by_cases hin : base + off ≤ i * ts.length + q ∧ i * ts.length + q < base + off + vs.length
   · rw [if_pos hin]
     have hij : i = j := by
      rw [hbase] at hin
      rcases Nat.lt_trichotomy i j with hlt | heq | hgt
      · have : (i + 1) * ts.length ≤ j * ts.length := Nat.mul_le_mul_right _ hlt
        rw [Nat.add_mul] at this; omega
      · exact heq
      · have : (j + 1) * ts.length ≤ i * ts.length := Nat.mul_le_mul_right _ hgt
        rw [Nat.add_mul] at this; omega
     subst hij
     have hct : ((ts.drop off).take l.length)[i * ts.length + q - (base + off)]? = some ct := by
      rw [List.getElem?_take, if_pos (by omega), List.getElem?_drop, ← hq]
      congr 1; omega
     exact hfty _ ct hct
   · rw [if_neg hin, Array.getElem?_toList]
     obtain ⟨v, h1, h2⟩ := hty i q ct hi hq
     exact ⟨v, h1, CT.has_mono (.refl _) (by omega) h2⟩) ⟨arr, hb⟩
 rwa [ext_self hx] at this
theorem storeVar_run {t : TypeId} {n : Nat} {ad : Addr} {v : Value} (hn : sizeT E.P t = some n) (hl : v.cells.size = n) {w' : World} (h : (storeCells ad v.cells.toList 0).run E.P w = .ok () w') : (storeVar t ad v).run E.P w = .ok () w' := by
 simp only [storeVar, Sem.run_bind, sizeOf_run hn, Result.andThen_ok]
 simp only [hl, ne_eq, not_true_eq_false, if_false, h]
theorem op_store {t : TypeId} {x y : Operand} (hop : o.op = .store t x y) (hv0 : p.v0.oneCell' = true ∧ p.v0.cells = #[p.v0]) (h : aop0 E G I o = some e) (hI : InOk p κ I a w) (hW : WT p κ.S L w) (hM : p.M ≤ E.mx) (hT : E.T = p.T) (hL : (I.A : Int) * p.M + I.K ≤ L) : OpWp E p κ I o e L a w := by
 simp only [aop0, hop] at h
 split at h <;> try contradiction
 rename_i v hv
 split at h <;> try contradiction
 rename_i l hl
 split at h <;> try contradiction
 rename_i n hn
 split at h <;> try contradiction
 rename_i hln
 have hln := Nat.eq_of_beq_eq_true hln
 obtain ⟨hv1, hv2⟩ := evO_has hI hv
 have hcl := AV.cells_has hv0 hv1 hl
 have hsz : (a.eval y).cells.size = n := by rw [← hln, hasL_length hcl, Array.length_toList]
 split at h <;> try contradiction
 · rename_i pt q off hx
   obtain ⟨hx1, hx2⟩ := (evO_has hI hx).1
   split at h <;> try contradiction
   rename_i ts hts
   split at h <;> try contradiction
   rename_i hle
   simp only [Nat.ble_eq] at hle
   split at h <;> try contradiction
   rename_i u hu
   simp only [Option.some.injEq] at h
   subst h
   rw [← hln] at hu
   obtain ⟨arr, hb, hst, hwt, hfit⟩ := store_typed (E := E) (base := 0) (off := off) hI hM hW hL hv0 hx2 (by rw [← hT]; exact hts) (j := 0) (by simp) (by simp) (by omega) hu hcl E.P
   rw [Nat.zero_add] at hst hwt hfit
   refine .skip (κ' := κ) (w' := w.setRow (κ.π q) (arr.toList.take off ++ (a.eval y).cells.toList ++ arr.toList.drop (off + (a.eval y).cells.toList.length)).toArray) ?_ ?_
   · simp only [execOp, hop, hx1, Instr.storeAt, Instr.sureAddr, Sem.run_bind, Sem.run_pure, Result.andThen_ok, storeVar_run hn hsz hst]
   refine ⟨.refl _ _, trivial, by simp, by simp, hwt, rfl, rfl, rfl, by simp, fun b z hz => .inl ⟨z, hz⟩, ?_, ?_, ?_, by simp⟩
   · intro b _ _ hw
     exact setRow_other w _ b _ (fun hc => hw (q, pt) (by simp) hc.symm)
   · intro z hz
     simp at hz
     subst hz
     exact hx2
   · intro z hz
     simp only at hz
     split at hz
     · rename_i t' c hMq
       split at hz
       · rename_i hcl2
         simp at hz
         subst hz
         obtain ⟨hs1, arr', tt, hb', hl'⟩ := hI.mem q t' c hMq
         rw [hb] at hb'
         simp only [Option.some.injEq, Obj.cells.injEq, and_true] at hb'
         obtain ⟨rfl, rfl⟩ := hb'
         refine ⟨hs1, _, _, setRow_heap w _ arr _ pt (0, 0) hb, ?_⟩
         simp only [setsA, hasL_length hcl]
         exact hasL_append (hasL_append (hasL_take _ hl') hcl) (hasL_drop _ hl')
       · simp at hz
     · split at hz
       · rename_i hfull
         simp only [Bool.and_eq_true, Nat.beq_eq] at hfull
         simp at hz
         subst hz
         refine ⟨hx2, _, _, setRow_heap w _ arr _ pt (0, 0) hb, ?_⟩
         obtain ⟨ts', arr', hts', _, hb', hsz', _⟩ := (hW.blk _ _ hx2).at_
         rw [← hT] at hts'
         simp only at hts'
         rw [hts] at hts'
         simp only [Option.some.injEq] at hts'
         subst hts'
         rw [hb] at hb'
         simp only [Option.some.injEq, Obj.cells.injEq, and_true] at hb'
         subst hb'
         have hcn : (a.eval y).cells.toList.length = n := by rw [Array.length_toList, hsz]
         have e1 : (arr.toList.take off ++ (a.eval y).cells.toList ++ arr.toList.drop (off + (a.eval y).cells.toList.length)) = (a.eval y).cells.toList := by
          have hsz2 : arr.size = ts.length := by simpa using hsz'
          have hd : arr.toList.drop (off + (a.eval y).cells.toList.length) = [] := List.drop_eq_nil_of_le (by rw [Array.length_toList, hcn, hsz2]; omega)
          rw [hd, hfull.1]
          simp
         simp only [e1]
         exact hcl
       · simp at hz
 · rename_i et off hx
   obtain ⟨b, j, z, ts0, hx1, hts0, hz, hzr, hzt, hj⟩ := (evO_has hI hx).1
   split at h <;> try contradiction
   rename_i ts hts
   rw [hT, hts0] at hts
   simp only [Option.some.injEq] at hts
   subst hts
   split at h <;> try contradiction
   rename_i hle
   simp only [Nat.ble_eq] at hle
   split at h <;> try contradiction
   rename_i u hu
   simp only [Option.some.injEq] at h
   subst h
   rw [← hln] at hu
   obtain ⟨arr, hb, hst, hwt, hfit⟩ := store_typed (E := E) (off := off) hI hM hW hL hv0 hz (by rw [hzr, hzt]; exact hts0) hj rfl (by omega) hu hcl E.P
   refine .skip (κ' := κ) (w' := w.setRow b (arr.toList.take (j * ts0.length + off) ++ (a.eval y).cells.toList ++ arr.toList.drop (j * ts0.length + off + (a.eval y).cells.toList.length)).toArray) ?_ ?_
   · simp only [execOp, hop, hx1, Instr.storeAt, Instr.sureAddr, Sem.run_bind, Sem.run_pure, Result.andThen_ok, storeVar_run hn hsz hst]
   refine ⟨.refl _ _, trivial, by simp, by simp, hwt, rfl, rfl, rfl, by simp, fun b z hz => .inl ⟨z, hz⟩, ?_, by simp, by simp, by simp⟩
   intro c _ hk _
   refine setRow_other w _ c _ (fun hc => ?_)
   subst hc
   exact hk z hz (by simp [hzr, hzt])
theorem op_buildSlice {t : TypeId} {len : Nat} {ps : Array (Nat × Operand)} (hop : o.op = .buildSlice t len ps) (hv0 : p.v0.oneCell' = true ∧ p.v0.cells = #[p.v0]) (h : aop0 E G I o = some e) (hI : InOk p κ I a w) (hW : WT p κ.S L w) (hM : p.M ≤ E.mx) (hT : E.T = p.T) (hL : (I.A : Int) * p.M + I.K ≤ L) : OpWp E p κ I o e L a w := by
 simp only [aop0, hop] at h
 split at h <;> try contradiction
 rename_i el ht
 split at h <;> try contradiction
 rename_i n hn
 split at h <;> try contradiction
 rename_i hb
 simp only [Bool.and_eq_true, Nat.ble_eq] at hb
 have hb2 : 0 < len * n := by
  have h0 := hb.2
  simp only [Nat.blt, Nat.ble_eq] at h0
  exact h0
 split at h <;> try contradiction
 rename_i z hz
 split at h <;> try contradiction
 rename_i hzl
 have hzl' : z.length = n := Nat.eq_of_beq_eq_true hzl
 have hn0 : 0 < n := by
  rcases Nat.eq_zero_or_pos n with rfl | h0
  · simp at hb2
  · exact h0
 split at h <;> try contradiction
 rename_i l hl
 split at h <;> try contradiction
 rename_i c hc
 split at h <;> try contradiction
 rename_i ts hts
 split at h <;> try contradiction
 rename_i htn
 have htn := Nat.eq_of_beq_eq_true htn
 split at h <;> try contradiction
 rename_i u hu
 simp only [Option.some.injEq] at h
 subst h
 obtain ⟨i, zv, hi, hzz, hzc, _⟩ := zeroA_info (T := p.T) (v0 := p.v0) hz hI.zero
 have hparts := (evP_has hI hl).1
 have hzs : zv.cells.size = n := by rw [← Array.length_toList, ← hasL_length hzc, hzl']
 have hrow : hasL p.T p.v0 κ ((List.range (len * n)).map fun i => (z[i % n]?).getD .nils) ((Array.range (len * n)).map (fun i => zv.cells[i % zv.cells.size]!)).toList := by
  refine hasL_of (by simp) fun i c v h1 h2 => ?_
  have hil : i < len * n := by
   have := (List.getElem?_eq_some_iff.1 h1).1
   simpa using this
  have him : i % n < n := Nat.mod_lt _ hn0
  simp only [List.getElem?_map, List.getElem?_range hil, Option.map_some, Option.some.injEq] at h1
  rw [Array.getElem?_toList, Array.getElem?_map, Array.getElem?_range, if_pos hil] at h2
  simp only [Option.map_some, Option.some.injEq, hzs] at h2
  obtain ⟨v', h3, h4⟩ := hasL_get hzc (List.getElem?_eq_getElem (show i % n < z.length by omega))
  rw [List.getElem?_eq_getElem (show i % n < z.length by omega)] at h1
  simp only [Option.getD_some] at h1
  subst h1
  rw [Array.getElem?_toList] at h3
  rw [getElem!_def, h3] at h2
  subst h2
  exact h4
 obtain ⟨rs, h1, h2⟩ := fillA_fill hv0 hc hparts hrow
 obtain ⟨hcl, hcty⟩ := fitR_sound hI hM (L := L + u) hu h2 (by omega)
 have hrl := (hasL_length h2).trans Array.length_toList
 let κ' : Ctx := ⟨κ.ρ, κ.π, SB'.put κ.S w.heap.size ⟨true, el, len, len⟩⟩
 have hext : SExt κ.S κ'.S := ext_new hW _
 refine .value (u := .slice (some ⟨w.heap.size, 0, none⟩) len len) (w' := w.alloc (.cells rs el)) (κ' := κ') ?_ ?_
 · have e2 : (ps.map fun (x : Nat × Operand) => match x with | (i, x) => (i, a.eval x)) = ps.map fun x => (x.1, a.eval x.2) := rfl
   have hgt : ¬ len * n > 2 ^ 24 := by omega
   have hne : ¬ len * n = 0 := by omega
   have hmap : (ps.map fun x => (x.1, a.eval x.2)).toList = ps.toList.map fun x => (x.1, a.eval x.2) := Array.toList_map
   rw [← hmap] at h1
   simp only [execOp, hop, Instr.buildSlice, newRow, Sem.run_bind, run_underlying ht, Result.andThen_ok, sizeOf_run hn, hgt, if_false, hne, zeroA_run hi hzz, Sem.run_pure, Sem.run_ite]
   rw [e2, h1]
   simp only [Sem.run_bind, run_newObj, Result.andThen_ok, Sem.run_pure]
   rfl
 · refine ⟨⟨fun _ _ => rfl, fun _ _ => rfl, hext⟩, ⟨_, len, len, rfl, ?_, .inr ⟨w.heap.size, len, rfl, by simp [κ', SB'.put], Nat.le_refl _⟩⟩, by simp, by simp, ?_, rfl, rfl, rfl, by simp, ?_, fun b hb _ _ => Sx.heap_alloc_old hb, by simp, by simp, by simp⟩
   · show (len : Int) = κ.ρ 0 + len
     rw [hI.zero]; omega
   · refine (hW.mono (L' := L + u) (by omega)).new (by rw [← hT]; exact hts) (by omega) (Nat.le_refl _) ?_ (by rw [← hrl, hcl]) ?_ rfl
     · have : len ≤ len * n := Nat.le_mul_of_pos_right _ hn0
       simp only [maxLen]; omega
     · intro j q ct hj hq
       obtain ⟨v, h3, h4⟩ := hcty j q ct hj hq
       rw [Array.getElem?_toList] at h3
       exact ⟨v, h3, h4⟩
   · intro b y hy
     simp only [κ', SB'.put] at hy
     split at hy
     · rename_i hbb; right; omega
     · exact .inl ⟨y, hy⟩
theorem inA_sound (hI : InOk p κ I a w) {mx : Nat} (hM : p.M ≤ mx) {i j : Nat} {d e1 : Int} (h : inA I mx j e1 i d = true) : 0 ≤ κ.ρ j + e1 ∧ κ.ρ j + e1 < κ.ρ i + d := by
 unfold inA at h
 split at h <;> try contradiction
 rename_i l hl
 have h0 := lob_le hI hl
 split at h <;> try contradiction
 rename_i hl0
 rw [leI_iff] at hl0
 refine ⟨by omega, ?_⟩
 simp only [Bool.or_eq_true, Bool.and_eq_true, Nat.beq_eq, ltI_iff, leI_iff] at h
 rcases h with (h | ⟨rfl, h⟩) | ⟨h1, h2⟩
 · split at h <;> try contradiction
   rename_i u hu
   split at h <;> try contradiction
   rename_i n hn
   have h1 := upb_le hI hM hu
   have h2 := lob_le hI hn
   have h3 := ltI_iff.1 h
   omega
 · omega
 · have := hI.lts j i h1
   omega
theorem op_indexAddr {t : TypeId} {x y : Operand} (hop : o.op = .indexAddr t x y) (h : aop0 E G I o = some e) (hI : InOk p κ I a w) (hW : WT p κ.S L w) (hM : p.M ≤ E.mx) (hT : E.T = p.T) : OpWp E p κ I o e L a w := by
 simp only [aop0, hop] at h
 split at h <;> try contradiction
 rename_i el i d hx
 obtain ⟨ad, len, c, hx1, hx2, hx3⟩ := (evO_has hI hx).1
 split at h <;> try contradiction
 rename_i k j e1 hy
 have hy' := (evO_has hI hy).1
 simp only [AV.has, AC.has] at hy'
 split at h <;> try contradiction
 rename_i el' ht
 split at h <;> try contradiction
 rename_i hc
 simp only [Bool.and_eq_true, Nat.beq_eq] at hc
 obtain ⟨rfl, hin⟩ := hc
 split at h <;> try contradiction
 rename_i n ts hn hts
 split at h <;> try contradiction
 rename_i htn
 have htn := Nat.eq_of_beq_eq_true htn
 simp only [Option.some.injEq] at h
 subst h
 obtain ⟨h0, h1⟩ := inA_sound hI hM hin
 rcases hx3 with ⟨_, hlen, _⟩ | ⟨b, k0, rfl, hb, hk⟩
 · omega
 have hr : 0 ≤ κ.ρ j + e1 ∧ κ.ρ j + e1 < (len : Int) := ⟨h0, by omega⟩
 refine .value (u := .pointer (some ⟨b, (κ.ρ j + e1).toNat * n, none⟩)) ?_ (pureOut hW ⟨b, (κ.ρ j + e1).toNat, _, ts, by rw [htn]; rfl, by rw [← hT]; exact hts, hb, rfl, rfl, by simp only; omega⟩)
 simp only [execOp, hop, hx1, hy', Instr.indexAt, asIntOf, Sem.run_bind, Sem.run_pure, Result.andThen_ok, run_underlying ht, hr, and_self, if_true, sizeOf_run hn, Addr.add_lit, Nat.zero_add]
end
end Go.Ty
