/- A part of the proof: the reference is safe, both packages write and read alike. Several texts in one; printed by slim28.py out of the texts of wip. -/
import Derived.Test.YtjmnolhkkpaodaaGreatDoorZ11
set_option linter.all false
namespace Go.Ty
open Go Go.Sx
section
variable {E : Env} {G : Nat → Option Con} {p : Par} {κ κ' : Ctx} {I : In} {o : Oper} {e : Ef} {L : Int} {a : Act} {w w' : World} {S : SB'}
def TL (S : SB') (v0 : Value) (L : Int) (ts : List CT) (m : Nat) (l : List Value) : Prop :=
 l.length = m * ts.length ∧ ∀ j o ct, j < m → ts[o]? = some ct → ∃ v, l[j * ts.length + o]? = some v ∧ ct.has S v0 L v
theorem CT.has_one {v0 : Value} (hv0 : v0.oneCell' = true ∧ v0.cells = #[v0]) {c : CT} {v : Value} (h : c.has S v0 L v) : v.oneCell' = true := by
 cases c with
 | int k lo hi => obtain ⟨_, rfl, _⟩ := h; rfl
 | bool => obtain ⟨_, rfl⟩ := h; rfl
 | slc t => obtain ⟨_, _, _, _, _, rfl, _⟩ := h; rfl
 | cnt => obtain ⟨_, rfl, _⟩ := h; rfl
 | fix => simp only [CT.has] at h; subst h; exact hv0.1
theorem TL.one {v0 : Value} (hv0 : v0.oneCell' = true ∧ v0.cells = #[v0]) {ts : List CT} {m : Nat} {l : List Value} (h : TL S v0 L ts m l) (hpos : 0 < ts.length) : ∀ v ∈ l, v.oneCell' = true := by
 intro v hv
 obtain ⟨i, hi⟩ := List.mem_iff_getElem?.1 hv
 have hil : i < m * ts.length := by rw [← h.1]; exact (List.getElem?_eq_some_iff.1 hi).1
 have hj : i / ts.length < m := by rw [Nat.div_lt_iff_lt_mul hpos]; exact hil
 have ho : i % ts.length < ts.length := Nat.mod_lt _ hpos
 obtain ⟨u, h1, h2⟩ := h.2 _ _ _ hj (List.getElem?_eq_getElem ho)
 rw [Nat.mul_comm, Nat.div_add_mod, hi] at h1
 simp only [Option.some.injEq] at h1
 subst h1
 exact CT.has_one hv0 h2
theorem TL.append {v0 : Value} {ts : List CT} {m n : Nat} {l r : List Value} (h : TL S v0 L ts m l) (h' : TL S v0 L ts n r) : TL S v0 L ts (m + n) (l ++ r) := by
 refine ⟨by rw [List.length_append, h.1, h'.1, Nat.add_mul], fun j o ct hj ho => ?_⟩
 have hol : o < ts.length := (List.getElem?_eq_some_iff.1 ho).1
 by_cases hjm : j < m
 · obtain ⟨v, h1, h2⟩ := h.2 j o ct hjm ho
   refine ⟨v, ?_, h2⟩
   rw [List.getElem?_append_left (List.getElem?_eq_some_iff.1 h1).1]
   exact h1
 · obtain ⟨v, h1, h2⟩ := h'.2 (j - m) o ct (by omega) ho
   refine ⟨v, ?_, h2⟩
   have e1 : j * ts.length = m * ts.length + (j - m) * ts.length := by rw [← Nat.add_mul]; congr 1; omega
   rw [List.getElem?_append_right (by rw [h.1]; omega), h.1, ← h1]
   congr 1
   omega
theorem row_list (hW : WT p S L w) {b : Nat} {t : TypeId} {k c m : Nat} {ts : List CT} (hx : S b = some ⟨true, t, k, c⟩) (hts : p.T true t = some ts) (hm : m ≤ k) :
  ∃ arr, w.heap[b]? = some (.cells arr t (0, 0)) ∧ arr.size = c * ts.length ∧ k ≤ c ∧ c ≤ maxLen ∧ TL S p.v0 L ts m (arr.toList.take (m * ts.length)) ∧
   (∀ j o ct, j < k → ts[o]? = some ct → ∃ v, arr[j * ts.length + o]? = some v ∧ ct.has S p.v0 L v) ∧
   (∀ j v, (arr.toList.take (m * ts.length))[j]? = some v → w.cell? ((⟨b, 0, none⟩ : Addr).add j) = some v) := by
 obtain ⟨ts', arr, hts', hpos, hb, hsz, hty⟩ := (hW.blk _ _ hx).at_
 rw [hts] at hts'
 simp only [Option.some.injEq] at hts'
 subst hts'
 have hkc := (hW.blk _ _ hx).kc
 simp only at hkc hsz
 have hle : m * ts.length ≤ arr.size := by rw [hsz]; exact Nat.mul_le_mul_right _ (Nat.le_trans hm hkc)
 refine ⟨arr, hb, hsz, hkc, (hW.blk _ _ hx).cap, ⟨by have hal : arr.toList.length = arr.size := Array.length_toList; rw [List.length_take]; omega, fun j o ct hj ho => ?_⟩, hty, fun j v hv => ?_⟩
 · obtain ⟨v, h1, h2⟩ := hty j o ct (by simp only; omega) ho
   refine ⟨v, ?_, h2⟩
   have hol : o < ts.length := (List.getElem?_eq_some_iff.1 ho).1
   have : (j + 1) * ts.length ≤ m * ts.length := Nat.mul_le_mul_right _ hj
   rw [Nat.add_mul] at this
   rw [List.getElem?_take, if_pos (by omega), Array.getElem?_toList]
   exact h1
 · rw [List.getElem?_take] at hv
   split at hv
   · rw [Addr.add_lit, cell_of_blk hb, Nat.zero_add, ← Array.getElem?_toList]; exact hv
   · contradiction
structure ApOut (p : Par) (S S' : SB') (el : TypeId) (L : Int) (w w' : World) (v : Value) (n : Int) : Prop where
 ext : SExt S S'
 sl : Sl S' el v n
 wt : WT p S' L w'
 os : w'.os = w.os
 tape : w'.tape = w.tape
 output : w'.output = w.output
 size : w.heap.size ≤ w'.heap.size
 newS : ∀ b x, S' b = some x → (∃ y, S b = some y) ∨ w.heap.size ≤ b
 same : ∀ b, b < w.heap.size → (∀ x, S b = some x → ¬ (x.row = true ∧ x.t = el)) → w'.heap[b]? = w.heap[b]?
theorem append_new (hW : WT p S L w) {el : TypeId} {ts : List CT} (hts : p.T true el = some ts) (hpos : 0 < ts.length) {n cap : Nat} {l : List Value} {arr : Array Value} (hl : TL S p.v0 L ts n l) (hn : n ≤ cap) (hcap : cap ≤ maxLen) (hsz : arr.size = cap * ts.length) (hpre : ∀ i, i < n * ts.length → arr[i]? = l[i]?) :
  ∃ S', ApOut p S S' el L w (w.drew.alloc (.cells arr el)) (.slice (some ⟨w.heap.size, 0, none⟩) n cap) n := by
 refine ⟨SB'.put S w.heap.size ⟨true, el, n, cap⟩, ext_new hW _, ⟨_, n, cap, rfl, rfl, .inr ⟨w.heap.size, n, rfl, by simp [SB'.put], Nat.le_refl _⟩⟩, ?_, rfl, rfl, rfl, by simp, ?_, fun b hb _ => Sx.heap_alloc_old (w := w.drew) hb⟩
 · refine hW.new hts hpos hn hcap hsz (fun j o ct hj ho => ?_) rfl
   obtain ⟨v, h1, h2⟩ := hl.2 j o ct hj ho
   refine ⟨v, ?_, h2⟩
   rw [hpre _ (by rw [← hl.1]; exact (List.getElem?_eq_some_iff.1 h1).1), h1]
 · intro b x hx
   simp only [SB'.put] at hx
   split at hx
   · rename_i hb; right; omega
   · exact .inl ⟨x, hx⟩
theorem append_run (hW : WT p S L w) (hv0 : p.v0.oneCell' = true ∧ p.v0.cells = #[p.v0]) {P : Program} {t ty el : TypeId} {i : TypeInfo} {z : Value} {ts : List CT} (ht : P.underlying t = some (.slice el)) (hi : P.info? el = some i) (hz : i.zero = some z) (hzs : z.cells.size = i.size) (hti : ts.length = i.size) (hpos : 0 < i.size)
  (hts : p.T true el = some ts) {vx vy : Value} {nx ny : Int} (hx : Sl S el vx nx) (hy : Sl S el vy ny) (hby : (nx + ny) * i.bytes ≤ 140737488355328) (hml : nx + ny ≤ maxLen) :
  ∃ v' w' S', (Builtin.append_ #[t, t] ty #[vx, vy]).run P w = .ok v' w' ∧ ApOut p S S' el L w w' v' (nx + ny) := by
 obtain ⟨ax, sLen, sCap, rfl, rfl, hx⟩ := hx
 obtain ⟨ay, m, c, rfl, rfl, hy⟩ := hy
 have hbyn : (sLen + m) * i.bytes ≤ 140737488355328 := by rw [← Int.natCast_add, ← Int.natCast_mul] at hby; omega
 have hmln : sLen + m ≤ maxLen := by omega
 have h63n : sLen + m ≤ 9223372036854775807 := by simp only [maxLen] at hmln; omega
 have same : ∀ (v : Value), Sl S el v (sLen : Int) → m = 0 → ApOut p S S el L w w v ((sLen : Int) + (m : Int)) := by
  intro v hv hm
  refine ⟨.refl _, ?_, hW, rfl, rfl, rfl, Nat.le_refl _, fun b x h => .inl ⟨x, h⟩, fun _ _ _ => rfl⟩
  rw [hm]
  simpa using hv
 rcases hx with ⟨rfl, rfl, rfl⟩ | ⟨g, k, rfl, hg, hk⟩
 · -- onto nothing
   by_cases hm : m = 0
   · subst hm
     refine ⟨.slice none 0 0, w, S, ?_, same _ ⟨none, 0, 0, rfl, rfl, .inl ⟨rfl, rfl, rfl⟩⟩ rfl⟩
     cases ay <;> simp [Builtin.append_, run_underlying ht, sizeOf, typeInfo, hi, Builtin.lenOf, Builtin.firstCells, loadCells, loadCellsFrom]
   · rcases hy with ⟨_, h0, _⟩ | ⟨b, k, rfl, hb, hk⟩
     · exact absurd h0 hm
     obtain ⟨arr, h1, h2, h3, h4, h5, h6, h7⟩ := row_list hW hb hts hk
     rw [hti] at h5 h7
     have h5l := h5.1
     rw [hti] at h5l
     have hr := run_append_nil (P := P) w t ty el i z ht hi hz ⟨b, 0, none⟩ m c _ h5l h7 (by omega) (by omega) (by have hb := hbyn; simp only [Nat.zero_add] at hb; omega)
     obtain ⟨S', hS'⟩ := append_new (n := m) (cap := grownCap w m 0 el) (arr := (arr.toList.take (m * i.size)).toArray ++ Builtin.zeroCells z.cells (grownCap w m 0 el - m)) hW hts (by omega) h5 (grownCap_ge w m 0 el) (grownCap_le_maxLen w m 0 el (by omega)) (by
      have hge := grownCap_ge w m 0 el
      simp only [Array.size_append, List.size_toArray, size_zeroCells, hzs, h5l, ← Nat.add_mul, hti]
      congr 1
      omega) (fun q hq => by
      rw [hti] at hq
      rw [Array.getElem?_append_left (by rw [List.size_toArray, h5l]; exact hq), List.getElem?_toArray])
     refine ⟨_, _, S', hr, ?_⟩
     simpa using hS'
 · by_cases hm : m = 0
   · subst hm
     have hkc : sLen ≤ sCap := by have := (hW.blk _ _ hg).kc; simp only at this; omega
     refine ⟨.slice (some ⟨g, 0, none⟩) sLen sCap, w, S, ?_, same _ ⟨_, sLen, sCap, rfl, rfl, .inr ⟨g, k, rfl, hg, hk⟩⟩ rfl⟩
     cases ay <;> simp [Builtin.append_, run_underlying ht, sizeOf, typeInfo, hi, Builtin.lenOf, Builtin.firstCells, loadCells, loadCellsFrom, hkc, storeCells]
   · rcases hy with ⟨_, h0, _⟩ | ⟨b, k2, rfl, hb, hk2⟩
     · exact absurd h0 hm
     obtain ⟨arr2, y1, y2, y3, y4, y5, y6, y7⟩ := row_list hW hb hts hk2
     obtain ⟨arr, x1, x2, x3, x4, x5, x6, x7⟩ := row_list hW hg hts hk
     have y5l := y5.1
     have x5l := x5.1
     rw [hti] at y5l y7 x7 x5l x2
     by_cases hroom : sLen + m ≤ sCap
     · have hfit : sLen * i.size + (arr2.toList.take (m * ts.length)).length ≤ arr.size := by rw [hti, y5l, x2, ← Nat.add_mul]; exact Nat.mul_le_mul_right _ hroom
       have hr := run_append_room (P := P) w t ty el i ht hi g sLen sCap arr x1 ⟨b, 0, none⟩ m c (arr2.toList.take (m * ts.length)) (by rw [hti]; exact y5l) (by rw [hti]; exact y7) (y5.one hv0 (by omega)) hroom hfit
       have hwt := WT.set (k := max k (sLen + m)) (arr := (arr.toList.take (sLen * i.size) ++ arr2.toList.take (m * ts.length) ++ arr.toList.drop (sLen * i.size + (arr2.toList.take (m * ts.length)).length)).toArray) hW hg (by simp only; omega) (fun h => by simp at h) (by simp only; omega) hts (by
        simp only [List.size_toArray, List.length_append, List.length_take, List.length_drop, Array.length_toList, hti] at hfit ⊢
        rw [x2] at hfit ⊢
        omega) (fun j q ct hj hq => by
        have hql : q < ts.length := (List.getElem?_eq_some_iff.1 hq).1
        rw [List.getElem?_toArray, piece_get _ _ _ (by rw [Array.length_toList]; exact hfit)]
        by_cases hin : sLen * i.size ≤ j * ts.length + q ∧ j * ts.length + q < sLen * i.size + (arr2.toList.take (m * ts.length)).length
        · rw [if_pos hin]
          rw [hti, y5l] at hin
          have hj1 : sLen ≤ j := by
           rcases Nat.lt_or_ge j sLen with hlt | hge
           · have : (j + 1) * i.size ≤ sLen * i.size := Nat.mul_le_mul_right _ hlt
             rw [Nat.add_mul] at this; omega
           · exact hge
          have hj2 : j < sLen + m := by
           rcases Nat.lt_or_ge j (sLen + m) with hlt | hge
           · exact hlt
           · have : (sLen + m) * i.size ≤ j * i.size := Nat.mul_le_mul_right _ hge
             rw [Nat.add_mul] at this; omega
          obtain ⟨v, h1, h2⟩ := y5.2 (j - sLen) q ct (by omega) hq
          refine ⟨v, ?_, h2⟩
          rw [← h1]
          congr 1
          have e1 : j * ts.length = sLen * ts.length + (j - sLen) * ts.length := by rw [← Nat.add_mul]; congr 1; omega
          rw [e1, hti]
          omega
        · rw [if_neg hin, Array.getElem?_toList]
          refine x6 j q ct ?_ hq
          rw [hti, y5l] at hin
          simp only [hti] at hql
          rcases Nat.lt_or_ge j k with hlt | hge
          · exact hlt
          · exfalso
            apply hin
            have h1 : sLen * i.size ≤ j * i.size := Nat.mul_le_mul_right _ (by omega)
            have h2 : (j + 1) * i.size ≤ (sLen + m) * i.size := Nat.mul_le_mul_right _ (by omega)
            rw [Nat.add_mul, Nat.add_mul] at h2
            omega) ⟨arr, x1⟩
       refine ⟨_, _, SB'.put S g ⟨true, el, max k (sLen + m), sCap⟩, hr, ⟨ext_set hg (by simp only; omega) (fun h => by simp at h), ⟨_, sLen + m, sCap, rfl, by simp, .inr ⟨g, max k (sLen + m), rfl, by simp [SB'.put], by omega⟩⟩, hwt, rfl, rfl, rfl, by simp, ?_, ?_⟩⟩
       · intro b' x hx
         simp only [SB'.put] at hx
         split at hx
         · rename_i hbb; subst hbb; exact .inl ⟨_, hg⟩
         · exact .inl ⟨x, hx⟩
       · intro b' _ hne
         exact setRow_other w g b' _ (fun hc => by subst hc; exact hne _ hg ⟨rfl, rfl⟩)
     · have hr := run_append_grow (P := P) w t ty el i z ht hi hz ⟨g, 0, none⟩ sLen sCap (arr.toList.take (sLen * ts.length)) (by rw [hti]; exact x5l) (by rw [hti]; exact x7) ⟨b, 0, none⟩ m c (arr2.toList.take (m * ts.length)) (by rw [hti]; exact y5l) (by rw [hti]; exact y7) (by omega) (by omega) (growslice_fits (by omega) hbyn)
       have htl := x5.append y5
       have htll := htl.1
       obtain ⟨S', hS'⟩ := append_new (n := sLen + m) (cap := grownCap w (sLen + m) sCap el) (arr := (arr.toList.take (sLen * ts.length)).toArray ++ (arr2.toList.take (m * ts.length)).toArray ++ Builtin.zeroCells z.cells (grownCap w (sLen + m) sCap el - (sLen + m))) hW hts (by omega) htl (grownCap_ge w _ _ el) (grownCap_le_maxLen w _ _ el hmln) (by
        have hge := grownCap_ge w (sLen + m) sCap el
        rw [List.length_append] at htll
        simp only [Array.size_append, List.size_toArray, size_zeroCells, hzs]
        rw [htll, hti, ← Nat.add_mul]
        congr 1
        omega) (fun q hq => by
        rw [Array.getElem?_append_left (by rw [Array.size_append, List.size_toArray, List.size_toArray, ← List.length_append, htll]; exact hq), List.append_toArray, List.getElem?_toArray])
       refine ⟨_, _, S', hr, ?_⟩
       simpa using hS'
theorem op_builtin {c : Call} {b : Builtin} (hop : o.op = .call c) (hcal : c.callee = .builtin b) (hv0 : p.v0.oneCell' = true ∧ p.v0.cells = #[p.v0]) (h : aop0 E G I o = some e) (hI : InOk p κ I a w) (hW : WT p κ.S L w) (hM : p.M ≤ E.mx) (hT : E.T = p.T) : OpWp E p κ I o e L a w := by
 simp only [aop0, hop, hcal] at h
 split at h <;> try contradiction
 rename_i l hl
 have hvs := (evL_has hI hl).1
 have hmap : (c.args.map a.eval).toList = c.args.toList.map a.eval := Array.toList_map
 unfold aBuiltin at h
 split at h
 · -- len
   rename_i t' i d t hts
   split at h <;> try contradiction
   rename_i el hel
   simp only [Option.some.injEq] at h
   subst h
   match hx : c.args.toList.map a.eval, hvs with
   | [v], hvs =>
    obtain ⟨ad, len, cp, rfl, h2, _⟩ := hvs.1
    have hargs : c.args.map a.eval = #[.slice ad len cp] := by rw [← Array.toList_inj, hmap, hx]
    have htt : c.argTypes[0]? = some t := by rw [← Array.getElem?_toList, hts]; rfl
    refine .value (u := .int .i64 len) ?_ (pureOut hW ?_)
    · simp [execOp, hop, resolve, hcal, hargs, invoke, builtin, Builtin.len_, htt, run_underlying hel, goInt]
    · simp [AV.has, AC.has, h2]
   | [], hvs => exact hvs.elim
   | _ :: _ :: _, hvs => exact hvs.2.elim
 · rename_i t hts
   split at h <;> try contradiction
   rename_i el hel
   simp only [Option.some.injEq] at h
   subst h
   match hx : c.args.toList.map a.eval, hvs with
   | [v], hvs =>
    have hv := hvs.1
    simp only [AV.has, AC.has] at hv
    subst hv
    have hargs : c.args.map a.eval = #[.slice none 0 0] := by rw [← Array.toList_inj, hmap, hx]
    have htt : c.argTypes[0]? = some t := by rw [← Array.getElem?_toList, hts]; rfl
    refine .value (u := .int .i64 0) ?_ (pureOut hW ?_)
    · simp [execOp, hop, resolve, hcal, hargs, invoke, builtin, Builtin.len_, htt, run_underlying hel, goInt]
    · simp [AV.has, AC.has, hI.zero]
   | [], hvs => exact hvs.elim
   | _ :: _ :: _, hvs => exact hvs.2.elim
 · -- min
   rename_i k i d k' j e1
   split at h <;> try contradiction
   rename_i hk
   have hk := kindEq_eq hk
   subst hk
   split at h <;> try contradiction
   rename_i lo hi lo' hi' hr hr'
   simp only [Option.some.injEq] at h
   subst h
   have r1 := rng_le hI hM hr
   have r2 := rng_le hI hM hr'
   match hx : c.args.toList.map a.eval, hvs with
   | [v, v'], hvs =>
    have hv := hvs.1
    have hv' := hvs.2.1
    simp only [AV.has, AC.has] at hv hv'
    subst hv hv'
    refine .value (u := .int k (gmin (κ.ρ i + d) (κ.ρ j + e1))) ?_ (freshInt hW ?_)
    · simp [execOp, hop, resolve, hcal, invoke, builtin, Builtin.min_, hx, Builtin.min2, gmin]
    · simp only [Bd.ok, minI_eq, gmin]
      split <;> omega
   | [], hvs => exact hvs.elim
   | [_], hvs => exact hvs.2.elim
   | _ :: _ :: _ :: _, hvs => exact hvs.2.2.elim
 · rename_i k i d k' j e1
   split at h <;> try contradiction
   rename_i hk
   have hk := kindEq_eq hk
   subst hk
   split at h <;> try contradiction
   rename_i lo hi lo' hi' hr hr'
   simp only [Option.some.injEq] at h
   subst h
   have r1 := rng_le hI hM hr
   have r2 := rng_le hI hM hr'
   match hx : c.args.toList.map a.eval, hvs with
   | [v, v'], hvs =>
    have hv := hvs.1
    have hv' := hvs.2.1
    simp only [AV.has, AC.has] at hv hv'
    subst hv hv'
    refine .value (u := .int k (gmax (κ.ρ i + d) (κ.ρ j + e1))) ?_ (freshInt hW ?_)
    · simp [execOp, hop, resolve, hcal, invoke, builtin, Builtin.max_, hx, Builtin.max2, gmax]
    · simp only [Bd.ok, maxI_eq, gmax]
      split <;> omega
   | [], hvs => exact hvs.elim
   | [_], hvs => exact hvs.2.elim
   | _ :: _ :: _ :: _, hvs => exact hvs.2.2.elim
 · -- append
   rename_i x y t t' hts
   split at h <;> try contradiction
   rename_i htt
   have htt := Nat.eq_of_beq_eq_true htt
   subst htt
   unfold aAppend at h
   split at h <;> try contradiction
   rename_i el hel
   split at h <;> try contradiction
   rename_i i d hxx
   split at h <;> try contradiction
   rename_i j e1 hyy
   split at h <;> try contradiction
   rename_i l1 l2 a1 h1 a2 h2 inf ts hl1 hl2 hu1 hu2 hinf htsx
   split at h <;> try contradiction
   rename_i z hz
   split at h <;> try contradiction
   rename_i hc
   simp only [Bool.and_eq_true, Nat.beq_eq, Nat.ble_eq, leI_iff] at hc
   obtain ⟨⟨⟨⟨hc1, hc2⟩, hc3⟩, hc4⟩, hc5⟩ := hc
   simp only [Option.some.injEq] at h
   subst h
   match hx : c.args.toList.map a.eval, hvs with
   | [v, v'], hvs =>
    have key : ∀ {q : AC} {u : Value} {i : Nat} {d : Int}, q.has p.T p.v0 κ u → (match q with | .nils => some (0, (0 : Int)) | .slc t' i d => (match Nat.beq t' el with | true => some (i, d) | false => none) | _ => none) = some (i, d) → Sl κ.S el u (κ.ρ i + d) := by
     intro q u i d hq hm
     cases q <;> simp only [reduceCtorEq] at hm
     · split at hm <;> try contradiction
       rename_i ht
       have ht := Nat.eq_of_beq_eq_true ht
       subst ht
       simp only [Option.some.injEq, Prod.mk.injEq] at hm
       obtain ⟨rfl, rfl⟩ := hm
       exact hq
     · simp only [Option.some.injEq, Prod.mk.injEq] at hm
       obtain ⟨rfl, rfl⟩ := hm
       simp only [AC.has] at hq
       subst hq
       rw [hI.zero]
       exact ⟨none, 0, 0, rfl, rfl, .inl ⟨rfl, rfl, rfl⟩⟩
    have s1 := key hvs.1 hxx
    have s2 := key hvs.2.1 hyy
    have b1 := lob_le hI hl1
    have b2 := lob_le hI hl2
    have u1 := upm_le hI hu1
    have u2 := upm_le hI hu2
    have hmx : ((a1 + a2 : Nat) : Int) * p.M ≤ ((a1 + a2 : Nat) : Int) * E.mx := Int.mul_le_mul_of_nonneg_left (by omega) (by omega)
    have hsum : κ.ρ i + d + (κ.ρ j + e1) ≤ ((a1 + a2 : Nat) : Int) * p.M + (h1 + h2) := by
     rw [Int.natCast_add, Int.add_mul]; omega
    have hnn : 0 ≤ κ.ρ i + d + (κ.ρ j + e1) := by
     obtain ⟨_, len, _, _, q1, _⟩ := s1
     obtain ⟨_, len', _, _, q2, _⟩ := s2
     omega
    rw [← Int.natCast_add] at hc4 hc5
    obtain ⟨v2, w2, S2, hrun, ho⟩ := append_run (ty := o.type) hW hv0 hel hinf hz hc1 hc2 (by omega) (by rw [← hT]; exact htsx) s1 s2
     (Int.le_trans (Int.mul_le_mul_of_nonneg_right (show _ ≤ ((a1 + a2 : Nat) : Int) * E.mx + (h1 + h2) by omega) (by omega)) hc4) (by omega)
    have hargs : c.args.map a.eval = #[v, v'] := by rw [← Array.toList_inj, hmap, hx]
    have htt : c.argTypes = #[t, t] := by rw [← Array.toList_inj, hts]
    have hat : (κ.put I.n [κ.ρ i + d + (κ.ρ j + e1)]).ρ I.n = κ.ρ i + d + (κ.ρ j + e1) := Ctx.put_at (j := 0) rfl
    refine .value (u := v2) (w' := w2) (κ' := ⟨(κ.put I.n [κ.ρ i + d + (κ.ρ j + e1)]).ρ, κ.π, S2⟩) ?_ ?_
    · simp only [execOp, hop, resolve, hcal, hargs, Sem.run_bind, Sem.run_pure, Result.andThen_ok, invoke, builtin, htt, hrun]
    · refine ⟨⟨(Ctx.put_agree (κ := κ) (n := I.n) (xs := [κ.ρ i + d + (κ.ρ j + e1)])).ρ, fun _ _ => rfl, ho.ext⟩, ?_, ?_, by simp, by simpa using ho.wt, ho.os, ho.tape, ho.output, ho.size, ho.newS, ?_, by simp, by simp, by simp⟩
      · simp only [AV.has, AC.has, hat, Int.add_zero]
        exact ho.sl
      · intro q b hq
        cases q with
        | zero =>
         simp at hq
         subst hq
         simp only [Bd.ok, Nat.add_zero, hat]
         omega
        | succ q => simp at hq
      · intro b hb hk _
        refine ho.same b hb fun x hx hh => hk x hx ?_
        simp [hh.1, hh.2]
   | [], hvs => exact hvs.elim
   | [_], hvs => exact hvs.2.elim
   | _ :: _ :: _ :: _, hvs => exact hvs.2.2.elim
 · contradiction
end
end Go.Ty
namespace Go.Ty
open Go Go.Sx
section
variable {E : Env} {G : Nat → Option Con} {p : Par} {κ κ' : Ctx} {I : In} {o : Oper} {e : Ef} {L : Int} {a : Act} {w w' : World} {S : SB'}
structure ConOk (P : Program) (mx : Nat) (p : Par) (g : FuncId) (con : Con) : Prop where
 fn : ∃ fn, P.funcs[g]? = some fn ∧ (fn.name == "runtime.NumGoroutine") = false ∧ fn.body.isNone = false
 ok : ∀ (κ : Ctx) (I : In) (a : Act) (w : World) (L : Int) (l : List AV) (vs : List Value) (e : Ef), con I l = some e → InOk p κ I a w → hasVs p.T p.v0 κ l vs → (∀ v ∈ l, ∀ m, v.off I.n m) → WT p κ.S L w → (I.A : Int) * p.M + I.K ≤ L → L ≤ (I.A : Int) * p.M + I.U → p.M ≤ mx →
  Calls P g vs.toArray w fun en w' => ∃ u κ', en = .returned u ∧ OpOut p κ κ' I.n e L w w' u
theorem op_call {c : Call} {g : FuncId} (hop : o.op = .call c) (hcal : c.callee = .value (.func g)) (h : aop0 E G I o = some e) (hG : ∀ g con, G g = some con → ConOk E.P E.mx p g con) (hI : InOk p κ I a w) (hW : WT p κ.S L w) (hM : p.M ≤ E.mx) (hL : (I.A : Int) * p.M + I.K ≤ L) (hL2 : L ≤ (I.A : Int) * p.M + I.U) : OpWp E p κ I o e L a w := by
 simp only [aop0, hop, hcal] at h
 split at h <;> try contradiction
 rename_i con hcon
 split at h <;> try contradiction
 rename_i l hl
 obtain ⟨⟨fn, f1, f2, f3⟩, hok⟩ := hG g con hcon
 obtain ⟨hvs, hoff⟩ := evL_has hI hl
 have hcalls := hok κ I a w L l _ e h hI hvs hoff hW hL hL2 hM
 have hargs : c.args.map a.eval = (c.args.toList.map a.eval).toArray := by rw [← Array.toList_map]
 have hrun : (execOp a.eval o).run E.P w = .ok (.enter g (c.args.toList.map a.eval).toArray) w := by
  have hfun : a.eval (.func g) = .func (.func g) #[] #[] := rfl
  simp only [execOp, hop, resolve, hcal, hfun, Deferred.ofValue, hargs, Sem.run_bind, Sem.run_pure, Result.andThen_ok, invoke, callFunc, run_program, f1, f2, f3, Bool.false_eq_true, if_false]
  simp
 intro next Q hn
 unfold Oper.wp
 rw [hrun, Oper.upon_enter]
 refine hcalls.mono ?_
 rintro en w1 ⟨u, κ', rfl, hout⟩
 exact hn u w1 κ' hout
structure EnvOk (E : Env) (G : Nat → Option Con) (p : Par) : Prop where
 T : E.T = p.T
 M : p.M ≤ E.mx
 v0 : p.v0.oneCell' = true ∧ p.v0.cells = #[p.v0]
 Tp : ∀ r t ts, p.T r t = some ts → 0 < ts.length
 G : ∀ g con, G g = some con → ConOk E.P E.mx p g con
theorem aop0_sound (hE : EnvOk E G p) (h : aop0 E G I o = some e) (hI : InOk p κ I a w) (hW : WT p κ.S L w) (hL : (I.A : Int) * p.M + I.K ≤ L) (hL2 : L ≤ (I.A : Int) * p.M + I.U) : OpWp E p κ I o e L a w := by
 cases hop : o.op
 case move x => exact op_move (.inl hop) h hI hW
 case assign x => exact op_move (.inr hop) h hI hW
 case pick => exact op_pick hop h hI hW hE.M
 case alloc => exact op_alloc hop h hI hW hE.M hE.T hE.Tp hL
 case box => exact op_box hop hE.v0 h hI hW hE.M hE.T hE.Tp hL
 case build => exact op_build hop hE.v0 h hI hW
 case buildSlice => exact op_buildSlice hop hE.v0 h hI hW hE.M hE.T hL
 case load => exact op_load hop h hI hW hE.T hL2
 case store => exact op_store hop hE.v0 h hI hW hE.M hE.T hL
 case nilCheck => exact op_nilCheck hop h hI hW
 case binOp => exact op_binOp hop h hI hW hE.M
 case unOp => exact op_unOp hop h hI hW
 case convert => exact op_convert hop h hI hW hE.M
 case fieldAddr => exact op_fieldAddr hop h hI hW
 case field => exact op_field hop h hI hW
 case indexAddr => exact op_indexAddr hop h hI hW hE.M hE.T
 case index => exact op_index hop h hI hW hE.M
 case extract => exact op_extract hop h hI hW
 case call c =>
  cases hcal : c.callee with
  | builtin b => exact op_builtin hop hcal hE.v0 h hI hW hE.M hE.T
  | value f =>
   cases f with
   | func g => exact op_call hop hcal h hE.G hI hW hE.M hL hL2
   | _ => simp [aop0, hop, hcal] at h
  | invoke _ _ => simp [aop0, hop, hcal] at h
 all_goals simp [aop0, hop] at h
theorem norm_out {u : Value} (hI0 : κ.ρ 0 = 0) (hn : 0 < I.n) (h : OpOut p κ κ' I.n e L w w' u) : ∃ κ'', OpOut p κ κ'' I.n (norm I.n e) L w w' u := by
 unfold norm
 have ag : ∀ (x : Int), Agree κ (κ'.put (I.n + e.new.length) [x]) I.n (e.new.length + 1) := by
  intro x
  refine ⟨fun i hi => ?_, fun i hi => h.agree.π i (by omega), h.agree.S⟩
  rw [(Ctx.put_agree (κ := κ') (n := I.n + e.new.length) (xs := [x])).ρ i (by simp; omega), h.agree.ρ i (by omega)]
 have nw : ∀ (x : Int) (b0 : Bd), b0.ok p.M x → ∀ (j : Nat) (b : Bd), (e.new ++ [b0])[j]? = some b → b.ok p.M ((κ'.put (I.n + e.new.length) [x]).ρ (I.n + j)) := by
  intro x b0 hb0 j b hj
  by_cases hlt : j < e.new.length
  · rw [List.getElem?_append_left hlt] at hj
    rw [(Ctx.put_agree (κ := κ') (n := I.n + e.new.length) (xs := [x])).ρ _ (by simp; omega)]
    exact h.new j b hj
  · rw [List.getElem?_append_right (by omega)] at hj
    have hj0 : j - e.new.length = 0 := by
     have := (List.getElem?_eq_some_iff.1 hj).1
     simp at this
     omega
    rw [hj0] at hj
    simp at hj
    subst hj
    rw [show I.n + j = I.n + e.new.length + 0 by omega, Ctx.put_at (j := 0) (x := x) rfl]
    exact hb0
 split
 · rename_i k h1 h2 h3 h4
   have hv := h.val
   rw [h1] at hv
   obtain ⟨x, rfl, hx1, hx2⟩ := hv
   refine ⟨κ'.put (I.n + e.new.length) [x], ⟨by rw [List.length_append]; exact ag x, ?_, nw x _ (by simp only [Bd.ok]; omega), by simp, h.wt, h.os, h.tape, h.output, h.size, h.newS, h.same, h.wr, by simp, by simp⟩⟩
   have := Ctx.put_at (κ := κ') (n := I.n + e.new.length) (xs := [x]) (j := 0) rfl
   simp only [Nat.add_zero] at this
   simp [AV.has, AC.has, this]
 · rename_i h1 h2 h3 h4
   have hv := h.val
   rw [h1] at hv
   obtain ⟨x, rfl⟩ := hv
   refine ⟨κ'.put (I.n + e.new.length) [if x then 1 else 0], ⟨by rw [List.length_append]; exact ag _, ?_, nw _ _ (by cases x <;> simp [Bd.ok]), by simp, h.wt, h.os, h.tape, h.output, h.size, h.newS, h.same, h.wr, by simp, by simp⟩⟩
   have h5 := Ctx.put_at (κ := κ') (n := I.n + e.new.length) (xs := [if x then 1 else 0]) (j := 0) rfl
   have h6 : (κ'.put (I.n + e.new.length) [if x then 1 else 0]).ρ 0 = 0 := by
    rw [(Ctx.put_agree (κ := κ') (n := I.n + e.new.length) (xs := [if x then 1 else 0])).ρ 0 (by omega), h.agree.ρ 0 (by omega), hI0]
   simp only [Nat.add_zero] at h5
   simp only [AV.has, AC.has, AB.val, Cmp.on, h5, h6]
   cases x <;> rfl
 · exact ⟨κ', h⟩
theorem aop_sound (hE : EnvOk E G p) (h : aop E G I o = some e) (hI : InOk p κ I a w) (hW : WT p κ.S L w) (hL : (I.A : Int) * p.M + I.K ≤ L) (hL2 : L ≤ (I.A : Int) * p.M + I.U) : OpWp E p κ I o e L a w := by
 unfold aop at h
 split at h <;> try contradiction
 rename_i e0 h0
 simp only [Option.some.injEq] at h
 subst h
 intro next Q hn
 refine aop0_sound hE h0 hI hW hL hL2 next Q ?_
 intro u w' κ' hout
 obtain ⟨κ'', h2⟩ := norm_out hI.zero hI.pos hout
 exact hn u w' κ'' h2
end
def ltB (n : Nat) : AB → Bool
 | .lit _ => true
 | .cmp _ i _ j _ => Nat.blt i n && Nat.blt j n
def ltC (n : Nat) : AC → Bool
 | .int _ i _ => Nat.blt i n
 | .bool b => ltB n b
 | .slc _ i _ => Nat.blt i n
 | .ptr _ q _ => Nat.blt q n
 | _ => true
def ltLs (n : Nat) : List AC → Bool
 | [] => true
 | c :: l => match ltC n c with
  | true => ltLs n l
  | false => false
def ltPs (n : Nat) : List (Bool × List AC) → Bool
 | [] => true
 | c :: l => match ltLs n c.2 with
  | true => ltPs n l
  | false => false
def ltV (n : Nat) : AV → Bool
 | .ud => true
 | .one c => ltC n c
 | .agg l => ltLs n l
 | .tup ps => ltPs n ps
theorem blt_iff {a b : Nat} : Nat.blt a b = true ↔ a < b := by
 simp only [Nat.blt, Nat.ble_eq]; omega
theorem ltC_off {n : Nat} {c : AC} (h : ltC n c = true) (m : Nat) : c.off n m := by
 cases c with
 | bool b =>
  cases b with
  | lit _ => trivial
  | cmp c i d j e =>
   simp only [ltC, ltB, Bool.and_eq_true, blt_iff] at h
   simp only [AC.off, AB.off]; omega
 | int k i d => simp only [ltC, blt_iff] at h; simp only [AC.off]; omega
 | slc k i d => simp only [ltC, blt_iff] at h; simp only [AC.off]; omega
 | ptr k i d => simp only [ltC, blt_iff] at h; simp only [AC.off]; omega
 | _ => trivial
theorem ltLs_off {n : Nat} : ∀ {l : List AC}, ltLs n l = true → ∀ m, offL n m l
 | [], _, m => by simp [offL]
 | c :: l, h, m => by
  simp only [ltLs] at h
  split at h <;> try contradiction
  rename_i hc
  intro x hx
  rcases List.mem_cons.1 hx with rfl | hx
  · exact ltC_off hc m
  · exact ltLs_off h m x hx
theorem ltPs_off {n : Nat} : ∀ {l : List (Bool × List AC)}, ltPs n l = true → ∀ m, ∀ q ∈ l, offL n m q.2
 | [], _, m => by simp
 | c :: l, h, m => by
  simp only [ltPs] at h
  split at h <;> try contradiction
  rename_i hc
  intro x hx
  rcases List.mem_cons.1 hx with rfl | hx
  · exact ltLs_off hc m
  · exact ltPs_off h m x hx
theorem ltV_off {n : Nat} {v : AV} (h : ltV n v = true) (m : Nat) : v.off n m := by
 cases v with
 | ud => trivial
 | one c => exact ltC_off h m
 | agg l => exact ltLs_off h m
 | tup ps => exact ltPs_off h m
theorem AB.off_up {n n' : Nat} {b : AB} (h : ∀ m, b.off n m) (hn : n ≤ n') (m : Nat) : b.off n' m := by
 cases b with
 | lit _ => trivial
 | cmp c i d j e =>
  have h1 := h (i + 1)
  have h2 := h (j + 1)
  simp only [AB.off] at h1 h2 ⊢
  omega
theorem AC.off_up {n n' : Nat} {c : AC} (h : ∀ m, c.off n m) (hn : n ≤ n') (m : Nat) : c.off n' m := by
 cases c with
 | bool b => exact AB.off_up h hn m
 | int k i d => have := h (i + 1); simp only [AC.off] at this ⊢; omega
 | slc k i d => have := h (i + 1); simp only [AC.off] at this ⊢; omega
 | ptr k i d => have := h (i + 1); simp only [AC.off] at this ⊢; omega
 | _ => trivial
theorem offL_up {n n' : Nat} {l : List AC} (h : ∀ m, offL n m l) (hn : n ≤ n') (m : Nat) : offL n' m l := fun c hc => AC.off_up (fun m => h m c hc) hn m
theorem AV.off_up {n n' : Nat} {v : AV} (h : ∀ m, v.off n m) (hn : n ≤ n') (m : Nat) : v.off n' m := by
 cases v with
 | ud => trivial
 | one c => exact AC.off_up h hn m
 | agg l => exact offL_up h hn m
 | tup ps => exact fun q hq => offL_up (fun m => h m q hq) hn m
def memK (r : Bool) (t : Nat) : List (Bool × TypeId) → Bool
 | [] => false
 | (r', t') :: l => match (r == r') && Nat.beq t t' with
  | true => true
  | false => memK r t l
theorem memK_iff {r : Bool} {t : Nat} : ∀ {l : List (Bool × TypeId)}, memK r t l = true ↔ (r, t) ∈ l
 | [] => by simp [memK]
 | (r', t') :: l => by
  simp only [memK, List.mem_cons, Prod.mk.injEq]
  split
  · rename_i h
    simp only [Bool.and_eq_true, beq_iff_eq, Nat.beq_eq] at h
    simp [h.1, h.2]
  · rename_i h
    rw [memK_iff]
    have : ¬ (r = r' ∧ t = t') := fun hh => by rw [hh.1, hh.2] at h; simp at h
    simp [this]
def memL (i j : Nat) : List (Nat × Nat) → Bool
 | [] => false
 | (x, y) :: l => match Nat.beq i x && Nat.beq j y with
  | true => true
  | false => memL i j l
theorem memL_mem {i j : Nat} : ∀ {l : List (Nat × Nat)}, memL i j l = true → (i, j) ∈ l
 | [], h => by simp [memL] at h
 | (x, y) :: l, h => by
  simp only [memL] at h
  split at h
  · rename_i hc
    simp only [Bool.and_eq_true, Nat.beq_eq] at hc
    simp [hc.1, hc.2]
  · exact List.mem_cons_of_mem _ (memL_mem h)
def St.inp (st : St) : In := ⟨Sx.look st.sl, Sx.look st.mem, Sx.look st.ids, fun i j => memL i j st.lts, st.nid, st.A, st.K, st.K⟩
def numB : Nat → List Bd → List (Nat × Bd)
 | _, [] => []
 | n, b :: r => (n, b) :: numB (n + 1) r
def subK (eff : List (Bool × TypeId)) : List (Bool × TypeId) → Bool
 | [] => true
 | (r, t) :: l => match memK r t eff with
  | true => subK eff l
  | false => false
def wrOk (eff : List (Bool × TypeId)) (own ps : List Nat) : List (Nat × TypeId) → Bool
 | [] => true
 | (q, t) :: l => match (memN q own || memK false t eff) && memN q ps with
  | true => wrOk eff own ps l
  | false => false
def ltPairs (n : Nat) : List (Nat × Nat) → Bool
 | [] => true
 | (i, j) :: l => match Nat.blt i n && Nat.blt j n with
  | true => ltPairs n l
  | false => false
def keepM (wr : List (Nat × TypeId)) (kill : List (Bool × TypeId)) : List Nat → List (Nat × TypeId × List AC) → List (Nat × TypeId × List AC)
 | _, [] => []
 | seen, (q, t, l) :: r => match memN q seen with
  | true => keepM wr kill seen r
  | false => match memK false t kill || (Sx.look wr q).isSome with
   | true => keepM wr kill (q :: seen) r
   | false => (q, t, l) :: keepM wr kill (q :: seen) r
def setM (n : Nat) (ps : List Nat) : List (Nat × TypeId × List AC) → List (Nat × TypeId × List AC)
 | [] => []
 | (q, t, l) :: r => match memN q ps && ltLs n l with
  | true => (q, t, l) :: setM n ps r
  | false => setM n ps r
def newM (n : Nat) : Option (TypeId × List AC) → List (Nat × TypeId × List AC)
 | some (t, l) => [(n, t, l)]
 | none => []
def putA (dst : Option Nat) (v : AV) (s : List (Nat × AV)) : List (Nat × AV) := match dst with
 | some t => (t, v) :: s
 | none => s
def applyE (E : Env) (st : St) (dst : Option Nat) (e : Ef) : Option St :=
 match dstOk E.nt dst && ltV (st.nid + e.new.length) e.av && ltPairs (st.nid + e.new.length) e.lts && subK E.eff e.kill && wrOk E.eff st.own st.ps e.wr && (match e.nb with | some (_, l) => ltLs (st.nid + e.new.length) l | none => true) with
 | true => some ⟨putA dst e.av st.sl, numB st.nid e.new ++ st.ids, e.lts ++ st.lts, newM st.nid e.nb ++ (setM (st.nid + e.new.length) st.ps e.pm ++ keepM e.wr e.kill [] st.mem),
   (match e.nb with | some _ => st.nid :: st.own | none => st.own), (match e.nb with | some _ => st.nid :: st.ps | none => st.ps), st.nid + e.new.length, st.A, st.K + e.up⟩
 | false => none
structure Fr0 (eff : List (Bool × TypeId)) (S0 : SB') (w0 : World) (own : Nat → Prop) (κ : Ctx) (w : World) : Prop where
 os : w.os = w0.os
 tape : w.tape = w0.tape
 output : w.output = w0.output
 size : w0.heap.size ≤ w.heap.size
 ext : SExt S0 κ.S
 newS : ∀ b x, κ.S b = some x → (∃ y, S0 b = some y) ∨ w0.heap.size ≤ b
 same : ∀ b, b < w0.heap.size → (∀ x, S0 b = some x → (x.row, x.t) ∉ eff) → w.heap[b]? = w0.heap[b]?
 own : ∀ q, own q → w0.heap.size ≤ κ.π q
structure Rel (E : Env) (p : Par) (S0 : SB') (w0 : World) (κ : Ctx) (st : St) (a : Act) (w : World) : Prop where
 size : a.tmps.size = E.nt
 defers : a.defers = []
 inp : InOk p κ st.inp a w
 wt : WT p κ.S ((st.A : Int) * p.M + st.K) w
 inj : ∀ q q', q ∈ st.ps → q' ∈ st.ps → κ.π q = κ.π q' → q = q'
 ps : ∀ q, q ∈ st.ps → q < st.nid ∧ κ.π q < w.heap.size
 mps : ∀ q x, Sx.look st.mem q = some x → q ∈ st.ps
 ownlt : ∀ q, q ∈ st.own → q < st.nid
 pin : (∀ x, x ∈ p.pin → x.1 < st.nid ∧ κ.π x.1 = x.2) ∧ ∀ x, x ∈ p.num → x.1 < st.nid ∧ κ.ρ x.1 = x.2
 fr : Fr0 E.eff S0 w0 (fun q => q ∈ st.own ∧ q < st.nid) κ w
section
variable {E : Env} {G : Nat → Option Con} {p : Par} {κ κ' : Ctx} {st st' : St} {o : Oper} {e : Ef} {a : Act} {w w' w0 : World} {S0 : SB'}
theorem look_numB : ∀ {l : List Bd} {n i : Nat}, Sx.look (numB n l) i = if n ≤ i then l[i - n]? else none
 | [], n, i => by simp [numB, Sx.look]
 | b :: l, n, i => by
  simp only [numB, look_cons, look_numB (l := l)]
  by_cases h : n = i
  · subst h; simp
  · rw [if_neg h]
    by_cases h2 : n ≤ i
    · rw [if_pos h2, if_pos (by omega), show i - n = (i - (n + 1)) + 1 by omega]
      simp
    · rw [if_neg h2, if_neg (by omega)]
theorem look_keepM {wr : List (Nat × TypeId)} {kill : List (Bool × TypeId)} {q : Nat} {x : TypeId × List AC} : ∀ {l : List (Nat × TypeId × List AC)} {seen : List Nat}, Sx.look (keepM wr kill seen l) q = some x → q ∉ seen ∧ Sx.look l q = some x ∧ (false, x.1) ∉ kill ∧ Sx.look wr q = none
 | [], _, h => by simp [keepM, Sx.look] at h
 | (q', t, l') :: l, seen, h => by
  simp only [keepM] at h
  rw [look_cons]
  split at h
  · rename_i hs
    have hs := memN_iff.1 hs
    obtain ⟨h1, h2, h3, h4⟩ := look_keepM h
    exact ⟨h1, by rw [if_neg (fun hh : q' = q => h1 (by rw [← hh]; exact hs))]; exact h2, h3, h4⟩
  · rename_i hs
    have hs : q' ∉ seen := fun hh => by rw [memN_iff.2 hh] at hs; cases hs
    split at h
    · obtain ⟨h1, h2, h3, h4⟩ := look_keepM h
      simp only [List.mem_cons, not_or] at h1
      exact ⟨h1.2, by rw [if_neg (Ne.symm h1.1)]; exact h2, h3, h4⟩
    · rename_i hc
      rw [look_cons] at h
      split at h
      · rename_i hq
        simp only [Option.some.injEq] at h
        subst h hq
        simp only [Bool.or_eq_false_iff] at hc
        refine ⟨hs, by rw [if_pos rfl], fun hh => ?_, by simpa using hc.2⟩
        rw [memK_iff.2 hh] at hc
        exact absurd hc.1 (by simp)
      · rename_i hq
        obtain ⟨h1, h2, h3, h4⟩ := look_keepM h
        simp only [List.mem_cons, not_or] at h1
        exact ⟨h1.2, by rw [if_neg hq]; exact h2, h3, h4⟩
theorem look_setM {n : Nat} {ps : List Nat} {q : Nat} {x : TypeId × List AC} : ∀ {l : List (Nat × TypeId × List AC)}, Sx.look (setM n ps l) q = some x → q ∈ ps ∧ ltLs n x.2 = true ∧ (q, x) ∈ l
 | [], h => by simp [setM, Sx.look] at h
 | (q', t, l') :: l, h => by
  simp only [setM] at h
  split at h
  · rename_i hc
    simp only [Bool.and_eq_true] at hc
    rw [look_cons] at h
    split at h
    · rename_i hq
      simp only [Option.some.injEq] at h
      subst h hq
      exact ⟨memN_iff.1 hc.1, hc.2, by simp⟩
    · obtain ⟨h1, h2, h3⟩ := look_setM h
      exact ⟨h1, h2, List.mem_cons_of_mem _ h3⟩
  · obtain ⟨h1, h2, h3⟩ := look_setM h
    exact ⟨h1, h2, List.mem_cons_of_mem _ h3⟩
theorem subK_mem {eff : List (Bool × TypeId)} : ∀ {l : List (Bool × TypeId)}, subK eff l = true → ∀ x ∈ l, x ∈ eff
 | [], _, x, hx => by simp at hx
 | (r, t) :: l, h, x, hx => by
  simp only [subK] at h
  split at h <;> try contradiction
  rename_i hc
  rcases List.mem_cons.1 hx with rfl | hx
  · exact memK_iff.1 hc
  · exact subK_mem h x hx
theorem wrOk_mem {eff : List (Bool × TypeId)} {own ps : List Nat} : ∀ {l : List (Nat × TypeId)}, wrOk eff own ps l = true → ∀ x ∈ l, (x.1 ∈ own ∨ (false, x.2) ∈ eff) ∧ x.1 ∈ ps
 | [], _, x, hx => by simp at hx
 | (q, t) :: l, h, x, hx => by
  simp only [wrOk] at h
  split at h <;> try contradiction
  rename_i hc
  simp only [Bool.and_eq_true, Bool.or_eq_true] at hc
  rcases List.mem_cons.1 hx with rfl | hx
  · exact ⟨hc.1.imp memN_iff.1 memK_iff.1, memN_iff.1 hc.2⟩
  · exact wrOk_mem h x hx
theorem ltPairs_mem {n : Nat} : ∀ {l : List (Nat × Nat)}, ltPairs n l = true → ∀ x ∈ l, x.1 < n ∧ x.2 < n
 | [], _, x, hx => by simp at hx
 | (i, j) :: l, h, x, hx => by
  simp only [ltPairs] at h
  split at h <;> try contradiction
  rename_i hc
  simp only [Bool.and_eq_true, blt_iff] at hc
  rcases List.mem_cons.1 hx with rfl | hx
  · exact hc
  · exact ltPairs_mem h x hx
theorem look_mem_of {α : Type} {l : List (Nat × α)} {q : Nat} {x : α} (h : (q, x) ∈ l) : ∃ y, Sx.look l q = some y := by
 induction l with
 | nil => simp at h
 | cons z l ih =>
  rw [look_cons]
  split
  · exact ⟨_, rfl⟩
  · rename_i hne
    rcases List.mem_cons.1 h with rfl | h
    · exact absurd rfl hne
    · exact ih h
end
end Go.Ty
