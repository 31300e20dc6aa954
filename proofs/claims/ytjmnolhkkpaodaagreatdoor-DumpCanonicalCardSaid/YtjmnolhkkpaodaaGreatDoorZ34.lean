/- A part of the proof: the reference is safe, both packages write and read alike. Several texts in one; printed by slim28.py out of the texts of wip. -/
import Derived.Lib.AppendStr
import Derived.OrdersHeld
import Derived.Laws.BytesArg
import Derived.Test.YtjmnolhkkpaodaaGreatDoorZ33
set_option linter.all false
namespace Go.Sx
open Go Go.RowKit Go.Lib
def encB (B : ByteArray) : List SV := B.data.toList.map fun b => .int .u8 (.sym (b.toNat : Int))
theorem encB_vals (B : ByteArray) (f : Nat → Nat) : (encB B).map (SV.den f) = strCells B := by
 simp only [encB, strCells, List.map_map]
 rfl
theorem encB_length (B : ByteArray) : (encB B).length = B.size := by
 simp only [encB, List.length_map, Array.length_toList]
 rfl
theorem encB_cat (A B : ByteArray) : encB (catB A B) = encB A ++ encB B := by
 simp only [encB, catB, List.toList_toArray, List.map_append]
section
variable {P : Program}
theorem run_append_own_string_at (w : World) (t u ty e : TypeId) (i : TypeInfo) (ht : P.underlying t = some (.slice e)) (hu : P.underlying u = some .string) (hi : P.info? e = some i) (hz : i.zero = some (.int .u8 0)) (hsize : i.size = 1) (hby : i.bytes = 1)
  (v : Value) (n : Nat) (xs : List Value) (hown : w.ownsRow 0 e 1 v n xs) (s : ByteArray) (hbytes : n + s.size ≤ 140737488355328) :
  ∃ v' w', (Builtin.append_ #[t, u] ty #[v, .string s]).run P w = .ok v' w' ∧ w'.ownsRow 0 e 1 v' (n + s.size) (xs ++ strCells s) ∧ w.grownBy w' v.ownBlock ∧ ∀ k, v'.ownBlock = some k → v.ownBlock = some k ∨ w.heap.size ≤ k := by
 have h63 : n + s.size ≤ maxLen := by unfold maxLen; omega
 obtain ⟨v', w', hr, h1, h2, _⟩ := run_append_own_string w 0 t u ty e i ht hu hi hz hsize hby v n xs hown s h63 hbytes (Nat.zero_le _)
 refine ⟨v', w', hr, h1, h2, ?_⟩
 have hxl : xs.length = n := by simpa using hown.1
 rcases hown.2 with ⟨rfl, rfl⟩ | ⟨g, cap, cur, rfl, hbg, hg, hnc, hcm, hcs, htake⟩
 · have hx : xs = [] := List.eq_nil_of_length_eq_zero hxl
   subst hx
   obtain ⟨v2, w2, hr2, h3, _⟩ := run_append_own_string w w.heap.size t u ty e i ht hu hi hz hsize hby _ 0 [] (World.ownsRow_nil w w.heap.size e 1) s h63 hbytes (Nat.le_refl _)
   rw [hr2] at hr
   simp only [Result.ok.injEq] at hr
   obtain ⟨rfl, rfl⟩ := hr
   intro k hk
   exact .inr (World.ownsRow.lt h3 k hk).1
 · by_cases hroom : n + s.size ≤ cap
   · have hcs' : cur.size = cap := by simpa using hcs
     have hr2 := run_append_room_string (P := P) w t u ty e i ht hu hi hsize g n cap cur hg s hroom (by omega)
     rw [hr2] at hr
     simp only [Result.ok.injEq] at hr
     obtain ⟨rfl, _⟩ := hr
     intro k hk
     exact .inl hk
   · have holds : ∀ j u, xs[j]? = some u → w.cell? ((⟨g, 0, none⟩ : Addr).add j) = some u := hown.cells (g := g) rfl
     have hr2 := run_append_grow_string (P := P) w t u ty e i (.int .u8 0) ht hu hi hz ⟨g, 0, none⟩ n cap xs (by rw [hsize]; simpa using hxl) holds s (by omega) (by omega) (by rw [hby]; exact growslice_fits (by omega) (by omega))
     rw [hr2] at hr
     simp only [Result.ok.injEq] at hr
     obtain ⟨rfl, _⟩ := hr
     intro k hk
     right
     simp only [Value.ownBlock, Option.some.injEq] at hk
     omega
end
section
variable {W : Bs} {P : Program} {G : List (Nat × Spec)} {nt : Nat} {s : SL} {m : Mem} {g : Gh} {f : Nat → Nat} {a : Act} {w w' : World}
theorem GSt.grown (h : GSt W nt s m g f a w) {i : Nat} {ow ow' : Own} (hi : g[i]? = some ow) (hown : ow'.rel 0 w') (hgrow : w.grownBy w' ow.v.ownBlock) (hat : ∀ k, ow'.v.ownBlock = some k → ow.v.ownBlock = some k ∨ w.heap.size ≤ k) {d : Nat} (hd : d < nt) {v : TV} {u : Value} (hv : u = v.den f) :
  GSt W nt (putS (some d) v s) m (g.set i ow') f (a.put (some d) u) w' := by
 have hlt : ∀ (q : Nat) (o : Own), g[q]? = some o → ∀ k, o.v.ownBlock = some k → k < w.heap.size := fun q o ho k hk => (World.ownsRow.lt (h.gh.own q o ho) k hk).2
 have hge : ∀ k, ow.v.ownBlock = some k → W.w0.heap.size ≤ k ∨ W.X k := fun k hk => h.gh.at_ i ow hi k hk
 have hsame : ∀ k, k < w.heap.size → (ow.v.ownBlock ≠ some k) → w'.heap[k]? = w.heap[k]? := fun k hk hne => hgrow.block k hk (fun hh => hne hh.symm)
 have hblk : ∀ b j, look m.blks b = some j → w'.heap[f b]? = w.heap[f b]? := by
  intro b j hj
  obtain ⟨arr, harr, _⟩ := h.mem.blk b j hj
  exact hsame _ (lt_of_blk harr) (fun hh => h.gh.off i ow hi _ hh b j hj rfl)
 have hget' : ∀ (q : Nat) (p : Own), (g.set i ow')[q]? = some p → (q = i ∧ p = ow') ∨ (q ≠ i ∧ g[q]? = some p) := by
  intro q p hp
  rw [List.getElem?_set] at hp
  by_cases hq : i = q
  · subst hq
    rw [if_pos rfl] at hp
    split at hp
    · simp only [Option.some.injEq] at hp
      exact .inl ⟨rfl, hp.symm⟩
    · cases hp
  · rw [if_neg hq] at hp
    exact .inr ⟨fun hh => hq hh.symm, hp⟩
 refine ⟨by simp [Act.put, h.size], by simp [Act.put, h.defers], h.slots.put h.size (by simp [dstOk, Nat.blt]; omega) (.inr hv), ?_, h.base, ?_, h.pin, ?_, ?_, ?_, ?_⟩
 · refine ⟨?_, ?_, h.mem.known, h.mem.inj, fun b j hj _ => .inr ⟨b, j, hj, rfl⟩, h.mem.lt⟩
   · intro b j hj
     rw [hblk b j hj]
     exact h.mem.blk b j hj
   · intro b o v hv
     obtain ⟨j, hj⟩ := h.mem.known b o v hv
     rw [← h.mem.cell b o v hv]
     exact World.cell?_of_block (hblk b j hj)
 · refine ⟨hgrow.os.trans h.fr.os, hgrow.tape.trans h.fr.tape, hgrow.output.trans h.fr.output, Nat.le_trans h.fr.size hgrow.size, fun k hk hx => ?_, W.base⟩
   have := h.fr.size
   exact (hsame k (by omega) (fun hh => by rcases hge k hh with h1 | h1; omega; exact hx h1)).trans (h.fr.same k hk hx)
 · intro q p hp
   rcases hget' q p hp with ⟨_, rfl⟩ | ⟨hq, hp⟩
   · exact hown
   · exact World.ownsRow.same (h.gh.own q p hp) (fun k hk => hsame k (hlt q p hp k hk) (h.gh.two q i p ow hp hi hq k hk))
 · intro q p hp k hk
   rcases hget' q p hp with ⟨_, rfl⟩ | ⟨_, hp⟩
   · rcases hat k hk with h1 | h1
     · exact hge k h1
     · left
       have := h.fr.size
       omega
   · exact h.gh.at_ q p hp k hk
 · intro q p hp k hk b j hj hf
   rcases hget' q p hp with ⟨_, rfl⟩ | ⟨_, hp⟩
   · rcases hat k hk with h1 | h1
     · exact h.gh.off i ow hi k h1 b j hj hf
     · obtain ⟨arr, harr, _⟩ := h.mem.blk b j hj
       have := lt_of_blk harr
       omega
   · exact h.gh.off q p hp k hk b j hj hf
 · intro q q' p p' hp hp' hne k hk hk'
   rcases hget' q p hp with ⟨e1, e2⟩ | ⟨h1, hq1⟩ <;> rcases hget' q' p' hp' with ⟨e3, e4⟩ | ⟨h2, hq2⟩
   · exact hne (e1.trans e3.symm)
   · rw [e2] at hk
     rcases hat k hk with h3 | h3
     · exact h.gh.two i q' ow p' hi hq2 (fun hh => hne (e1.trans hh)) k h3 hk'
     · have := hlt q' p' hq2 k hk'
       omega
   · rw [e4] at hk'
     rcases hat k hk' with h3 | h3
     · exact h.gh.two q i p ow hq1 hi (fun hh => hne (hh.trans e3.symm)) k hk h3
     · have := hlt q p hq1 k hk
       omega
   · exact h.gh.two q q' p p' hq1 hq2 hne k hk hk'
structure StrSp where
 s : Nat
 x : Nat
 d : Nat
 i : Nat
 t : TypeId
 u : TypeId
 e : TypeId
noncomputable def growS (sp : StrSp) (s : SL) (m : Mem) (g : Gh) : RG := match look s sp.s, look s sp.x, g[sp.i]? with
 | some (.one (.sl a n c)), some (.one (.str x)), some o => match Nat.beq o.e sp.e && Nat.beq o.size 1 with
  | true => .any fun a' c' => .leaf .nrm (.sym ((decide (a = o.a) && (decide (n = o.n) && decide (c = o.c))) && decide (o.n + x.size ≤ 140737488355328))) (putS (some sp.d) (.one (.sl a' (o.n + x.size) c')) s) m (g.set sp.i ⟨sp.e, 1, a', o.n + x.size, c', o.xs ++ encB x⟩)
  | false => .fail
 | _, _, _ => .fail
def strB' (P : Program) (sp : StrSp) (o : Oper) : Bool :=
 (match o.guard with | none => true | some _ => false) && (match o.dst with | some d => Nat.beq d sp.d | none => false) &&
   (match o.op with
   | .call ⟨.builtin .append, az, ts⟩ => (match az.toList with | [.tmp s, .tmp x] => Nat.beq s sp.s && Nat.beq x sp.x | _ => false) && (match ts.toList with | [t, u] => Nat.beq t sp.t && Nat.beq u sp.u | _ => false)
   | _ => false) &&
   (match P.underlying sp.t with | some (.slice e) => Nat.beq e sp.e | _ => false) && (match P.underlying sp.u with | some .string => true | _ => false) &&
   (match P.info? sp.e with
   | some i => (match i.zero with | some (.int .u8 z) => decide (z = 0) | _ => false) && Nat.beq i.size 1 && Nat.beq i.bytes 1
   | none => false)
theorem slV_own {o : Own} {a : Option Addr} {n c : Nat} (h : (decide (a = o.a) && (decide (n = o.n) && decide (c = o.c))) = true) : (Value.slice a n c) = o.v := by
 simp only [Bool.and_eq_true, decide_eq_true_eq] at h
 obtain ⟨rfl, rfl, rfl⟩ := h
 rfl
theorem wp_value {o : Oper} {K : Act → World → Prop} {Q : Exit → Act → World → Prop} {v : Value} (hr : (execOp a.eval o).run P w = .ok (.value v) w') (h : K (a.put o.dst v) w') : o.wp P a w K Q := by
 unfold Oper.wp
 rw [hr, Oper.upon_value]
 exact h
theorem growS_wp {sp : StrSp} {o : Oper} (ho : strB' P sp o = true) (hd : sp.d < nt) {x : ByteArray} {sa : Option Addr} {sn sc : Nat} {ow : Own} (hs : look s sp.s = some (.one (.sl sa sn sc))) (hx : look s sp.x = some (.one (.str x))) (hgi : g[sp.i]? = some ow)
  (he : ow.e = sp.e) (hsz : ow.size = 1) (hv : (decide (sa = ow.a) && (decide (sn = ow.n) && decide (sc = ow.c))) = true) (hb : ow.n + x.size ≤ 140737488355328) (h : GSt W nt s m g f a w) {K : Act → World → Prop} {Q : Exit → Act → World → Prop}
  (hK : ∀ a' c' u w', GSt W nt (putS (some sp.d) (.one (.sl a' (ow.n + x.size) c')) s) m (g.set sp.i ⟨sp.e, 1, a', ow.n + x.size, c', ow.xs ++ encB x⟩) f (a.put (some sp.d) u) w' → K (a.put (some sp.d) u) w') : o.wp P a w K Q := by
 unfold strB' at ho
 simp only [Bool.and_eq_true] at ho
 obtain ⟨⟨⟨⟨⟨h1, h2⟩, h3⟩, h4⟩, h5⟩, h6⟩ := ho
 split at h1 <;> try contradiction
 split at h2 <;> try contradiction
 rename_i d hdst
 split at h3 <;> try contradiction
 rename_i az ts hop
 rw [Bool.and_eq_true] at h3
 obtain ⟨h7, h8⟩ := h3
 split at h7 <;> try contradiction
 rename_i s0 x0 has
 split at h8 <;> try contradiction
 rename_i t0 u0 hts
 split at h4 <;> try contradiction
 rename_i e0 hu1
 split at h5 <;> try contradiction
 rename_i hu2
 split at h6 <;> try contradiction
 rename_i inf hinf
 simp only [Bool.and_eq_true, Nat.beq_eq] at h2 h4 h6 h7 h8
 obtain ⟨⟨hz0, hi1⟩, hi2⟩ := h6
 split at hz0 <;> try contradiction
 rename_i z hz
 have hz0 := of_decide_eq_true hz0
 subst hz0 h2 h4
 obtain ⟨rfl, rfl⟩ := h7
 obtain ⟨rfl, rfl⟩ := h8
 have e1 : az = #[.tmp sp.s, .tmp sp.x] := by rw [← Array.toArray_toList (xs := az), has]
 have e2 : ts = #[sp.t, sp.u] := by rw [← Array.toArray_toList (xs := ts), hts]
 subst e1 e2
 have hown := h.gh.own sp.i ow hgi
 unfold Own.rel at hown
 rw [he, hsz] at hown
 have hsv : a.eval (.tmp sp.s) = ow.v := (h.slots sp.s _ hs (by simp)).trans (slV_own hv)
 have hxv : a.eval (.tmp sp.x) = .string x := h.slots sp.x _ hx (by simp)
 obtain ⟨v', w', hr, h9w, h10w, h11⟩ := run_append_own_string_at (P := P) w sp.t sp.u o.type sp.e inf hu1 hu2 hinf hz hi1 hi2 ow.v ow.n ow.vals hown x hb
 have hv' : ∃ a' c', v' = .slice a' (ow.n + x.size) c' := by
  obtain ⟨_, ⟨rfl, hn0⟩ | ⟨b', cap, cur, rfl, _⟩⟩ := h9w
  · exact ⟨none, 0, by rw [hn0]⟩
  · exact ⟨_, _, rfl⟩
 obtain ⟨a', c', rfl⟩ := hv'
 refine wp_value (w' := w') (v := .slice a' (ow.n + x.size) c') ?_ ?_
 · unfold execOp
   simp only [hop, resolve, invoke, builtin, Sem.run_bind, Sem.run_pure, Result.andThen_ok, List.map_toArray, List.map_cons, List.map_nil, hsv, hxv, hr]
 · rw [hdst]
   refine hK a' c' _ w' (h.grown hgi (ow' := ⟨sp.e, 1, a', ow.n + x.size, c', ow.xs ++ encB x⟩) ?_ h10w h11 hd rfl)
   show w'.ownsRow 0 sp.e 1 (.slice a' (ow.n + x.size) c') (ow.n + x.size) ((ow.xs ++ encB x).map (SV.den fun _ => 0))
   rw [List.map_append, encB_vals]
   exact h9w
theorem growS_ok {sp : StrSp} {o : Oper} (ho : strB' P sp o = true) (hd : sp.d < nt) : CallOk W P nt o (growS sp) := by
 intro s m g f a w Q hgood h
 unfold growS at hgood ⊢
 split at hgood <;> try exact hgood.elim
 rename_i sa sn sc x ow hs hx hgi
 split at hgood <;> try exact hgood.elim
 rename_i hc
 have hg0 := hgood none 0
 simp only [RG.Good, SB.val_sym] at hg0
 rw [Bool.and_eq_true, decide_eq_true_eq] at hg0
 rw [Bool.and_eq_true, Nat.beq_eq, Nat.beq_eq] at hc
 refine growS_wp ho hd hs hx hgi hc.1 hc.2 hg0.1 hg0.2 h ?_
 intro a' c' u w' h1
 exact ⟨a', c', rfl, f, h1⟩
def rowB' (P : Program) (sp : StrSp) (o : Oper) : Bool :=
 (match o.dst with | some d => Nat.beq d sp.d | none => false) &&
   (match o.op with
   | .call ⟨.builtin .append, az, ts⟩ => (match az.toList with | [.tmp s, .tmp x] => Nat.beq s sp.s && Nat.beq x sp.x | _ => false) && (match ts.toList with | [t, u] => Nat.beq t sp.t && Nat.beq u sp.t | _ => false)
   | _ => false) &&
   (match P.underlying sp.t with | some (.slice e) => Nat.beq e sp.e | _ => false) &&
   (match P.info? sp.e with
   | some i => (match i.zero with | some z => Nat.beq z.cells.size 1 | _ => false) && Nat.beq i.size 1 && Nat.beq i.bytes 1
   | none => false)
theorem rowB_wp {sp : StrSp} {o : Oper} (ho : rowB' P sp o = true) (hd : sp.d < nt) {ad : Addr} {xn xc : Nat} {sa : Option Addr} {sn sc : Nat} {ow : Own} {l : List SV} (hs : look s sp.s = some (.one (.sl sa sn sc))) (hxv : a.eval (.tmp sp.x) = .slice (some ad) xn xc) (hgi : g[sp.i]? = some ow)
  (hl : l.length = xn) (hone : allB oneS l = true) (hnews : ∀ j u, (l.map (SV.den fun _ => 0))[j]? = some u → w.cell? (ad.add j) = some u)
  (he : ow.e = sp.e) (hsz : ow.size = 1) (hv : (decide (sa = ow.a) && (decide (sn = ow.n) && decide (sc = ow.c))) = true) (hb : ow.n + xn ≤ 140737488355328) (h : GSt W nt s m g f a w) {K : Act → World → Prop} {Q : Exit → Act → World → Prop}
  (hK : ∀ a' c' u w', GSt W nt (putS (some sp.d) (.one (.sl a' (ow.n + xn) c')) s) m (g.set sp.i ⟨sp.e, 1, a', ow.n + xn, c', ow.xs ++ l⟩) f (a.put (some sp.d) u) w' → K (a.put (some sp.d) u) w') : o.wp P a w K Q := by
 unfold rowB' at ho
 simp only [Bool.and_eq_true] at ho
 obtain ⟨⟨⟨h2, h3⟩, h4⟩, h6⟩ := ho
 split at h2 <;> try contradiction
 rename_i d hdst
 split at h3 <;> try contradiction
 rename_i az ts hop
 rw [Bool.and_eq_true] at h3
 obtain ⟨h7, h8⟩ := h3
 split at h7 <;> try contradiction
 rename_i s0 x0 has
 split at h8 <;> try contradiction
 rename_i t0 u0 hts
 split at h4 <;> try contradiction
 rename_i e0 hu1
 split at h6 <;> try contradiction
 rename_i inf hinf
 simp only [Bool.and_eq_true, Nat.beq_eq] at h2 h4 h6 h7 h8
 obtain ⟨⟨hz0, hi1⟩, hi2⟩ := h6
 split at hz0 <;> try contradiction
 rename_i z hz
 rw [Nat.beq_eq] at hz0
 subst h2 h4
 obtain ⟨rfl, rfl⟩ := h7
 obtain ⟨rfl, h9w⟩ := h8
 subst h9w
 have e1 : az = #[.tmp sp.s, .tmp sp.x] := by rw [← Array.toArray_toList (xs := az), has]
 have e2 : ts = #[sp.t, sp.t] := by rw [← Array.toArray_toList (xs := ts), hts]
 subst e1 e2
 have hown := h.gh.own sp.i ow hgi
 unfold Own.rel at hown
 rw [he, hsz] at hown
 have hsv : a.eval (.tmp sp.s) = ow.v := (h.slots sp.s _ hs (by simp)).trans (slV_own hv)
 have h63 : ow.n + xn ≤ maxLen := by unfold maxLen; omega
 obtain ⟨v', w', hr, h10w, h11, _, h12⟩ := run_append_own_at (P := P) w 0 sp.t o.type sp.e inf z 1 1 hu1 hinf hz hi1 hi2 hz0 (by decide) ow.v ow.n ow.vals hown ad xn xc (l.map (SV.den fun _ => 0)) (by rw [List.length_map, hl, Nat.mul_one]) hnews
  (by
   intro u hu
   obtain ⟨v, hv, rfl⟩ := List.mem_map.1 hu
   have := allB_iff hone v hv
   cases v <;> first | rfl | exact absurd this (by simp [oneS])) h63 (by rw [Nat.mul_one]; exact hb) (Nat.zero_le _)
 have hv' : ∃ a' c', v' = .slice a' (ow.n + xn) c' := by
  obtain ⟨_, ⟨rfl, hn0⟩ | ⟨b', cap, cur, rfl, _⟩⟩ := h10w
  · exact ⟨none, 0, by rw [hn0]⟩
  · exact ⟨_, _, rfl⟩
 obtain ⟨a', c', rfl⟩ := hv'
 refine wp_value (w' := w') (v := .slice a' (ow.n + xn) c') ?_ ?_
 · unfold execOp
   simp only [hop, resolve, invoke, builtin, Sem.run_bind, Sem.run_pure, Result.andThen_ok, List.map_toArray, List.map_cons, List.map_nil, hsv, hxv, hr]
 · rw [hdst]
   refine hK a' c' _ w' (h.grown hgi (ow' := ⟨sp.e, 1, a', ow.n + xn, c', ow.xs ++ l⟩) ?_ h11 (fun k hk => ?_) hd rfl)
   · show w'.ownsRow 0 sp.e 1 (.slice a' (ow.n + xn) c') (ow.n + xn) ((ow.xs ++ l).map (SV.den fun _ => 0))
     rw [List.map_append]
     exact h10w
   · rcases h12 with h12 | h12
     · exact .inl (h12 ▸ hk)
     · right
       have : some k = some w.heap.size := hk.symm.trans h12
       simp only [Option.some.injEq] at this
       omega
noncomputable def growB (sp : StrSp) (s : SL) (m : Mem) (g : Gh) : RG := match look s sp.s, look s sp.x, g[sp.i]? with
 | some (.one (.sl a n c)), some (.one (.row b off l _)), some o => match rangeC m.get b off l with
  | some cells => match allB oneS cells && (Nat.beq o.e sp.e && Nat.beq o.size 1) with
   | true => .any fun a' c' => .leaf .nrm (.sym ((decide (a = o.a) && (decide (n = o.n) && decide (c = o.c))) && decide (o.n + l ≤ 140737488355328))) (putS (some sp.d) (.one (.sl a' (o.n + l) c')) s) m (g.set sp.i ⟨sp.e, 1, a', o.n + l, c', o.xs ++ cells.map SV.soft⟩)
   | false => .fail
  | none => .fail
 | _, _, _ => .fail
theorem oneS_soft {v : SV} (h : oneS v = true) : oneS v.soft = true := by cases v <;> first | rfl | exact h
theorem growB_ok {sp : StrSp} {o : Oper} (ho : rowB' P sp o = true) (hd : sp.d < nt) : CallOk W P nt o (growB sp) := by
 intro s m g f a w Q hgood h
 unfold growB at hgood ⊢
 split at hgood <;> try exact hgood.elim
 rename_i sa sn sc b off l cc ow hs hx hgi
 split at hgood <;> try exact hgood.elim
 rename_i cells hcells
 split at hgood <;> try exact hgood.elim
 rename_i hc
 have hg0 := hgood none 0
 simp only [RG.Good, SB.val_sym] at hg0
 rw [Bool.and_eq_true, decide_eq_true_eq] at hg0
 simp only [Bool.and_eq_true, Nat.beq_eq] at hc
 obtain ⟨hlen, hget⟩ := rangeC_get hcells
 refine rowB_wp ho hd (ad := ⟨f b, off, none⟩) (xn := l) (xc := cc) (l := cells.map SV.soft) hs (h.slots sp.x _ hx (by simp)) hgi (by rw [List.length_map, hlen]) ?_ ?_ hc.2.1 hc.2.2 hg0.1 hg0.2 h ?_
 · have key : ∀ l : List SV, allB oneS l = true → allB oneS (l.map SV.soft) = true := by
    intro l
    induction l with
    | nil => intro _; rfl
    | cons v l ih =>
     intro hh
     have h1 : oneS v = true := allB_iff hh v (by simp)
     have h2 : allB oneS l = true := by
      simp only [allB] at hh
      split at hh
      · exact hh
      · cases hh
     simp only [List.map_cons, allB, oneS_soft h1, ih h2]
   exact key cells hc.1
 · intro j u hu
   rw [List.getElem?_map, List.getElem?_map] at hu
   cases hj : cells[j]? with
   | none => rw [hj] at hu; simp at hu
   | some v =>
    rw [hj] at hu
    simp only [Option.map_some, Option.some.injEq] at hu
    subst hu
    have h1 := h.mem.cell b (off + j) v (hget j v hj)
    have h2 : oneS v = true := allB_iff hc.1 v (List.mem_of_getElem? hj)
    rw [show (⟨f b, off, none⟩ : Addr).add j = ⟨f b, off + j, none⟩ by simp [Addr.add], h1, SV.soft_den]
    cases v <;> first | rfl | exact absurd h2 (by simp [oneS])
 · intro a' c' u w' h1
   exact ⟨a', c', rfl, f, h1⟩
theorem strNums_enc (B : ByteArray) : strOfNums (B.data.toList.map fun b => (b.toNat : Int)) = B := by
 obtain ⟨⟨l⟩⟩ := B
 simp [strOfNums, List.map_map, Function.comp_def]
theorem run_conv_own {w : World} {v : Value} {n : Nat} {e : TypeId} {B : ByteArray} (h : w.ownsRow 0 e 1 v n (strCells B)) {src el dst : TypeId} (hs : P.underlying src = some (.slice el)) (he : P.underlying el = some (.int .u8)) (hd : P.underlying dst = some .string) :
  (convert src dst v).run P w = .ok (.string B) w := by
 have hl : B.size = n := by
  have := h.1
  rw [strCells_length, Nat.mul_one] at this
  exact this
 have hc := fun g hg => World.ownsRow.cells h (g := g) hg
 obtain ⟨_, ⟨rfl, hn⟩ | ⟨g, cap, cur, rfl, _⟩⟩ := h
 · rw [run_convert_bytes_nil w src el hs he 0 0 dst hd]
   have : B = ByteArray.empty := by
    obtain ⟨⟨l⟩⟩ := B
    have h0 : l.length = 0 := by
     have : (ByteArray.mk ⟨l⟩).size = l.length := rfl
     omega
    rw [List.length_eq_zero_iff.1 h0]
    rfl
   rw [this]
 · have hx := run_convert_bytes_arg (P := P) w src el hs he g 0 n cap (B.data.toList.map fun b => (b.toNat : Int)) (by rw [List.length_map, Array.length_toList]; exact hl) (fun i hi => by
    have h1 := hc g rfl i (.int .u8 ((B.data.toList.map fun b => (b.toNat : Int)).getD i 0)) ?_
    · rw [Nat.zero_add]
      have hadd : (⟨g, 0, none⟩ : Addr).add i = ⟨g, i, none⟩ := by unfold Addr.add; split <;> simp_all
      rw [hadd] at h1
      exact h1
    · have hlt : i < B.data.toList.length := by rw [Array.length_toList]; show i < B.size; omega
      unfold strCells
      rw [List.getElem?_map, List.getElem?_eq_getElem hlt, List.getD_eq_getElem?_getD, List.getElem?_map, List.getElem?_eq_getElem hlt]
      rfl) dst hd
   rw [hx, strNums_enc]
noncomputable def convS (x d i : Nat) (B : ByteArray) (s : SL) (m : Mem) (g : Gh) : RG := match look s x, g[i]? with
 | some (.one (.sl a n c)), some o => match Nat.beq o.size 1 with
  | true => .leaf .nrm (.sym ((decide (a = o.a) && (decide (n = o.n) && decide (c = o.c))) && @decide (o.xs = encB B) (Classical.propDecidable _))) (putS (some d) (.one (.str B)) s) m g
  | false => .fail
 | _, _ => .fail
def convB (P : Program) (x d : Nat) (o : Oper) : Bool := (match o.dst with | some d' => Nat.beq d' d | none => false) && (match o.op with
 | .convert s t (.tmp x') => Nat.beq x' x && (match P.underlying s with | some (.slice e) => (match P.underlying e with | some (.int .u8) => true | _ => false) | _ => false) && (match P.underlying t with | some .string => true | _ => false)
 | _ => false)
theorem convS_ok {x d i : Nat} {B : ByteArray} {o : Oper} (ho : convB P x d o = true) (hd : d < nt) : CallOk W P nt o (convS x d i B) := by
 intro s m g f a w Q hgood h
 unfold convS at hgood ⊢
 split at hgood <;> try exact hgood.elim
 rename_i sa sn sc ow hx hgi
 split at hgood <;> try exact hgood.elim
 rename_i hsz
 rw [Nat.beq_eq] at hsz
 simp only [RG.Good, SB.val_sym] at hgood
 rw [Bool.and_eq_true] at hgood
 obtain ⟨hv, hB⟩ := hgood
 have hB : ow.xs = encB B := @of_decide_eq_true _ (Classical.propDecidable _) hB
 unfold convB at ho
 rw [Bool.and_eq_true] at ho
 obtain ⟨h1, h2⟩ := ho
 split at h1 <;> try contradiction
 rename_i d' hdst
 split at h2 <;> try contradiction
 rename_i src dst x' hop
 simp only [Bool.and_eq_true, Nat.beq_eq] at h2 h1
 obtain ⟨⟨rfl, h3⟩, h4⟩ := h2
 subst h1
 split at h3 <;> try contradiction
 rename_i el hs
 split at h3 <;> try contradiction
 rename_i he
 split at h4 <;> try contradiction
 rename_i ht
 have hsv : a.eval (.tmp x') = ow.v := (h.slots x' _ hx (by simp)).trans (slV_own hv)
 have hown := h.gh.own i ow hgi
 unfold Own.rel Own.vals at hown
 rw [hsz, hB, encB_vals] at hown
 refine wp_value (w' := w) (v := .string B) ?_ ?_
 · unfold execOp
   simp only [hop, hsv, run_conv_own hown hs he ht, Sem.run_bind, Result.andThen_ok, Sem.run_pure]
 · rw [hdst]
   exact ⟨rfl, f, ⟨by simp [Act.put, h.size], by simp [Act.put, h.defers], h.slots.put h.size (by simp [dstOk, Nat.blt]; omega) (.inr rfl), h.mem, h.base, h.fr, h.pin, h.gh⟩⟩
structure GrowC (P : Program) (g : FuncId) (xs : List Value) (l : List SV) : Prop where
 fn : ∃ fn, P.funcs[g]? = some fn ∧ (fn.name == "runtime.NumGoroutine") = false ∧ fn.body.isNone = false
 ok : ∀ (w : World) (o : Own), o.e = 5 → o.size = 1 → o.rel 0 w → o.n + l.length ≤ 4000000000 → Calls P g (o.v :: xs).toArray w fun en w' => ∃ a' c', en = .returned (.slice a' (o.n + l.length) c') ∧
  Own.rel 0 w' ⟨5, 1, a', o.n + l.length, c', o.xs ++ l⟩ ∧ w.grownBy w' o.v.ownBlock ∧ ∀ k, (Value.slice a' (o.n + l.length) c').ownBlock = some k → o.v.ownBlock = some k ∨ w.heap.size ≤ k
theorem growC_wp {o : Oper} {ys : List Operand} {gf : FuncId} {i d : Nat} {x : TV} {l : List SV} {ow : Own} (hc : callOf o = some (.func gf, ys)) (hdst : o.dst = some d) (hd : d < nt) (hl : evalList (look s) ys = some [.one (.sl ow.a ow.n ow.c), x]) (hC : GrowC P gf [x.den f] l) (hgi : g[i]? = some ow)
  (he : ow.e = 5) (hsz : ow.size = 1) (hb : ow.n + l.length ≤ 4000000000) (h : GSt W nt s m g f a w) {K : Act → World → Prop} {Q : Exit → Act → World → Prop}
  (hK : ∀ a' c' u w', GSt W nt (putS (some d) (.one (.sl a' (ow.n + l.length) c')) s) m (g.set i ⟨5, 1, a', ow.n + l.length, c', ow.xs ++ l⟩) f (a.put (some d) u) w' → K (a.put (some d) u) w') : o.wp P a w K Q := by
 refine call_wp hc h.slots rfl hl hC.fn (hC.ok w ow he hsz (h.gh.own i ow hgi) hb) ?_
 rintro en w' ⟨a', c', rfl, h1, h2, h3⟩
 refine ⟨_, rfl, ?_⟩
 rw [hdst]
 exact hK a' c' _ w' (h.grown hgi (ow' := ⟨5, 1, a', ow.n + l.length, c', ow.xs ++ l⟩) h1 h2 h3 hd rfl)
structure AllW (r : RG) (Φ : Ex → SB → SL → Mem → Gh → Prop) : Prop where
 h : r.All Φ
def gaW (a : Option Addr) (n : Nat) : RG → RG
 | .any k => k a n
 | r => r
theorem gaW_all {r : RG} {Φ : Ex → SB → SL → Mem → Gh → Prop} (h : r = .any fun a n => gaW a n r) (hh : ∀ a n, AllW (gaW a n r) Φ) : AllW r Φ := by
 have h1 : (RG.any fun a n => gaW a n r).All Φ := fun a n => (hh a n).h
 rw [← h] at h1
 exact ⟨h1⟩
def retOf (P : Program) (rs : List ResultVar) : RG → Option (SB × TV × Gh)
 | .leaf e vc s m g => match (match e with | .nrm => true | .ret => true | _ => false) with
  | true => match resultsS P (look s) m rs with
   | some ps => match resultV ps with
    | some v => some (vc, v, g)
    | none => none
   | none => none
  | false => none
 | _ => none
theorem retOf_all {P : Program} {rs : List ResultVar} {r : RG} {c : SB} {v : TV} {g : Gh} (h : retOf P rs r = some (c, v, g)) (hc : c.val = true) {R : TV → Mem → Gh → Prop} (hR : ∀ m, R v m g) :
  AllW r fun e vc s m g => vc.val = true ∧ (e = .nrm ∨ e = .ret) ∧ ∃ ps v, resultsS P (look s) m rs = some ps ∧ resultV ps = some v ∧ R v m g := by
 constructor
 cases r with
 | leaf e vc s m g' =>
  simp only [retOf] at h
  split at h <;> try contradiction
  rename_i he
  split at h <;> try contradiction
  rename_i ps hps
  split at h <;> try contradiction
  rename_i v' hv
  simp only [Option.some.injEq, Prod.mk.injEq] at h
  obtain ⟨rfl, rfl, rfl⟩ := h
  refine ⟨hc, ?_, ps, _, hps, hv, hR m⟩
  cases e with
  | nrm => exact .inl rfl
  | ret => exact .inr rfl
  | exit i => cases he
  | res v => cases he
 | fail => cases h
 | br _ _ _ => cases h
 | any _ => cases h
 | pick _ _ => cases h
structure HGW (W : Bs) (P : Program) (nt : Nat) (t : HG) (c : Code) : Prop where
 h : HGOk W P nt t c
theorem hgW_ok {t : HG} {c : Code} (h : hgB P nt t c = true) : HGW W P nt t c := ⟨hgB_ok t c h⟩
def holeO (w : World) (o : Own) : World := match o.v.ownBlock with
 | none => w
 | some k => hole w k
theorem holeO_base (w : World) (o : Own) : Base (holeO w o) w fun k => o.v.ownBlock = some k := by
 unfold holeO
 split
 · rename_i h
   exact ⟨Old.refl w, fun i hi => by rw [h] at hi; cases hi⟩
 · rename_i k h
   refine ⟨hole_old w k, fun i hi => ?_⟩
   rw [h] at hi
   simp only [Option.some.injEq] at hi
   subst hi
   exact hole_free w _
def Bs.own (w : World) (o : Own) : Bs := ⟨holeO w o, w, fun k => o.v.ownBlock = some k, holeO_base w o, none⟩
theorem grownBy_of {w w' : World} {o : Own} (h : Fr (Bs.own w o).W (Bs.own w o).w0 (Bs.own w o).X w') : w.grownBy w' o.v.ownBlock :=
 ⟨h.os, h.tape, h.output, h.size, fun k hk hne => h.same k hk fun hh => hne hh.symm⟩
theorem calls_of_runO {w : World} {o : Own} (hG : GOk (holeO w o) P G) {n : Nat} {gf : FuncId} {fn : Func} {c : Code} (hfn : P.funcs[gf]? = some fn) (hc : fn.body = some c) {t : HG} (ht : HGW (Bs.own w o) P fn.ntmps t c) {args : List TV} (hle : args.length ≤ fn.ntmps) (ho : o.rel 0 w) {R : TV → Mem → Gh → Prop}
  {r : RG} (hr : runG P (holeO w o) G n fn.ntmps t c (argSlots 0 args) noMem [o] = r)
  (hresW : AllW r fun e vc s m g => vc.val = true ∧ (e = .nrm ∨ e = .ret) ∧ ∃ ps v, resultsS P (look s) m fn.results.toList = some ps ∧ resultV ps = some v ∧ R v m g) :
  Calls P gf (args.map (TV.den fun _ => 0)).toArray w fun en w' => ∃ v m g f, R v m g ∧ en = .returned (v.den f) ∧ (∀ (q : Nat) (p : Own), g[q]? = some p → p.rel 0 w' ∧ ∀ k, p.v.ownBlock = some k → o.v.ownBlock = some k ∨ w.heap.size ≤ k) ∧ w.grownBy w' o.v.ownBlock := by
 subst hr
 have hres := hresW.h
 have hm : MOk w (fun _ => False) (fun _ => 0) noMem w := by
  refine ⟨?_, ?_, ?_, ?_, ?_, ?_⟩ <;> intro b <;> simp [noMem, look, Mem.get, findC]
 have hf : Fr (holeO w o) w (fun _ => False) w := ⟨rfl, rfl, rfl, Nat.le_refl _, fun _ _ _ => rfl, (holeO_base w o).old.base⟩
 have hrel := fn_rel (nt := fn.ntmps) hle hm hf
 have hst : GSt (Bs.own w o) fn.ntmps (argSlots 0 args) noMem [o] (fun _ => 0) { tmps := (args.map (TV.den fun _ => 0)).toArray ++ Array.replicate (fn.ntmps - (args.map (TV.den fun _ => 0)).toArray.size) undef, defers := [] } w := by
  have hq : ∀ (q : Nat) (p : Own), ([o] : List Own)[q]? = some p → p = o := by
   intro q p hp
   cases q with
   | zero => simpa using hp.symm
   | succ q => simp at hp
  refine ⟨hrel.size, hrel.defers, hrel.slots, ?_, fun b j hj => by simp [noMem, look] at hj, ⟨rfl, rfl, rfl, Nat.le_refl _, fun _ _ _ => rfl, holeO_base w o⟩, fun i hi => (by cases hi), ?_, ?_, ?_, ?_⟩
  · refine ⟨?_, ?_, ?_, ?_, ?_, ?_⟩ <;> intro b <;> simp [noMem, look, Mem.get, findC]
  · intro q p hp
    rw [hq q p hp]
    exact ho
  · intro q p hp k hk
    rw [hq q p hp] at hk
    exact .inr hk
  · intro q p hp k hk b j hj
    simp [noMem, look] at hj
  · intro q q' p p' hp hp' hne
    have h1 := (List.getElem?_eq_some_iff.1 hp).1
    have h2 := (List.getElem?_eq_some_iff.1 hp').1
    simp only [List.length_singleton] at h1 h2
    omega
 have hgd := RG.All.good (fun _ _ _ _ _ h => h.1) hres
 refine calls_of_wp hfn hc (wp_mono (runG_sound (W := Bs.own w o) hG t c _ _ _ _ _ w ht.h hgd hst) ?_)
 intro e a1 w1 hp
 obtain ⟨ex, vc, s, m, gh, ⟨_, hexx, ps, v, hps, hv, hR⟩, hex, f2, hst2⟩ := RG.All.meet hres hp
 obtain ⟨h1, h2⟩ := results_run (P := P) hst2.slots hst2.mem.cell hps hv
 have fin : a1.defers = [] ∧ ∃ u, (results fn a1.tmps).run P w1 = .ok u w1 ∧ ∃ v m g f, R v m g ∧ Ending.returned u = .returned (v.den f) ∧ (∀ (q : Nat) (p : Own), g[q]? = some p → p.rel 0 w1 ∧ ∀ k, p.v.ownBlock = some k → o.v.ownBlock = some k ∨ w.heap.size ≤ k) ∧ w.grownBy w1 o.v.ownBlock :=
  ⟨hst2.defers, _, h1, v, m, gh, f2, hR, rfl, fun q p hp => ⟨hst2.gh.own q p hp, fun k hk => (hst2.gh.at_ q p hp k hk).symm⟩, grownBy_of hst2.fr⟩
 rcases hexx with rfl | rfl
 · simp only [exOf, Option.some.injEq] at hex
   subst hex
   exact fin
 · simp only [exOf, Option.some.injEq] at hex
   subst hex
   exact fin
def HoldS (W : Bs) (m : Mem) (f : Nat → Nat) (w : World) : Prop := CRel f m.get w ∧ KRel f (look m.blks) w ∧ Old W.W w
theorem GSt.hold (h : GSt W nt s m g f a w) : HoldS W m f w := ⟨h.mem.cell, h.mem.blk, h.old⟩
def oneT : TV → Bool
 | .one _ => true
 | .agg _ => true
 | _ => false
theorem oneT_ne {v : TV} (h : oneT v = true) : v ≠ .un ∧ ∀ f, v.den f ≠ undef := by
 cases v with
 | one v => exact ⟨by simp, fun f => by cases v <;> simp [TV.den, SV.den, undef]⟩
 | agg l => exact ⟨by simp, fun f => by simp [TV.den, undef]⟩
 | un => cases h
 | ud => cases h
 | tup _ => cases h
def takes (P : Program) (W : World) (nt : Nat) (ops : Array Oper) (m : Mem) : List Nat → Array Bool → SL → Option (Array Bool × SL)
 | [], l, s => some (l, s)
 | i :: r, l, s => match ops.toList[i]? with
  | some o => match o.dst, (match guardS ops (look s) o with | .yes => true | _ => false) with
   | some d, true => match (prim P W o 0 (look s) m.get (look m.blks)).get with
    | some ⟨.lit true, v, [], none⟩ => match oneT v && (Nat.blt d nt && ((Region.free .any ops l i) && (Region.ready .any ops l).contains i)) with
     | true => takes P W nt ops m r (l.setIfInBounds i true) (putS (some d) v s)
     | false => none
    | _ => none
   | _, _ => none
  | none => none
theorem gpost_panic {r : RG} {c : List PanicEntry} : ¬ GPost W nt r (.panic c) a w := by
 intro h
 have key : ∀ r : RG, ¬ r.Is fun ex s m g => exOf ex = some (.panic c) ∧ ∃ f, GSt W nt s m g f a w := by
  intro r
  induction r with
  | fail => exact fun h => h
  | leaf e vc s m g => rintro ⟨h, _⟩; cases e <;> simp [exOf] at h
  | br b x y ihx ihy =>
   intro h
   cases b
   · exact ihy (h.2 rfl)
   · exact ihx (h.1 rfl)
  | any k ih => rintro ⟨a, n, h⟩; exact ih a n h
  | pick x k ih => rintro ⟨y, h⟩; exact ih y h
 exact key r h
theorem takes_ok {ops : Array Oper} (hs : Region.noSelect ops = true) {Q : Exit → Act → World → Prop} (hQ : ∀ c a w, ¬ Q (.panic c) a w) : ∀ {L : List Nat} {l l' : Array Bool} {s s' : SL} {a : Act} {w : World}, takes P W.W nt ops m L l s = some (l', s') → GSt W nt s m g f a w → ∀ {fuel : Nat},
  (∀ a', GSt W nt s' m g f a' w → wpAnyH P .any ops Q (HoldS W m f) fuel l' a' w) → wpAnyH P .any ops Q (HoldS W m f) (fuel + L.length) l a w
 | [], l, l', s, s', a, w, h, hg, fuel, hn => by
  simp only [takes, Option.some.injEq, Prod.mk.injEq] at h
  obtain ⟨rfl, rfl⟩ := h
  exact hn a hg
 | i :: r, l, l', s, s', a, w, h, hg, fuel, hn => by
  simp only [takes] at h
  split at h <;> try contradiction
  rename_i o ho
  split at h <;> try contradiction
  rename_i d hdst hgd
  split at hgd <;> try contradiction
  rename_i hgy
  split at h <;> try contradiction
  rename_i v hprim
  split at h <;> try contradiction
  rename_i hc
  simp only [Bool.and_eq_true] at hc
  obtain ⟨hv, hdn, hfr, hrd⟩ := hc
  obtain ⟨hv1, hv2⟩ := oneT_ne hv
  have ho' : ops[i]? = some o := by rw [← Array.getElem?_toList]; exact ho
  have hrun : ∀ w', HoldS W m f w' → (execOp a.eval o).run P w' = .ok (.value (v.den f)) w' := by
   intro w' ⟨h1, h2, h3⟩
   obtain ⟨x, u, h4, h5, h6, _, _⟩ := prim_sound (nid := 0) hprim rfl hg.slots h1 h2 h3
   have hu : u = v.den f := by
    rcases h6 with h6 | h6
    · exact absurd h6 hv1
    · exact h6
   subst hu
   rcases h5 with rfl | ⟨_, h5⟩
   · exact h4
   · exact absurd h5 (hv2 f)
  rw [List.length_cons, ← Nat.add_assoc]
  refine wpAnyH_take (v := v.den f) ho' hs hfr hrd (fun c a w hq => absurd hq (hQ _ _ _)) (.inl ⟨guard_yes hg.slots hgy, hrun⟩) hg.hold ?_
  rw [hdst]
  refine takes_ok hs hQ h ⟨by simp [Act.put, hg.size], by simp [Act.put, hg.defers], hg.slots.put hg.size (by simp [dstOk, hdn]) (.inr rfl), hg.mem, hg.base, hg.fr, hg.pin, hg.gh⟩ hn
theorem held_op {ops : Array Oper} {Q : Exit → Act → World → Prop} {S : World → Prop} {fuel i : Nat} {l : Array Bool} {o : Oper} (ho : ops.toList[i]? = some o) (hr : Region.ready .any ops l = [i]) (hw : Region.wanted o (yielded ops a.tmps) = true)
  (h : o.wp P a w (fun a' w' => S w' ∧ wpAnyH P .any ops Q S fuel (l.setIfInBounds i true) a' w') Q) : wpAnyH P .any ops Q S (fuel + 1) l a w := by
 refine wpAnyH_all hr (by simp) ?_
 intro j hj
 rw [List.mem_singleton] at hj
 subst hj
 unfold wpOp
 have ho' : ops[j]? = some o := by rw [← Array.getElem?_toList]; exact ho
 simp only [ho', hw, if_true]
 exact .inl h
theorem wanted_none {ops : Array Oper} {o : Oper} (h : o.guard = none) : Region.wanted o (yielded ops a.tmps) = true := by simp only [Region.wanted, h]
noncomputable def custK (ks bs : List (Nat × Bool)) (N : Nat) (E : SL → List (Nat × BI) → Gh → RG) (s : SL) (m : Mem) (g : Gh) : RG :=
 match Nat.beq m.next N && allB (fun p => Nat.blt p.1 N) bs with
 | true => match pickB m bs with
  | some Bl => E (pickS (look s) ks) Bl g
  | none => .fail
 | false => .fail
theorem custK_ok {c : Code} {ks bs : List (Nat × Bool)} {N : Nat} {E : SL → List (Nat × BI) → Gh → RG} (h : ∀ (S : SL) (Bl : List (Nat × BI)) (g : Gh) (f : Nat → Nat) (a : Act) (w : World), (E S Bl g).Good → GSt W nt S ⟨[], Bl, N⟩ g f a w → c.wp P (GPost W nt (E S Bl g)) a w) : CustOk W P nt c (custK ks bs N E) := by
 intro s m g f a w hg hst
 unfold custK at hg ⊢
 split at hg <;> try exact hg.elim
 rename_i hb
 simp only [Bool.and_eq_true, Nat.beq_eq] at hb
 split at hg <;> try exact hg.elim
 rename_i Bl hB
 exact h _ Bl g f a w hg (hst.pick hB hb.2 (fun i hi => hb.1 ▸ (hst.pin i hi).2) ks)
theorem HoldS.alloc {o : Obj} (h : HoldS W m f w) : HoldS W m f (w.alloc o) := by
 obtain ⟨h1, h2, h3⟩ := h
 refine ⟨fun b p v hv => ?_, fun b i hi => ?_, ⟨fun {a v} hc => ?_⟩⟩
 · have h4 := h1 b p v hv
   rw [World.cell?_of_block (heap_alloc_old (cell_lt h4))]
   exact h4
 · obtain ⟨arr, h4, h5⟩ := h2 b i hi
   exact ⟨arr, (heap_alloc_old (lt_of_blk h4)).trans h4, h5⟩
 · have h4 := h3.cell hc
   rw [World.cell?_of_block (heap_alloc_old (cell_lt h4))]
   exact h4
theorem GSt.drew' (h : GSt W nt s m g f a w) : GSt W nt s m g f a { w with drawn := w.drawn + 1 } :=
 ⟨h.size, h.defers, h.slots, ⟨h.mem.blk, h.mem.cell, h.mem.known, h.mem.inj, h.mem.own, h.mem.lt⟩, h.base, ⟨h.fr.os, h.fr.tape, h.fr.output, h.fr.size, h.fr.same, h.fr.base⟩, h.pin, ⟨h.gh.own, h.gh.at_, h.gh.off, h.gh.two⟩⟩
theorem GSt.fewer (h : GSt W nt s m g f a w) {s' : SL} (hs : ∀ t v, look s' t = some v → look s t = some v) : GSt W nt s' m g f a w :=
 ⟨h.size, h.defers, fun t v hv => h.slots t v (hs t v hv), h.mem, h.base, h.fr, h.pin, h.gh⟩
end
end Go.Sx
namespace Go.Proofs.YtjmnolhkkpaodaaGreatDoor
open Go Go.Sx Go.RowKit
set_option maxRecDepth 100000
def hexL (x : Int) : List SV := [.int .u8 (.sym (byteAt digs (gshr .u8 x 4))), .int .u8 (.sym (byteAt digs (bits .and .u8 x 15)))]
def t43 : HG := .seq .plain (.seq (.gap ⟨8, 5, 12, 13, 30, 5, 1, 1, 0⟩) .plain)
noncomputable def r43 (W : World) (a : Option Addr) (n c : Nat) (xs : List SV) (x : Int) : RG := runG Tryz.prog W [] 100000 14 t43 (bodyOf Tryz.f43) (argSlots 0 [.one (.sl a n c), .one (.int .u8 (.sym x))]) noMem [⟨5, 1, a, n, c, xs⟩]
def c43 (a : Option Addr) (n c : Nat) (x : Int) : Bool := (inStr digs (gshr .u8 x 4) && inStr digs (bits .and .u8 x 15)) && ((decide (a = a) && (decide (n = n) && decide (c = c))) && (decide (n + 2 ≤ maxLen) && decide ((n + 2) * 1 ≤ 140737488355328)))
theorem r43_a (W : World) (a : Option Addr) (n c : Nat) (xs : List SV) (x : Int) : r43 W a n c xs x = .any fun a' c' => gaW a' c' (r43 W a n c xs x) := by kernel_rfl
theorem r43_b (W : World) (a : Option Addr) (n c : Nat) (xs : List SV) (x : Int) (a' : Option Addr) (c' : Nat) : retOf Tryz.prog Tryz.f43.results.toList (gaW a' c' (r43 W a n c xs x)) = some (.sym (c43 a n c x), .one (.sl a' (n + 2) c'), [⟨5, 1, a', n + 2, c', xs ++ hexL x⟩]) := by kernel_rfl
theorem u8_shr4 (x : Int) : gshr .u8 x 4 = x / 16 := Int.fdiv_eq_ediv_of_nonneg _ (by decide)
theorem u8_and15 (x : Int) : bits .and .u8 x 15 = x % 16 := and_mask .u8 4 (by decide) x
theorem c43_true {a : Option Addr} {n c : Nat} {x : Int} (hx : 0 ≤ x ∧ x ≤ 255) (hn : n + 2 ≤ 4000000000) : c43 a n c x = true := by
 unfold c43 inStr
 rw [u8_shr4, u8_and15, digs_size, decide_eq_true (rfl : a = a), decide_eq_true (rfl : n = n), decide_eq_true (rfl : c = c), decide_eq_true (show n + 2 ≤ maxLen by unfold maxLen; omega), decide_eq_true (show (n + 2) * 1 ≤ 140737488355328 by omega),
  decide_eq_true (show 0 ≤ x / 16 by omega), decide_eq_true (show 0 ≤ x % 16 by omega), decide_eq_true (show x / 16 < ((16 : Nat) : Int) by omega), decide_eq_true (show x % 16 < ((16 : Nat) : Int) by omega)]
 rfl
theorem hg43 (W : Bs) : HGW W Tryz.prog 14 t43 (bodyOf Tryz.f43) := hgW_ok (by kernel_rfl)
theorem run43 (W : World) (a : Option Addr) (n c : Nat) (xs : List SV) (x : Int) : runG Tryz.prog W [] 100000 Tryz.f43.ntmps t43 (bodyOf Tryz.f43) (argSlots 0 [.one (.sl a n c), .one (.int .u8 (.sym x))]) noMem [⟨5, 1, a, n, c, xs⟩] = r43 W a n c xs x := by kernel_rfl
theorem hex_grow {x : Int} (hx : 0 ≤ x ∧ x ≤ 255) : GrowC Tryz.prog 43 [.int .u8 x] (hexL x) := by
 refine ⟨⟨Tryz.f43, Tryz.func43, by kernel_rfl, by kernel_rfl⟩, ?_⟩
 intro w o he hs ho hb
 obtain ⟨e, size, a, n, c, xs⟩ := o
 simp only at he hs
 subst he hs
 have hn : Tryz.f43.ntmps = 14 := by kernel_rfl
 have hall : AllW (r43 (holeO w ⟨5, 1, a, n, c, xs⟩) a n c xs x) fun e vc s m g => vc.val = true ∧ (e = .nrm ∨ e = .ret) ∧ ∃ ps v, resultsS Tryz.prog (Sx.look s) m Tryz.f43.results.toList = some ps ∧ resultV ps = some v ∧ ∃ a' c', v = .one (.sl a' (n + 2) c') ∧ g = [⟨5, 1, a', n + 2, c', xs ++ hexL x⟩] :=
  gaW_all (r43_a _ a n c xs x) fun a' c' => retOf_all (R := fun v _ g => ∃ a' c', v = .one (.sl a' (n + 2) c') ∧ g = [⟨5, 1, a', n + 2, c', xs ++ hexL x⟩]) (r43_b _ a n c xs x a' c') (by rw [SB.val_sym]; exact c43_true hx hb) (fun _ => ⟨a', c', rfl, rfl⟩)
 refine (calls_of_runO (w := w) (o := ⟨5, 1, a, n, c, xs⟩) (gok_nil _) (n := 100000) (gf := 43) Tryz.func43 (show Tryz.f43.body = some (bodyOf Tryz.f43) by kernel_rfl) (t := t43) (by rw [hn]; exact hg43 _) (args := [.one (.sl a n c), .one (.int .u8 (.sym x))]) (by rw [hn]; simp) ho (r := r43 (holeO w ⟨5, 1, a, n, c, xs⟩) a n c xs x) (run43 _ a n c xs x)
  (R := fun v _ g => ∃ a' c', v = .one (.sl a' (n + 2) c') ∧ g = [⟨5, 1, a', n + 2, c', xs ++ hexL x⟩]) hall).mono ?_
 rintro en w' ⟨v, m, g, f, ⟨a', c', rfl, rfl⟩, rfl, hg, hgr⟩
 obtain ⟨h1, h2⟩ := hg 0 _ rfl
 exact ⟨a', c', rfl, h1, hgr, h2⟩
end Go.Proofs.YtjmnolhkkpaodaaGreatDoor
