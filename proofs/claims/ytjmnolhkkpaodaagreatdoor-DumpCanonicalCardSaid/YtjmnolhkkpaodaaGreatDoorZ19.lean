/- A part of the proof: the reference is safe, both packages write and read alike. Several texts in one; printed by slim28.py out of the texts of wip. -/
import Derived.Test.YtjmnolhkkpaodaaGreatDoorZ18
set_option linter.all false
namespace Go.Ty
open Go Go.Sx
section
variable {E : Env} {G : Nat → Option Con} {p : Par} {κ κ' κ0 : Ctx} {st st' : St} {all : Array Oper} {inf : List TI} {es : List DE} {S0 : SB'} {w0 : World} {a a0 : Act} {w w00 : World} {sel : Nat → Bool}
theorem look_dstL {t : Nat} : ∀ {es : List DE}, (∀ v, Sx.look (dstL es) t = some v → ∃ x ∈ es, x.o.dst = some t ∧ v = x.e.av) ∧ (Sx.look (dstL es) t = none → ∀ x ∈ es, x.o.dst ≠ some t)
 | [] => ⟨by simp [dstL, Sx.look], by simp⟩
 | x :: r => by
  obtain ⟨h1, h2⟩ := look_dstL (t := t) (es := r)
  simp only [dstL, putA]
  cases hd : x.o.dst with
  | none =>
   refine ⟨fun v hv => ?_, fun hn y hy => ?_⟩
   · obtain ⟨y, k1, k2⟩ := h1 v hv
     exact ⟨y, by simp [k1], k2⟩
   · rcases List.mem_cons.1 hy with rfl | hy
     · rw [hd]; simp
     · exact h2 hn y hy
  | some d =>
   simp only [look_cons]
   refine ⟨fun v hv => ?_, fun hn y hy => ?_⟩
   · split at hv
     · rename_i hdt
       simp only [Option.some.injEq] at hv
       exact ⟨x, by simp, by rw [hd, hdt], hv.symm⟩
     · obtain ⟨y, k1, k2⟩ := h1 v hv
       exact ⟨y, by simp [k1], k2⟩
   · split at hn <;> try contradiction
     rename_i hdt
     rcases List.mem_cons.1 hy with rfl | hy
     · rw [hd]; simpa using hdt
     · exact h2 hn y hy
theorem look_idsA {k : Nat} {b : Bd} : ∀ {es : List DE}, Sx.look (idsA es) k = some b → ∃ x ∈ es, x.I.n ≤ k ∧ x.e.new[k - x.I.n]? = some b
 | [], h => by simp [idsA, Sx.look] at h
 | x :: r, h => by
  simp only [idsA] at h
  rw [look_append, look_numB] at h
  split at h
  · rename_i b' hb
    simp only [Option.some.injEq] at h
    subst h
    split at hb
    · rename_i hle; exact ⟨x, by simp, hle, hb⟩
    · contradiction
  · obtain ⟨y, h1, h2⟩ := look_idsA h
    exact ⟨y, by simp [h1], h2⟩
theorem ltsA_mem {z : Nat × Nat} : ∀ {es : List DE}, z ∈ ltsA es → ∃ x ∈ es, z ∈ x.e.lts
 | [], h => by simp [ltsA] at h
 | x :: r, h => by
  simp only [ltsA] at h
  rcases List.mem_append.1 h with h | h
  · exact ⟨x, by simp, h⟩
  · obtain ⟨y, h1, h2⟩ := ltsA_mem h
    exact ⟨y, by simp [h1], h2⟩
theorem newA_mem {q : Nat} : ∀ {es : List DE}, q ∈ newA es ↔ ∃ x ∈ es, x.e.nb ≠ none ∧ q = x.I.n
 | [] => by simp [newA]
 | x :: r => by
  have ih := newA_mem (q := q) (es := r)
  simp only [newA]
  cases hb : x.e.nb with
  | none =>
   simp only
   rw [ih]
   constructor
   · rintro ⟨y, h1, h2⟩; exact ⟨y, by simp [h1], h2⟩
   · rintro ⟨y, h1, h2, h3⟩
     rcases List.mem_cons.1 h1 with rfl | h1
     · exact absurd hb h2
     · exact ⟨y, h1, h2, h3⟩
  | some z =>
   simp only [List.mem_cons]
   rw [ih]
   constructor
   · rintro (h | ⟨y, h1, h2⟩)
     · exact ⟨x, .inl rfl, by rw [hb]; simp, h⟩
     · exact ⟨y, .inr h1, h2⟩
   · rintro ⟨y, h1, h2, h3⟩
     rcases h1 with rfl | h1
     · exact .inl h3
     · exact .inr ⟨y, h1, h2, h3⟩
theorem memC_mem {x : DE} {z : Nat × TypeId × List AC} : ∀ {l : List (Nat × TypeId × List AC)}, z ∈ memC inf x l → z ∈ l ∧ tchAll z.1 z.2.1 (fun k => Nat.beq k x.ix || memN k x.dp) 0 inf = true
 | [], h => by simp [memC] at h
 | (q, t, c) :: l, h => by
  simp only [memC] at h
  split at h
  · rename_i hc
    rcases List.mem_cons.1 h with rfl | h
    · exact ⟨by simp, hc⟩
    · obtain ⟨h1, h2⟩ := memC_mem h
      exact ⟨by simp [h1], h2⟩
  · obtain ⟨h1, h2⟩ := memC_mem h
    exact ⟨by simp [h1], h2⟩
theorem memE_mem {z : Nat × TypeId × List AC} : ∀ {es : List DE}, z ∈ memE inf es → ∃ x ∈ es, z ∈ x.content ∧ tchAll z.1 z.2.1 (fun k => Nat.beq k x.ix || memN k x.dp) 0 inf = true
 | [], h => by simp [memE] at h
 | x :: r, h => by
  simp only [memE] at h
  rcases List.mem_append.1 h with h | h
  · obtain ⟨h1, h2⟩ := memC_mem h
    exact ⟨x, by simp, h1, h2⟩
  · obtain ⟨y, h1, h2⟩ := memE_mem h
    exact ⟨y, by simp [h1], h2⟩
theorem wrsA_mem {z : Nat × TypeId} : ∀ {es : List DE} {x : DE}, x ∈ es → z ∈ x.e.wr → z ∈ wrsA es
 | [], x, hx, _ => by simp at hx
 | y :: r, x, hx, hz => by
  simp only [wrsA, List.mem_append]
  rcases List.mem_cons.1 hx with rfl | hx
  · exact .inl hz
  · exact .inr (wrsA_mem hx hz)
theorem killsA_mem {z : Bool × TypeId} : ∀ {es : List DE} {x : DE}, x ∈ es → z ∈ x.e.kill → z ∈ killsA es
 | [], x, hx, _ => by simp at hx
 | y :: r, x, hx, hz => by
  simp only [killsA, List.mem_append]
  rcases List.mem_cons.1 hx with rfl | hx
  · exact .inl hz
  · exact .inr (killsA_mem hx hz)
theorem draw_end (hrel : Rel E p S0 w0 κ0 st a0 w00) (hlts : LtsOk st) (hT : TR E G st all (dpsGo all.toList []) inf es) (hlen : es.length = all.size) (hil : inf.length = all.size) (hall : ∀ i, i < all.size → sel i = true)
  (hinv : Inv E p S0 w0 st es inf κ0 a0 ((st.A : Int) * p.M + st.K) sel κ a w) : Rel E p S0 w0 κ (finD st inf es) a w ∧ LtsOk (finD st inf es) := by
 have hs : ∀ x ∈ es, sel x.ix = true := fun x hx => hall _ (by have := (hT.lt x hx).1; omega)
 have hge := hT.ge
 have hnew : ∀ q, NewSel es sel q ↔ q ∈ newA es := by
  intro q
  rw [newA_mem]
  exact ⟨fun ⟨x, h1, _, h3⟩ => ⟨x, h1, h3⟩, fun ⟨x, h1, h3⟩ => ⟨x, h1, hs x h1, h3⟩⟩
 have newlt : ∀ q ∈ newA es, q < nidOf st es := by
  intro q hq
  obtain ⟨x, h1, h2, rfl⟩ := newA_mem.1 hq
  obtain ⟨r, _, _, h4, _⟩ := hT.mem h1
  cases hb : x.e.nb with
  | none => exact absurd hb h2
  | some z =>
   have h5 := ((eOk h4.ok).nb _ hb).1
   have := (hT.lt x h1).2
   omega
 have pslt : ∀ q, q ∈ newA es ++ st.ps → q < nidOf st es := by
  intro q hq
  rcases List.mem_append.1 hq with h | h
  · exact newlt q h
  · have := (hrel.ps q h).1; omega
 have conv : ∀ q, q ∈ newA es ++ st.ps → q ∈ st.ps ∨ NewSel es sel q := by
  intro q hq
  rcases List.mem_append.1 hq with h | h
  · exact .inr ((hnew q).2 h)
  · exact .inl h
 have conP : ∀ x ∈ es, ∀ z ∈ x.content, z.1 ∈ newA es ++ st.ps ∧ ∀ m, offL (nidOf st es) m z.2.2 := by
  intro x hx z hz
  obtain ⟨r, l, hl, h4, h5⟩ := hT.mem hx
  have hle := (hT.lt x hx).2
  rcases content_mem hz with ⟨⟨t', l'⟩, hq', heq⟩ | hyp
  · subst heq
    obtain ⟨k1, k2⟩ := (eOk h4.ok).nb _ hq'
    exact ⟨List.mem_append_left _ (newA_mem.2 ⟨x, hx, by rw [hq']; simp, rfl⟩), offL_up (ltLs_off k2) hle⟩
  · obtain ⟨k1, k2⟩ := conOkM_mem (eOk h4.ok).pm _ hyp
    refine ⟨?_, offL_up (ltLs_off k2) hle⟩
    rcases List.mem_append.1 k1 with k | k
    · obtain ⟨v, hv, _, hvn, hvq⟩ := newL_mem k
      exact List.mem_append_left _ (newA_mem.2 ⟨v, by rw [hl]; simp [hv], hvn, hvq⟩)
    · exact List.mem_append_right _ k
 have untouched : ∀ q t, Sx.look (wrsA es) q = none → (false, t) ∉ killsA es → ∀ (k : Nat) (ti : TI), inf[k]? = some ti → tch ti q t = false := by
  intro q t h1 h2 k ti hk
  have hkl : k < es.length := by rw [hlen, ← hil]; exact (List.getElem?_eq_some_iff.1 hk).1
  obtain ⟨x, hx, hxk⟩ := hT.at hkl
  obtain ⟨_, _, _, h4, _⟩ := hT.mem hx
  obtain ⟨ti', e1, e2, e3, _⟩ := (eOk h4.ok).inf
  rw [hxk, hk] at e1
  simp only [Option.some.injEq] at e1
  subst e1
  simp only [tch, Bool.or_eq_false_iff]
  constructor
  · cases hh : memK false t ti.kill with
    | false => rfl
    | true => exact absurd (killsA_mem hx (by rw [← e3]; exact memK_iff.1 hh)) h2
  · cases hh : Sx.look ti.wr q with
    | none => rfl
    | some y =>
     obtain ⟨z, hz⟩ := look_mem_of (wrsA_mem hx (by rw [← e2]; exact look_in hh))
     rw [h1] at hz
     cases hz
 have known : ∀ q t l, Sx.look (memE inf es ++ keepM (wrsA es) (killsA es) [] st.mem) q = some (t, l) → κ.S (κ.π q) = some ⟨false, t, 1, 1⟩ ∧ cellsAt p κ w (κ.π q) l ∧ q ∈ newA es ++ st.ps ∧ ∀ m, offL (nidOf st es) m l := by
  intro q t l hq
  rw [look_append] at hq
  split at hq
  · rename_i z hz
    simp only [Option.some.injEq] at hq
    subst hq
    obtain ⟨x, hx, h1, h2⟩ := memE_mem (look_in hz)
    obtain ⟨k1, k2⟩ := hinv.mem x hx (hs x hx) _ h1
    obtain ⟨k3, k4⟩ := conP x hx _ h1
    refine ⟨k1, k2 fun k ti hk _ ht => ?_, k3, k4⟩
    have := tchAll_spec h2 k ti hk ht
    simp only [Nat.zero_add, Bool.or_eq_true, Nat.beq_eq] at this
    exact this.imp id memN_iff.1
  · obtain ⟨_, h1, h2, h3⟩ := look_keepM hq
    have hqp := hrel.mps q _ h1
    have hqn := (hrel.ps q hqp).1
    obtain ⟨h5, _⟩ := hrel.inp.mem q t l h1
    refine ⟨?_, hinv.mem0 q t l h1 fun k ti hk _ => untouched q t h3 h2 k ti hk, List.mem_append_right _ hqp, offL_up (hrel.inp.offM q t l h1).2 hge⟩
    rw [hinv.π q hqn]
    obtain ⟨k, k1, _, k2⟩ := hinv.ext _ _ h5
    rw [k1, k2 rfl]
 have hlt1 : ∀ x ∈ es, ∀ z ∈ x.e.lts, z.1 < nidOf st es ∧ z.2 < nidOf st es := by
  intro x hx z hz
  obtain ⟨r, _, _, h4, _⟩ := hT.mem hx
  have h5 := ltPairs_mem (eOk h4.ok).lts z hz
  have := (hT.lt x hx).2
  omega
 refine ⟨⟨hinv.size, hinv.defers, ⟨?_, ?_, ?_, ?_, ?_, ?_, ?_, ?_, ?_⟩, ?_, ?_, ?_, ?_, ?_, ?_, ?_⟩, ⟨?_⟩⟩
 · rw [hinv.ρ 0 hrel.inp.pos]; exact hrel.inp.zero
 · intro t v hv
   simp only [St.inp, finD] at hv
   rw [look_append] at hv
   split at hv
   · rename_i v' hv'
     simp only [Option.some.injEq] at hv
     subst hv
     obtain ⟨x, h1, h2, rfl⟩ := (look_dstL (es := es)).1 v' hv'
     exact hinv.slots x h1 (hs x h1) t h2
   · rename_i hn
     rw [hinv.base t fun x hx hd => absurd hd ((look_dstL (es := es)).2 hn x hx)]
     exact AV.has_base hinv.ρ hinv.π hinv.ext (hrel.inp.slots t v hv) (hrel.inp.offS t v hv)
 · intro q t l hq
   obtain ⟨h1, h2, _⟩ := known q t l hq
   exact ⟨h1, h2⟩
 · intro k b hb
   simp only [St.inp, finD] at hb
   rw [look_append] at hb
   split at hb
   · rename_i b' hb'
     simp only [Option.some.injEq] at hb
     subst hb
     obtain ⟨x, h1, h2, h3⟩ := look_idsA hb'
     have := hinv.ids x h1 (hs x h1) _ _ h3
     rwa [show x.I.n + (k - x.I.n) = k by omega] at this
   · rw [hinv.ρ k (hrel.inp.offB k b hb)]
     exact hrel.inp.bd k b hb
 · intro i j hij
   simp only [St.inp, finD] at hij
   rcases List.mem_append.1 (memL_mem hij) with h | h
   · obtain ⟨x, h1, h2⟩ := ltsA_mem h
     exact hinv.lts x h1 (hs x h1) _ h2
   · have h1 := hlts.lt _ h
     simp only at h1
     rw [hinv.ρ i h1.1, hinv.ρ j h1.2]
     exact hrel.inp.lts i j (mem_memL h)
 · show 0 < nidOf st es
   have := hrel.inp.pos
   simp only [St.inp] at this
   omega
 · intro t v hv m
   simp only [St.inp, finD] at hv ⊢
   rw [look_append] at hv
   split at hv
   · rename_i v' hv'
     simp only [Option.some.injEq] at hv
     subst hv
     obtain ⟨x, h1, h2, rfl⟩ := (look_dstL (es := es)).1 v' hv'
     obtain ⟨r, _, _, h4, _⟩ := hT.mem h1
     exact AV.off_up (ltV_off (eOk h4.ok).av) (hT.lt x h1).2 m
   · exact AV.off_up (hrel.inp.offS t v hv) hge m
 · intro q t l hq
   obtain ⟨_, _, h3, h4⟩ := known q t l hq
   exact ⟨pslt q h3, h4⟩
 · intro k b hb
   simp only [St.inp, finD] at hb ⊢
   rw [look_append] at hb
   split at hb
   · rename_i b' hb'
     obtain ⟨x, h1, h2, h3⟩ := look_idsA hb'
     have := (List.getElem?_eq_some_iff.1 h3).1
     have := (hT.lt x h1).2
     omega
   · have := hrel.inp.offB k b hb
     simp only [St.inp] at this
     omega
 · have h1 := upSel_upF (sel := sel) hT
   have h2 : upF sel 0 (inf.take es.length) = upAll inf := by
    rw [List.take_of_length_le (by omega)]
    have : ∀ (l : List TI) (k : Nat), k + l.length ≤ all.size → upF sel k l = upAll l := by
     intro l
     induction l with
     | nil => intro k _; rfl
     | cons x r ih =>
      intro k hk
      simp only [List.length_cons] at hk
      simp only [upF, upAll, hall k (by omega), if_true, ih (k + 1) (by omega)]
    exact this inf 0 (by omega)
   have := hinv.wt
   simp only [finD]
   rw [Int.natCast_add, ← Int.add_assoc, ← h2, ← h1]
   exact this
 · intro q q' hq hq' hqq
   exact hinv.inj q q' (conv q hq) (conv q' hq') hqq
 · intro q hq
   exact ⟨pslt q hq, hinv.ps q (conv q hq)⟩
 · intro q x hq
   exact (known q x.1 x.2 hq).2.2.1
 · intro q hq
   simp only [finD] at hq ⊢
   rcases List.mem_append.1 hq with h | h
   · exact newlt q h
   · have := hrel.ownlt q h; omega
 · refine ⟨fun x hx => ?_, fun x hx => ?_⟩
   · obtain ⟨h1, h2⟩ := hrel.pin.1 x hx
     exact ⟨by simp only [finD]; omega, by rw [hinv.π _ h1]; exact h2⟩
   · obtain ⟨h1, h2⟩ := hrel.pin.2 x hx
     exact ⟨by simp only [finD]; omega, by rw [hinv.ρ _ h1]; exact h2⟩
 · have hf := hinv.fr
   refine ⟨hf.os, hf.tape, hf.output, hf.size, hf.ext, hf.newS, hf.same, fun q hq => ?_⟩
   simp only [finD] at hq
   rcases List.mem_append.1 hq.1 with h | h
   · exact hf.own q (.inr ((hnew q).2 h))
   · exact hf.own q (.inl ⟨h, hrel.ownlt q h⟩)
 · intro x hx
   simp only [finD] at hx ⊢
   rcases List.mem_append.1 hx with h | h
   · obtain ⟨y, h1, h2⟩ := ltsA_mem h
     exact hlt1 y h1 x h2
   · have := hlts.lt x h
     omega
theorem upSel_none (h : ∀ i, sel i = false) : ∀ es : List DE, upSel sel es = 0
 | [] => rfl
 | x :: r => by simp [upSel, h x.ix, upSel_none h r]
theorem draw_begin (hrel : Rel E p S0 w0 κ0 st a0 w) (hs : ∀ i, sel i = false) {w' : World} (h1 : w'.heap = w.heap) (h2 : w'.os = w.os) (h3 : w'.tape = w.tape) (h4 : w'.output = w.output) : Inv E p S0 w0 st es inf κ0 a0 ((st.A : Int) * p.M + st.K) sel κ0 a0 w' := by
 have no : ∀ q, NewSel es sel q → False := fun q ⟨x, _, h, _⟩ => by rw [hs] at h; cases h
 have wt : WT p κ0.S ((st.A : Int) * p.M + st.K) w' := by
  have h := hrel.wt
  refine ⟨⟨fun {b v} hc => by rw [← h.old.cell hc]; simp only [World.cell?, h1]⟩, by rw [h1]; exact h.size, fun b x hx => ?_⟩
  obtain ⟨k1, k2, k3, ts, arr, k4, k5, k6, k7⟩ := h.blk b x hx
  exact ⟨k1, k2, k3, ts, arr, k4, k5, by rw [h1]; exact k6, k7⟩
 refine ⟨hrel.size, hrel.defers, fun _ _ => rfl, fun _ _ => rfl, .refl _, fun x _ h => by (rw [hs] at h; cases h), fun _ _ => rfl, fun x _ h => by (rw [hs] at h; cases h), fun x _ h => by (rw [hs] at h; cases h), ?_, ?_, fun x _ h => by (rw [hs] at h; cases h), ?_, ?_, ?_⟩
 · rw [upSel_none hs]
   simpa using wt
 · intro q t l hq _
   obtain ⟨_, arr, tt, k1, k2⟩ := hrel.inp.mem q t l hq
   exact ⟨arr, tt, by rw [h1]; exact k1, k2⟩
 · intro q hq
   rw [h1]
   rcases hq with hq | hq
   · exact (hrel.ps q hq).2
   · exact (no q hq).elim
 · intro q q' hq hq' hqq
   rcases hq with hq | hq
   · rcases hq' with hq' | hq'
     · exact hrel.inj q q' hq hq' hqq
     · exact (no q' hq').elim
   · exact (no q hq).elim
 · have hf := hrel.fr
   refine ⟨h2.trans hf.os, h3.trans hf.tape, h4.trans hf.output, by rw [h1]; exact hf.size, hf.ext, hf.newS, fun b hb hne => by rw [h1]; exact hf.same b hb hne, fun q hq => ?_⟩
   rcases hq with hq | hq
   · exact hf.own q hq
   · exact (no q hq).elim
theorem drw_ok (hE : EnvOk E G p) : DrwOk E p (drw G E) := by
 intro S0 w0 id ops st st' a w hc hD hg
 obtain ⟨κ0, hrel, hlts⟩ := hg
 simp only [Bool.and_eq_true] at hc
 unfold drw at hD
 split at hD <;> try contradiction
 rename_i hedges
 have dTry_ok : ∀ (k : Nat) (inf0 : List TI), dTry E G st ops k inf0 = some st' → ∃ inf es, inf.length = ops.size ∧ dPass E G st ops (dpsGo ops.toList []) inf ops.toList 0 [] = some es ∧ st' = finD st inf es := by
  intro k
  induction k with
  | zero => intro inf0 h; simp [dTry] at h
  | succ k ih =>
   intro inf0 h
   simp only [dTry] at h
   split at h <;> try contradiction
   rename_i inf hinf
   split at h <;> try contradiction
   rename_i hil
   split at h
   · exact ih inf h
   · rename_i es hes
     simp only [Option.some.injEq] at h
     exact ⟨inf, es, Nat.eq_of_beq_eq_true hil, hes, h.symm⟩
 obtain ⟨inf, es, hil, hes, rfl⟩ := dTry_ok _ _ hD
 obtain ⟨hT, hlen⟩ := dPass_ok (pre := []) hes (by simp) rfl rfl trivial
 have hrep : ∀ i, (Array.replicate ops.size false).getD i false = false := by
  intro i
  simp only [Array.getD_eq_getD_getElem?, Array.getElem?_replicate]
  split <;> rfl
 refine wp_region_any hc.1 (any_inv (Inv := fun sel a' w' => ∃ κ, Inv E p S0 w0 st es inf κ0 a ((st.A : Int) * p.M + st.K) sel κ a' w') hedges ?_ ?_ ops.size (List.range ops.size) _ a _ (by simp) List.nodup_range (by simp) ?_ (by simp) ?_ ?_)
 · rintro sel a' w' hall ⟨κ, hinv⟩
   exact ⟨rfl, _, by simp, κ, draw_end hrel hlts hT hlen hil hall hinv⟩
 · rintro sel i o a' w' K ho hoff haf hcl ⟨κ, hinv⟩ hK
   obtain ⟨x, hx, hxi⟩ := hT.at (i := i) (by rw [hlen]; exact (Array.getElem?_eq_some_iff.1 ho).1)
   subst hxi
   obtain ⟨r, _, _, hDF, _⟩ := hT.mem hx
   have hxo := hDF.o
   rw [ho] at hxo
   simp only [Option.some.injEq] at hxo
   subst hxo
   obtain ⟨h1, h2⟩ := draw_step hE hrel hlts hT hlen hx hoff haf hcl hinv
   unfold Go.wpOp
   simp only [ho]
   split at h1
   · rw [if_pos h1.1]
     exact .inl (h1.2 _ _ fun u w1 κ' hout => hK _ _ ⟨κ', h2 u w1 κ' hout⟩)
   · rw [if_neg (by rw [h1.1]; simp)]
     exact hK _ _ ⟨κ, h2 undef w' κ h1.2⟩
   · exact h1.elim
 · intro i hi
   simp [Array.getD_eq_getD_getElem?, hi]
 · intro j o _ e _ _ h
   exact absurd h (by simp only [hrep]; simp)
 · exact ⟨κ0, draw_begin hrel hrep rfl rfl rfl rfl⟩
end
end Go.Ty
