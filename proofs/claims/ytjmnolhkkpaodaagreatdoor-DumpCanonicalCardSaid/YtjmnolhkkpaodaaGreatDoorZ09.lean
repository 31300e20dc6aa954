/- A part of the proof: the reference is safe, both packages write and read alike. Several texts in one; printed by slim28.py out of the texts of wip. -/
import Derived.Test.YtjmnolhkkpaodaaGreatDoorZ08
import Derived.Laws.Closers25b
import Derived.WalkArith
import Derived.Laws.BitsLemmas
set_option linter.all false
namespace Go.Ty
open Go Go.Sx
theorem leI_iff {a b : Int} : leI a b = true ↔ a ≤ b := by simp [leI]
theorem ltI_iff {a b : Int} : ltI a b = true ↔ a < b := by simp [ltI]
theorem eqI_iff {a b : Int} : eqI a b = true ↔ a = b := by simp [eqI]
theorem minI_eq (a b : Int) : minI a b = min a b := by
 unfold minI
 cases h : leI a b
 · have : ¬ a ≤ b := fun hh => by rw [leI_iff.2 hh] at h; cases h
   simp only [cond_false]; omega
 · have := leI_iff.1 h
   simp only [cond_true]; omega
theorem maxI_eq (a b : Int) : maxI a b = max a b := by
 unfold maxI
 cases h : leI a b
 · have : ¬ a ≤ b := fun hh => by rw [leI_iff.2 hh] at h; cases h
   simp only [cond_false]; omega
 · have := leI_iff.1 h
   simp only [cond_true]; omega
theorem klo_min (k : IntKind) : k.min = klo k := by cases k <;> rfl
theorem khi_max (k : IntKind) : k.max = khi k := by cases k <;> rfl
theorem wrap_in (k : IntKind) (n : Int) : klo k ≤ k.wrap n ∧ k.wrap n ≤ khi k := by
 have := wrap_within k n
 rwa [klo_min, khi_max] at this
theorem wrap_fit (k : IntKind) (n : Int) (h : klo k ≤ n ∧ n ≤ khi k) : k.wrap n = n := by
 cases k <;> simp only [klo, khi] at h <;> simp only [IntKind.wrap, IntKind.bits, IntKind.signed] <;> simp <;> omega
section
variable {p : Par} {κ κ' : Ctx} {I : In} {a : Act} {w : World} {mx : Nat}
theorem lob_le (hI : InOk p κ I a w) {i : Nat} {d l : Int} (h : lob I.B i d = some l) : l ≤ κ.ρ i + d := by
 unfold lob at h
 split at h
 · rename_i hi
   have := Nat.eq_of_beq_eq_true hi
   subst this
   simp only [Option.some.injEq] at h
   rw [hI.zero]; omega
 · split at h <;> try contradiction
   rename_i b hb
   simp only [Option.some.injEq] at h
   have := (hI.bd i b hb).1
   omega
theorem upm_le (hI : InOk p κ I a w) {i : Nat} {d : Int} {x : Nat} {h' : Int} (h : upm I.B i d = some (x, h')) : κ.ρ i + d ≤ (x : Int) * p.M + h' := by
 unfold upm at h
 split at h
 · rename_i hi
   have := Nat.eq_of_beq_eq_true hi
   subst this
   simp only [Option.some.injEq, Prod.mk.injEq] at h
   obtain ⟨rfl, rfl⟩ := h
   rw [hI.zero]; simp
 · split at h <;> try contradiction
   rename_i b hb
   simp only [Option.some.injEq, Prod.mk.injEq] at h
   obtain ⟨rfl, rfl⟩ := h
   have := (hI.bd i b hb).2
   omega
theorem upb_le (hI : InOk p κ I a w) (hM : p.M ≤ mx) {i : Nat} {d u : Int} (h : upb I.B mx i d = some u) : κ.ρ i + d ≤ u := by
 unfold upb at h
 split at h
 · rename_i hi
   have := Nat.eq_of_beq_eq_true hi
   subst this
   simp only [Option.some.injEq] at h
   rw [hI.zero]; omega
 · split at h <;> try contradiction
   rename_i b hb
   simp only [Option.some.injEq] at h
   have h1 := (hI.bd i b hb).2
   have h2 : (b.a : Int) * p.M ≤ (b.a : Int) * mx := Int.mul_le_mul_of_nonneg_left (by omega) (by omega)
   omega
theorem rng_le (hI : InOk p κ I a w) (hM : p.M ≤ mx) {i : Nat} {d l u : Int} (h : rng I.B mx i d = some (l, u)) : l ≤ κ.ρ i + d ∧ κ.ρ i + d ≤ u := by
 unfold rng at h
 split at h <;> try contradiction
 rename_i l' hl
 split at h <;> try contradiction
 rename_i u' hu
 simp only [Option.some.injEq, Prod.mk.injEq] at h
 obtain ⟨rfl, rfl⟩ := h
 exact ⟨lob_le hI hl, upb_le hI hM hu⟩
theorem evalB_sound (hI : InOk p κ I a w) (hM : p.M ≤ mx) {b : AB} {x : Bool} (h : evalB I.B mx b = some x) : b.val κ.ρ = x := by
 unfold evalB at h
 split at h
 · simp only [Option.some.injEq] at h
   exact h
 · rename_i c i d j e
   split at h
   · rename_i hij
     have := Nat.eq_of_beq_eq_true hij
     subst this
     simp only [Option.some.injEq] at h
     subst h
     cases c with
     | lt => exact decide_eq_decide.2 (by omega)
     | le => exact decide_eq_decide.2 (by omega)
     | eq => exact decide_eq_decide.2 (by omega)
     | ne => exact congrArg (!·) (decide_eq_decide.2 (by omega))
   · split at h <;> try contradiction
     rename_i l u h1
     split at h <;> try contradiction
     rename_i l' u' h2
     have r1 := rng_le hI hM h1
     have r2 := rng_le hI hM h2
     split at h
     · split at h
       · rename_i hc
         simp only [Option.some.injEq] at h; subst h
         have := ltI_iff.1 hc
         simp only [AB.val, Cmp.on, decide_eq_true_eq]; omega
       · split at h <;> try contradiction
         rename_i hc
         simp only [Option.some.injEq] at h; subst h
         have := leI_iff.1 hc
         simp only [AB.val, Cmp.on, decide_eq_false_iff_not]; omega
     · split at h
       · rename_i hc
         simp only [Option.some.injEq] at h; subst h
         have := leI_iff.1 hc
         simp only [AB.val, Cmp.on, decide_eq_true_eq]; omega
       · split at h <;> try contradiction
         rename_i hc
         simp only [Option.some.injEq] at h; subst h
         have := ltI_iff.1 hc
         simp only [AB.val, Cmp.on, decide_eq_false_iff_not]; omega
     · split at h
       · rename_i hc
         simp only [Option.some.injEq] at h; subst h
         rw [Bool.or_eq_true, ltI_iff, ltI_iff] at hc
         simp only [AB.val, Cmp.on, decide_eq_false_iff_not]; omega
       · split at h <;> try contradiction
         rename_i hc
         simp only [Option.some.injEq] at h; subst h
         simp only [Bool.and_eq_true, eqI_iff] at hc
         simp only [AB.val, Cmp.on, decide_eq_true_eq]; omega
     · split at h
       · rename_i hc
         simp only [Option.some.injEq] at h; subst h
         rw [Bool.or_eq_true, ltI_iff, ltI_iff] at hc
         simp only [AB.val, Cmp.on, Bool.not_eq_true', decide_eq_false_iff_not]; omega
       · split at h <;> try contradiction
         rename_i hc
         simp only [Option.some.injEq] at h; subst h
         simp only [Bool.and_eq_true, eqI_iff] at hc
         simp only [AB.val, Cmp.on, Bool.not_eq_false', decide_eq_true_eq]; omega
theorem fitC_sound (hI : InOk p κ I a w) (hM : p.M ≤ mx) {A K u : Nat} {c : AC} {ct : CT} {v : Value} {L : Int} (h : fitC I.B mx A K c ct = some u) (hv : c.has p.T p.v0 κ v) (hL : (A : Int) * p.M + K + u ≤ L) : ct.has κ.S p.v0 L v := by
 have lin : ∀ {x : Nat} {h' : Int}, Nat.ble x A = true → (h' - K).toNat = u → (x : Int) * p.M + h' ≤ L := by
  intro x h' h1 h2
  have h1 := Nat.le_of_ble_eq_true h1
  have h3 : (x : Int) * p.M ≤ (A : Int) * p.M := Int.mul_le_mul_of_nonneg_right (by omega) (by omega)
  omega
 unfold fitC at h
 split at h
 · rename_i i d
   split at h <;> try contradiction
   rename_i l hl
   split at h <;> try contradiction
   rename_i x h' hu
   split at h <;> try contradiction
   rename_i hc
   simp only [Bool.and_eq_true, leI_iff] at hc
   simp only [Option.some.injEq] at h
   have h1 := lob_le hI hl
   have h2 := upm_le hI hu
   have h3 := lin hc.2 h
   exact ⟨_, hv, by omega, by omega⟩
 · rename_i k i d k' lo hi _
   split at h <;> try contradiction
   rename_i hk
   split at h <;> try contradiction
   rename_i l u' hr
   split at h <;> try contradiction
   rename_i hc
   simp only [Bool.and_eq_true, leI_iff] at hc
   have := rng_le hI hM hr
   have hk := kindEq_eq hk
   subst hk
   exact ⟨_, hv, by omega, by omega⟩
 · exact ⟨_, hv⟩
 · rename_i t i d t'
   split at h <;> try contradiction
   rename_i ht
   split at h <;> try contradiction
   rename_i x h' hu
   split at h <;> try contradiction
   rename_i hc
   simp only [Option.some.injEq] at h
   have ht := Nat.eq_of_beq_eq_true ht
   subst ht
   exact ⟨_, Int.le_trans (upm_le hI hu) (lin hc h), hv⟩
 · simp only [Option.some.injEq] at h
   simp only [AC.has] at hv
   subst hv
   refine ⟨0, ?_, none, 0, 0, rfl, rfl, .inl ⟨rfl, rfl, rfl⟩⟩
   have : 0 ≤ (A : Int) * p.M := Int.mul_nonneg (by omega) (by omega)
   omega
 · exact hv
 · rename_i k k' lo hi
   split at h <;> try contradiction
   rename_i hc
   simp only [Bool.and_eq_true, leI_iff] at hc
   obtain ⟨⟨hk, h1⟩, h2⟩ := hc
   have hk := kindEq_eq hk
   subst hk
   obtain ⟨n, rfl, h3, h4⟩ := hv
   exact ⟨n, rfl, by omega, by omega⟩
 · exact hv
 · contradiction
theorem fitL_sound (hI : InOk p κ I a w) (hM : p.M ≤ mx) {A K : Nat} {L : Int} : ∀ {l : List AC} {ts : List CT} {vs : List Value} {u : Nat}, fitL I.B mx A K l ts = some u → hasL p.T p.v0 κ l vs → (A : Int) * p.M + K + u ≤ L →
  l.length = ts.length ∧ ∀ (o : Nat) (ct : CT), ts[o]? = some ct → ∃ v, vs[o]? = some v ∧ ct.has κ.S p.v0 L v
 | [], [], vs, u, _, _, _ => ⟨rfl, by simp⟩
 | c :: l, t :: ts, v :: vs, u, h, hv, hL => by
  simp only [fitL] at h
  split at h <;> try contradiction
  rename_i u1 h1
  split at h <;> try contradiction
  rename_i u2 h2
  simp only [Option.some.injEq] at h
  subst h
  obtain ⟨hl, hh⟩ := fitL_sound hI hM (L := L) h2 hv.2 (by omega)
  refine ⟨by simp [hl], ?_⟩
  intro o ct ho
  cases o with
  | zero =>
   simp at ho
   subst ho
   exact ⟨v, rfl, fitC_sound hI hM h1 hv.1 (by omega)⟩
  | succ o =>
   simp at ho
   obtain ⟨v', h3, h4⟩ := hh o ct ho
   exact ⟨v', by simpa using h3, h4⟩
 | c :: l, t :: ts, [], _, _, hv, _ => hv.elim
 | [], _ :: _, _, _, h, _, _ => by simp [fitL] at h
 | _ :: _, [], _, _, h, _, _ => by simp [fitL] at h
theorem fitR_sound (hI : InOk p κ I a w) (hM : p.M ≤ mx) {A K : Nat} {L : Int} {ts : List CT} : ∀ {n : Nat} {l : List AC} {vs : List Value} {u : Nat}, fitR I.B mx A K ts n l = some u → hasL p.T p.v0 κ l vs → (A : Int) * p.M + K + u ≤ L →
  l.length = n * ts.length ∧ ∀ (j o : Nat) (ct : CT), j < n → ts[o]? = some ct → ∃ v, vs[j * ts.length + o]? = some v ∧ ct.has κ.S p.v0 L v
 | 0, [], vs, u, _, _, _ => ⟨by simp, by intro j o ct hj; omega⟩
 | 0, _ :: _, _, _, h, _, _ => by simp [fitR] at h
 | n + 1, l, vs, u, h, hv, hL => by
  simp only [fitR] at h
  split at h <;> try contradiction
  rename_i u1 h1
  split at h <;> try contradiction
  rename_i u2 h2
  simp only [Option.some.injEq] at h
  subst h
  obtain ⟨hl1, hh1⟩ := fitL_sound hI hM (L := L) h1 (hasL_take ts.length hv) (by omega)
  obtain ⟨hl2, hh2⟩ := fitR_sound hI hM (L := L) h2 (hasL_drop ts.length hv) (by omega)
  have hlen : l.length = (n + 1) * ts.length := by
   rw [List.length_drop] at hl2
   rw [List.length_take] at hl1
   rw [Nat.add_mul, Nat.one_mul, ← hl2]
   omega
  refine ⟨hlen, ?_⟩
  intro j o ct hj ho
  have hot : o < ts.length := (List.getElem?_eq_some_iff.1 ho).1
  cases j with
  | zero =>
   obtain ⟨v, h3, h4⟩ := hh1 o ct ho
   rw [List.getElem?_take] at h3
   split at h3
   · exact ⟨v, by simpa using h3, h4⟩
   · contradiction
  | succ j =>
   obtain ⟨v, h3, h4⟩ := hh2 j o ct (by omega) ho
   rw [List.getElem?_drop] at h3
   refine ⟨v, ?_, h4⟩
   rw [← h3]
   congr 1
   rw [Nat.add_mul]
   omega
end
end Go.Ty
namespace Go.Ty
open Go Go.Sx
def OpWp (E : Env) (p : Par) (κ : Ctx) (I : In) (o : Oper) (e : Ef) (L : Int) (a : Act) (w : World) : Prop :=
 ∀ (next : Act → World → Prop) (Q : Exit → Act → World → Prop), (∀ u w' κ', OpOut p κ κ' I.n e L w w' u → next (a.put o.dst u) w') → o.wp E.P a w next Q
section
variable {E : Env} {p : Par} {κ κ' : Ctx} {I : In} {o : Oper} {e : Ef} {L : Int} {a : Act} {w w' : World}
theorem OpWp.value {u : Value} (hrun : (execOp a.eval o).run E.P w = .ok (.value u) w') (h : OpOut p κ κ' I.n e L w w' u) : OpWp E p κ I o e L a w := by
 intro next Q hn
 unfold Oper.wp
 rw [hrun]
 exact hn u w' κ' h
theorem OpWp.skip (hrun : (execOp a.eval o).run E.P w = .ok .skip w') (h : OpOut p κ κ' I.n e L w w' undef) : OpWp E p κ I o e L a w := by
 intro next Q hn
 unfold Oper.wp
 rw [hrun]
 exact hn undef w' κ' h
theorem pureOut {v : AV} {u : Value} {n : Nat} (hW : WT p κ.S L w) (hv : v.has p.T p.v0 κ u) : OpOut p κ κ n (.pure v) L w w u :=
 ⟨.refl _ _, hv, by simp [Ef.pure], by simp [Ef.pure], by simpa [Ef.pure] using hW, rfl, rfl, rfl, Nat.le_refl _, fun b x h => .inl ⟨x, h⟩, fun _ _ _ _ => rfl, by simp [Ef.pure], by simp [Ef.pure], by simp [Ef.pure]⟩
def Ctx.put (κ : Ctx) (n : Nat) (xs : List Int) : Ctx := ⟨fun i => if n ≤ i ∧ i < n + xs.length then xs.getD (i - n) 0 else κ.ρ i, κ.π, κ.S⟩
theorem Ctx.put_at {n : Nat} {xs : List Int} {j : Nat} {x : Int} (h : xs[j]? = some x) : (κ.put n xs).ρ (n + j) = x := by
 have := (List.getElem?_eq_some_iff.1 h).1
 simp only [Ctx.put]
 rw [if_pos (by omega)]
 simp [h]
theorem Ctx.put_zero {n : Nat} {xs : List Int} (hn : 0 < n) : (κ.put n xs).ρ 0 = κ.ρ 0 := by
 simp only [Ctx.put]
 rw [if_neg (by omega)]
theorem Ctx.put_agree {n : Nat} {xs : List Int} : Agree κ (κ.put n xs) n xs.length :=
 ⟨fun i hi => by simp only [Ctx.put]; rw [if_neg hi], fun _ _ => rfl, .refl _⟩
theorem freshOut {v : AV} {bs : List Bd} {u : Value} {n : Nat} {xs : List Int} (hW : WT p κ.S L w) (hl : xs.length = bs.length) (hb : ∀ (j : Nat) (b : Bd), bs[j]? = some b → ∃ x, xs[j]? = some x ∧ b.ok p.M x) (hv : v.has p.T p.v0 (κ.put n xs) u) :
  OpOut p κ (κ.put n xs) n (.fresh v bs) L w w u := by
 refine ⟨?_, hv, ?_, by simp [Ef.fresh], by simp only [Ef.fresh]; rw [show L + ((0 : Nat) : Int) = L by omega]; exact hW, rfl, rfl, rfl, Nat.le_refl _, fun b x h => .inl ⟨x, h⟩, fun _ _ _ _ => rfl, by simp [Ef.fresh], by simp [Ef.fresh], by simp [Ef.fresh]⟩
 · rw [show (Ef.fresh v bs).new.length = xs.length from hl.symm]
   exact Ctx.put_agree
 · intro j b hj
   obtain ⟨x, h1, h2⟩ := hb j b hj
   rw [Ctx.put_at h1]
   exact h2
theorem freshInt {k : IntKind} {b : Bd} {x : Int} {n : Nat} (hW : WT p κ.S L w) (hb : b.ok p.M x) : OpOut p κ (κ.put n [x]) n (.fresh (.one (.int k n 0)) [b]) L w w (.int k x) := by
 refine freshOut hW rfl ?_ ?_
 · intro j b' hj
   cases j with
   | zero => simp at hj; subst hj; exact ⟨x, rfl, hb⟩
   | succ j => simp at hj
 · have : (κ.put n [x]).ρ n = x := Ctx.put_at (j := 0) rfl
   simp [AV.has, AC.has, this]
theorem freshBool {x : Bool} {n : Nat} (hn : 0 < n) (hz : κ.ρ 0 = 0) (hW : WT p κ.S L w) : OpOut p κ (κ.put n [if x then 1 else 0]) n (.fresh (.one (.bool (.cmp .eq n 0 0 1))) [⟨0, 0, 1⟩]) L w w (.bool x) := by
 refine freshOut hW rfl ?_ ?_
 · intro j b' hj
   cases j with
   | zero => simp at hj; subst hj; exact ⟨_, rfl, by cases x <;> simp [Bd.ok]⟩
   | succ j => simp at hj
 · have h1 : (κ.put n [if x then 1 else 0]).ρ n = if x then 1 else 0 := Ctx.put_at (j := 0) rfl
   have h0 : (κ.put n [if x then 1 else 0]).ρ 0 = 0 := by rw [Ctx.put_zero hn, hz]
   simp only [AV.has, AC.has, AB.val, Cmp.on, h1, h0]
   cases x <;> rfl
theorem ofVal1_has {v : Value} {c : AC} (h : ofVal1 v = some c) (T : Bool → TypeId → Option (List CT)) (v0 : Value) (hz : κ.ρ 0 = 0) : c.has T v0 κ v ∧ ∀ n m, 0 < n → c.off n m := by
 unfold ofVal1 at h
 split at h <;> simp only [Option.some.injEq, reduceCtorEq] at h
 · subst h; exact ⟨by simp [AC.has, hz], fun n m hn => by simp only [AC.off]; omega⟩
 · subst h; exact ⟨by simp [AC.has, AB.val], fun n m hn => trivial⟩
 · subst h; exact ⟨rfl, fun n m hn => trivial⟩
theorem ofVals_has : ∀ {vs : List Value} {l : List AC}, ofVals vs = some l → ∀ (T : Bool → TypeId → Option (List CT)) (v0 : Value), κ.ρ 0 = 0 → hasL T v0 κ l vs ∧ ∀ n m, 0 < n → offL n m l
 | [], l, h, T, v0, hz => by simp [ofVals] at h; subst h; exact ⟨trivial, fun n m hn => by simp [offL]⟩
 | v :: vs, l, h, T, v0, hz => by
  simp only [ofVals] at h
  split at h <;> try contradiction
  rename_i s hs
  split at h <;> try contradiction
  rename_i r hr
  simp only [Option.some.injEq] at h
  subst h
  obtain ⟨h1, h2⟩ := ofVal1_has hs T v0 hz
  obtain ⟨h3, h4⟩ := ofVals_has hr T v0 hz
  refine ⟨⟨h1, h3⟩, fun n m hn c hc => ?_⟩
  rcases List.mem_cons.1 hc with rfl | hc
  · exact h2 n m hn
  · exact h4 n m hn c hc
theorem ofVal_has {v : Value} {x : AV} (h : ofVal v = some x) (T : Bool → TypeId → Option (List CT)) (v0 : Value) (hz : κ.ρ 0 = 0) : x.has T v0 κ v ∧ ∀ n m, 0 < n → x.off n m := by
 unfold ofVal at h
 split at h
 · split at h <;> try contradiction
   rename_i cs l hl
   simp only [Option.some.injEq] at h
   subst h
   obtain ⟨h1, h2⟩ := ofVals_has hl T v0 hz
   exact ⟨⟨_, rfl, h1⟩, h2⟩
 · split at h <;> try contradiction
   rename_i s hs
   simp only [Option.some.injEq] at h
   subst h
   exact ofVal1_has hs T v0 hz
theorem evO_has (hI : InOk p κ I a w) {x : Operand} {v : AV} (h : evO I.S x = some v) : v.has p.T p.v0 κ (a.eval x) ∧ ∀ m, v.off I.n m := by
 cases x with
 | tmp t =>
  simp only [evO] at h
  split at h <;> try contradiction
  exact ⟨hI.slots t v h, hI.offS t v h⟩
 | const c =>
  unfold evO at h
  split at h
  · rename_i heq; cases heq
  · simp only [Option.some.injEq] at h
    subst h
    exact ⟨trivial, fun m => trivial⟩
  · rename_i heq
    cases heq
    obtain ⟨h1, h2⟩ := ofVal_has h p.T p.v0 hI.zero
    exact ⟨h1, fun m => h2 _ m hI.pos⟩
  · contradiction
 | func g => simp [evO] at h
 | global g => simp [evO] at h
def hasVs (T : Bool → TypeId → Option (List CT)) (v0 : Value) (κ : Ctx) : List AV → List Value → Prop
 | [], [] => True
 | c :: cs, v :: vs => c.has T v0 κ v ∧ hasVs T v0 κ cs vs
 | _, _ => False
theorem evL_has (hI : InOk p κ I a w) : ∀ {xs : List Operand} {l : List AV}, evL I.S xs = some l → hasVs p.T p.v0 κ l (xs.map a.eval) ∧ ∀ v ∈ l, ∀ m, v.off I.n m
 | [], l, h => by simp [evL] at h; subst h; exact ⟨trivial, by simp⟩
 | x :: xs, l, h => by
  simp only [evL] at h
  split at h <;> try contradiction
  rename_i v hv
  split at h <;> try contradiction
  rename_i r hr
  simp only [Option.some.injEq] at h
  subst h
  obtain ⟨h1, h2⟩ := evO_has hI hv
  obtain ⟨h3, h4⟩ := evL_has hI hr
  refine ⟨⟨h1, h3⟩, ?_⟩
  intro u hu
  rcases List.mem_cons.1 hu with rfl | hu
  · exact h2
  · exact h4 u hu
def hasPp (T : Bool → TypeId → Option (List CT)) (v0 : Value) (κ : Ctx) : List (Nat × AV) → List (Nat × Value) → Prop
 | [], [] => True
 | c :: cs, v :: vs => c.1 = v.1 ∧ c.2.has T v0 κ v.2 ∧ hasPp T v0 κ cs vs
 | _, _ => False
theorem evP_has (hI : InOk p κ I a w) : ∀ {xs : List (Nat × Operand)} {l : List (Nat × AV)}, evP I.S xs = some l → hasPp p.T p.v0 κ l (xs.map fun x => (x.1, a.eval x.2)) ∧ ∀ v ∈ l, ∀ m, v.2.off I.n m
 | [], l, h => by simp [evP] at h; subst h; exact ⟨trivial, by simp⟩
 | (i, x) :: xs, l, h => by
  simp only [evP] at h
  split at h <;> try contradiction
  rename_i v hv
  split at h <;> try contradiction
  rename_i r hr
  simp only [Option.some.injEq] at h
  subst h
  obtain ⟨h1, h2⟩ := evO_has hI hv
  obtain ⟨h3, h4⟩ := evP_has hI hr
  refine ⟨⟨rfl, h1, h3⟩, ?_⟩
  intro u hu
  rcases List.mem_cons.1 hu with rfl | hu
  · exact h2
  · exact h4 u hu
theorem AC.has_cells {T : Bool → TypeId → Option (List CT)} {v0 : Value} (hv0 : v0.oneCell' = true ∧ v0.cells = #[v0]) {c : AC} {v : Value} (h : c.has T v0 κ v) : v.cells = #[v] ∧ v.oneCell' = true := by
 cases c with
 | int k i d => simp only [AC.has] at h; subst h; exact ⟨rfl, rfl⟩
 | bool b => simp only [AC.has] at h; subst h; exact ⟨rfl, rfl⟩
 | slc t i d => obtain ⟨_, _, _, rfl, _⟩ := h; exact ⟨rfl, rfl⟩
 | nils => simp only [AC.has] at h; subst h; exact ⟨rfl, rfl⟩
 | ptr t q o => obtain ⟨rfl, _⟩ := h; exact ⟨rfl, rfl⟩
 | eptr t o => obtain ⟨_, _, _, _, rfl, _⟩ := h; exact ⟨rfl, rfl⟩
 | fix => simp only [AC.has] at h; subst h; exact ⟨hv0.2, hv0.1⟩
 | anyI k => obtain ⟨_, rfl, _⟩ := h; exact ⟨rfl, rfl⟩
 | anyB => obtain ⟨_, rfl⟩ := h; exact ⟨rfl, rfl⟩
theorem AV.cells_has {T : Bool → TypeId → Option (List CT)} {v0 : Value} (hv0 : v0.oneCell' = true ∧ v0.cells = #[v0]) {x : AV} {v : Value} {l : List AC} (h : x.has T v0 κ v) (hl : x.cells = some l) : hasL T v0 κ l v.cells.toList := by
 cases x with
 | ud => simp [AV.cells] at hl
 | one c =>
  simp only [AV.cells, Option.some.injEq] at hl
  subst hl
  rw [(AC.has_cells hv0 h).1]
  exact ⟨h, trivial⟩
 | agg l' =>
  simp only [AV.cells, Option.some.injEq] at hl
  subst hl
  obtain ⟨vs, rfl, h1⟩ := h
  exact h1
 | tup _ => simp [AV.cells] at hl
theorem AV.cells_off {x : AV} {l : List AC} (hl : x.cells = some l) {n : Nat} (ho : ∀ m, x.off n m) (m : Nat) : offL n m l := by
 cases x with
 | ud => simp [AV.cells] at hl
 | one c =>
  simp only [AV.cells, Option.some.injEq] at hl
  subst hl
  intro c hc
  simp at hc
  subst hc
  exact ho m
 | agg l' =>
  simp only [AV.cells, Option.some.injEq] at hl
  subst hl
  exact ho m
 | tup _ => simp [AV.cells] at hl
theorem hasL_one {T : Bool → TypeId → Option (List CT)} {v0 : Value} (hv0 : v0.oneCell' = true ∧ v0.cells = #[v0]) : ∀ {l : List AC} {vs : List Value}, hasL T v0 κ l vs → ∀ v ∈ vs, v.oneCell' = true
 | [], [], _, v, hv => by simp at hv
 | c :: l, u :: vs, h, v, hv => by
  rcases List.mem_cons.1 hv with rfl | hv
  · exact (AC.has_cells hv0 h.1).2
  · exact hasL_one hv0 h.2 v hv
 | [], _ :: _, h, _, _ => h.elim
 | _ :: _, [], h, _, _ => h.elim
theorem partA_run {P : Program} {t : TypeId} {l : List AC} {off : Nat} {x : AV} {T : Bool → TypeId → Option (List CT)} {v0 : Value} (h : partA P t l off = some x) {vs : Array Value} (hv : hasL T v0 κ l vs.toList) (w : World) :
  ∃ u, (part t vs off).run P w = .ok u w ∧ x.has T v0 κ u := by
 have hlen := hasL_length hv
 unfold partA at h
 unfold part
 split at h <;> try contradiction
 · rename_i hagg
   split at h <;> try contradiction
   rename_i n hn
   split at h <;> try contradiction
   rename_i hle
   simp only [Nat.ble_eq] at hle
   simp only [Option.some.injEq] at h
   subst h
   refine ⟨.agg (vs.extract off (off + n)), ?_, ⟨_, rfl, ?_⟩⟩
   · simp [isAgg_run hagg, sizeOf_run hn]
   · have h1 : (vs.extract off (off + n)).toList = (vs.toList.drop off).take n := by
      rw [Array.toList_extract, List.extract_eq_take_drop]
      congr 1
      omega
     rw [h1]
     exact hasL_take n (hasL_drop off hv)
 · rename_i hagg
   split at h <;> try contradiction
   rename_i c hc
   simp only [Option.some.injEq] at h
   subst h
   obtain ⟨u, h1, h2⟩ := hasL_get hv hc
   rw [Array.getElem?_toList] at h1
   refine ⟨u, ?_, h2⟩
   simp [isAgg_run hagg, h1]
end
end Go.Ty
namespace Go.Ty
open Go Go.Sx
section
variable {E : Env} {G : Nat → Option Con} {p : Par} {κ κ' : Ctx} {I : In} {o : Oper} {e : Ef} {L : Int} {a : Act} {w w' : World}
theorem op_move {x : Operand} (hop : o.op = .move x ∨ o.op = .assign x) (h : aop0 E G I o = some e) (hI : InOk p κ I a w) (hW : WT p κ.S L w) : OpWp E p κ I o e L a w := by
 have key : ∀ {v : AV}, evO I.S x = some v → e = .pure v → OpWp E p κ I o e L a w := by
  rintro v hv rfl
  exact .value (by rcases hop with hop | hop <;> simp [execOp, hop]) (pureOut hW (evO_has hI hv).1)
 rcases hop with hop | hop <;> simp only [aop0, hop] at h <;> split at h <;> try contradiction
 all_goals
  rename_i v hv
  simp only [Option.some.injEq] at h
  exact key hv h.symm
theorem op_pick {c x y : Operand} (hop : o.op = .pick c x y) (h : aop0 E G I o = some e) (hI : InOk p κ I a w) (hW : WT p κ.S L w) (hM : p.M ≤ E.mx) : OpWp E p κ I o e L a w := by
 simp only [aop0, hop] at h
 split at h <;> try contradiction
 rename_i b hc
 have hb := (evO_has hI hc).1
 simp only [AV.has, AC.has] at hb
 split at h <;> try contradiction
 · rename_i hB
   rw [evalB_sound hI hM hB] at hb
   split at h <;> try contradiction
   rename_i v hv
   simp only [Option.some.injEq] at h
   subst h
   exact .value (by simp [execOp, hop, hb, asBool]) (pureOut hW (evO_has hI hv).1)
 · rename_i hB
   rw [evalB_sound hI hM hB] at hb
   split at h <;> try contradiction
   rename_i v hv
   simp only [Option.some.injEq] at h
   subst h
   exact .value (by simp [execOp, hop, hb, asBool]) (pureOut hW (evO_has hI hv).1)
theorem op_nilCheck {x : Operand} (hop : o.op = .nilCheck x) (h : aop0 E G I o = some e) (hI : InOk p κ I a w) (hW : WT p κ.S L w) : OpWp E p κ I o e L a w := by
 simp only [aop0, hop] at h
 split at h <;> try contradiction
 · rename_i t q n hx
   have hx' := (evO_has hI hx).1
   simp only [Option.some.injEq] at h
   subst h
   refine .value (u := a.eval x) ?_ (pureOut hW hx')
   obtain ⟨h1, _⟩ := hx'
   simp [execOp, hop, h1]
 · rename_i t n hx
   have hx' := (evO_has hI hx).1
   simp only [Option.some.injEq] at h
   subst h
   refine .value (u := a.eval x) ?_ (pureOut hW hx')
   obtain ⟨_, _, _, _, h1, _⟩ := hx'
   simp [execOp, hop, h1]
theorem op_fieldAddr {s : TypeId} {x : Operand} {i : Nat} (hop : o.op = .fieldAddr s x i) (h : aop0 E G I o = some e) (hI : InOk p κ I a w) (hW : WT p κ.S L w) : OpWp E p κ I o e L a w := by
 simp only [aop0, hop] at h
 split at h <;> try contradiction
 rename_i fs ht
 split at h <;> try contradiction
 rename_i fd hfd
 split at h <;> try contradiction
 rename_i n hn
 split at h <;> try contradiction
 · rename_i t q off hx
   obtain ⟨h1, h2⟩ := (evO_has hI hx).1
   simp only [Option.some.injEq] at h
   subst h
   refine .value (u := .pointer (some ⟨κ.π q, off + fd.offset, none⟩)) ?_ (pureOut hW ⟨rfl, h2⟩)
   simp only [execOp, hop, h1, Instr.fieldAt, Instr.sureAddr, Sem.run_bind, run_underlying ht, Result.andThen_ok, fieldAt_eq hfd, Sem.run_pure, fieldPlace, sizeOf_run hn, Sem.run_ite, Nat.succ_ne_zero, if_false, Addr.add_lit]
 · rename_i t off hx
   obtain ⟨b, j, y, ts, h1, h2⟩ := (evO_has hI hx).1
   simp only [Option.some.injEq] at h
   subst h
   refine .value (u := .pointer (some ⟨b, j * ts.length + (off + fd.offset), none⟩)) ?_ (pureOut hW ⟨b, j, y, ts, rfl, h2⟩)
   simp only [execOp, hop, h1, Instr.fieldAt, Instr.sureAddr, Sem.run_bind, run_underlying ht, Result.andThen_ok, fieldAt_eq hfd, Sem.run_pure, fieldPlace, sizeOf_run hn, Sem.run_ite, Nat.succ_ne_zero, if_false, Addr.add_lit, Nat.add_assoc]
theorem op_field {s : TypeId} {x : Operand} {i : Nat} (hop : o.op = .field s x i) (h : aop0 E G I o = some e) (hI : InOk p κ I a w) (hW : WT p κ.S L w) : OpWp E p κ I o e L a w := by
 simp only [aop0, hop] at h
 split at h <;> try contradiction
 rename_i l hx
 obtain ⟨vs, h1, h2⟩ := (evO_has hI hx).1
 split at h <;> try contradiction
 rename_i fs ht
 split at h <;> try contradiction
 rename_i fd hfd
 split at h <;> try contradiction
 rename_i v hv
 simp only [Option.some.injEq] at h
 subst h
 obtain ⟨u, h3, h4⟩ := partA_run hv h2 w
 refine .value ?_ (pureOut hW h4)
 simp only [execOp, hop, h1, Instr.field, asAgg, Sem.run_bind, run_underlying ht, Result.andThen_ok, fieldAt_eq hfd, Sem.run_pure, h3]
theorem hasPs_get {T : Bool → TypeId → Option (List CT)} {v0 : Value} : ∀ {l : List (Bool × List AC)} {vs : List Value}, hasPs T v0 κ l vs → ∀ {i : Nat} {c : Bool × List AC}, l[i]? = some c → ∃ v, vs[i]? = some v ∧ hasP T v0 κ c v
 | [], [], _, i, c, h => by simp at h
 | a :: l, v :: vs, hh, 0, c, h => by simp at h; subst h; exact ⟨v, by simp, hh.1⟩
 | a :: l, v :: vs, hh, i + 1, c, h => by
  simp at h
  obtain ⟨u, h1, h2⟩ := hasPs_get hh.2 h
  exact ⟨u, by simpa using h1, h2⟩
 | [], _ :: _, h, _, _, _ => h.elim
 | _ :: _, [], h, _, _, _ => h.elim
theorem ofPart_has {T : Bool → TypeId → Option (List CT)} {v0 : Value} {q : Bool × List AC} {x : AV} (h : AV.ofPart q = some x) {u : Value} (hu : hasP T v0 κ q u) : x.has T v0 κ u := by
 unfold AV.ofPart at h
 split at h <;> simp only [Option.some.injEq, reduceCtorEq] at h
 · subst h; exact hu
 · subst h; exact hu
theorem op_extract {x : Operand} {i : Nat} (hop : o.op = .extract x i) (h : aop0 E G I o = some e) (hI : InOk p κ I a w) (hW : WT p κ.S L w) : OpWp E p κ I o e L a w := by
 simp only [aop0, hop] at h
 split at h <;> try contradiction
 rename_i ps hx
 obtain ⟨vs, h1, h2⟩ := (evO_has hI hx).1
 split at h <;> try contradiction
 rename_i q hq
 split at h <;> try contradiction
 rename_i v hv
 simp only [Option.some.injEq] at h
 subst h
 obtain ⟨u, h3, h4⟩ := hasPs_get h2 hq
 rw [Array.getElem?_toList] at h3
 refine .value (u := u) ?_ (pureOut hW (ofPart_has hv h4))
 simp [execOp, hop, h1, Instr.extract, h3]
theorem freshKin {k : IntKind} {x : Int} {n : Nat} (hW : WT p κ.S L w) (hx : klo k ≤ x ∧ x ≤ khi k) : OpOut p κ (κ.put n [x]) n (.fresh (.one (.int k n 0)) [⟨klo k, 0, khi k⟩]) L w w (.int k x) :=
 freshInt hW (by simp only [Bd.ok]; omega)
theorem fits_iff {k : IntKind} {l u : Int} : fits k l u = true ↔ klo k ≤ l ∧ u ≤ khi k := by simp [fits, leI_iff]
theorem freshK_out {k : IntKind} {l u x : Int} {n : Nat} (hW : WT p κ.S L w) (h : l ≤ x ∧ x ≤ u) : ∃ κ', OpOut p κ κ' n (freshK k l u n) L w w (.int k (k.wrap x)) := by
 unfold freshK
 split
 · rename_i hf
   rw [fits_iff] at hf
   rw [wrap_fit k x (by omega)]
   exact ⟨_, freshInt hW (by simp only [Bd.ok]; omega)⟩
 · exact ⟨_, freshKin hW (wrap_in k x)⟩
theorem shiftK_out {k : IntKind} {i : Nat} {d l u : Int} {n : Nat} (hW : WT p κ.S L w) (h : l ≤ κ.ρ i + d ∧ κ.ρ i + d ≤ u) : ∃ κ', OpOut p κ κ' n (shiftK k i d l u n) L w w (.int k (k.wrap (κ.ρ i + d))) := by
 unfold shiftK
 split
 · rename_i hf
   rw [fits_iff] at hf
   rw [wrap_fit k _ (by omega)]
   exact ⟨_, pureOut hW rfl⟩
 · exact ⟨_, freshKin hW (wrap_in k _)⟩
theorem op_convert {s t : TypeId} {x : Operand} (hop : o.op = .convert s t x) (h : aop0 E G I o = some e) (hI : InOk p κ I a w) (hW : WT p κ.S L w) (hM : p.M ≤ E.mx) : OpWp E p κ I o e L a w := by
 simp only [aop0, hop] at h
 split at h <;> try contradiction
 rename_i k0 i d hx
 have hx' := (evO_has hI hx).1
 simp only [AV.has, AC.has] at hx'
 split at h <;> try contradiction
 rename_i _ _ k' k hs ht
 split at h <;> try contradiction
 rename_i l u hr
 simp only [Option.some.injEq] at h
 subst h
 obtain ⟨κ', h1⟩ := shiftK_out (k := k) (n := I.n) hW (rng_le hI hM hr)
 refine .value ?_ h1
 simp [execOp, hop, hx', convert, run_underlying hs, run_underlying ht, Conv.intToInt]
theorem op_unOp {op : UnOp} {t : TypeId} {x : Operand} (hop : o.op = .unOp op t x) (h : aop0 E G I o = some e) (hI : InOk p κ I a w) (hW : WT p κ.S L w) : OpWp E p κ I o e L a w := by
 simp only [aop0, hop] at h
 split at h <;> try contradiction
 · rename_i b hx
   have hx' := (evO_has hI hx).1
   simp only [AV.has, AC.has] at hx'
   split at h <;> try contradiction
   have run : (execOp a.eval o).run E.P w = .ok (.value (.bool (!(b.val κ.ρ)))) w := by simp [execOp, hop, hx', Op.unary]
   split at h
   all_goals
    simp only [Option.some.injEq] at h
    subst h
    refine .value run (pureOut hW ?_)
    simp only [AV.has, AC.has, AB.val, Cmp.on]
   · rw [← decide_not]; congr 1; exact decide_eq_decide.2 (by omega)
   · rw [← decide_not]; congr 1; exact decide_eq_decide.2 (by omega)
   · simp
 · rename_i k i d hx
   have hx' := (evO_has hI hx).1
   simp only [AV.has, AC.has] at hx'
   split at h <;> try contradiction
   · simp only [Option.some.injEq] at h
     subst h
     refine .value (u := .int k (k.wrap (0 - (κ.ρ i + d)))) ?_ (freshKin hW (wrap_in _ _))
     simp [execOp, hop, hx', Op.unary, Op.intArith]
   · simp only [Option.some.injEq] at h
     subst h
     refine .value (u := .int k (bits .xor k (if k.signed then -1 else k.max) (κ.ρ i + d))) ?_ (freshKin hW (by rw [← klo_min, ← khi_max]; exact bits_within _ _ _ _))
     simp [execOp, hop, hx', Op.unary, intBits_xor]
end
end Go.Ty
namespace Go.Sx
open Go
theorem bits_pos (k : IntKind) : 0 < k.bits := by cases k <;> decide
theorem wrap_small (k : IntKind) (n : Nat) (h : n < 2 ^ (k.bits - 1)) : k.wrap (n : Int) = n := by
 have hp : (2 : Nat) ^ (k.bits - 1) < 2 ^ k.bits := Nat.pow_lt_pow_right (by decide) (by have := bits_pos k; omega)
 have e : (n : Int) % (2 ^ k.bits : Int) = n := by
  apply Int.emod_eq_of_lt (by omega)
  exact_mod_cast (by omega : n < 2 ^ k.bits)
 have hlt : ¬ (n : Int) ≥ (2 ^ (k.bits - 1) : Int) := by
  have : (n : Int) < (2 ^ (k.bits - 1) : Int) := by exact_mod_cast h
  omega
 simp only [IntKind.wrap, e]
 simp [hlt]
theorem and_mask (k : IntKind) (i : Nat) (hi : i < k.bits) (x : Int) : bits .and k x ((2 ^ i - 1 : Nat) : Int) = x % ((2 ^ i : Nat) : Int) := by
 have h2 : (2 : Nat) ^ i ≤ 2 ^ (k.bits - 1) := Nat.pow_le_pow_right (by decide) (by omega)
 have h3 : (2 : Nat) ^ (k.bits - 1) < 2 ^ k.bits := Nat.pow_lt_pow_right (by decide) (by omega)
 have hpos : 0 < (2 : Nat) ^ i := Nat.pow_pos (by decide)
 show k.wrap (((BitVec.ofInt k.bits x &&& BitVec.ofInt k.bits ((2 ^ i - 1 : Nat) : Int)).toNat : Nat) : Int) = _
 have hm : (BitVec.ofInt k.bits ((2 ^ i - 1 : Nat) : Int)).toNat = 2 ^ i - 1 := by
  rw [BitVec.toNat_ofInt, ← Int.natCast_emod, Int.toNat_natCast, Nat.mod_eq_of_lt (by omega)]
 have hx : (BitVec.ofInt k.bits x).toNat % 2 ^ i = (x % ((2 ^ i : Nat) : Int)).toNat := by
  rw [BitVec.toNat_ofInt]
  have hnn : 0 ≤ x % ((2 ^ k.bits : Nat) : Int) := Int.emod_nonneg _ (by have : 0 < (2 : Nat) ^ k.bits := Nat.pow_pos (by decide); omega)
  apply Int.ofNat.inj
  show (((x % ((2 ^ k.bits : Nat) : Int)).toNat % 2 ^ i : Nat) : Int) = ((x % ((2 ^ i : Nat) : Int)).toNat : Int)
  rw [Int.natCast_emod, Int.toNat_of_nonneg hnn, Int.toNat_of_nonneg (Int.emod_nonneg _ (by omega))]
  apply Int.emod_emod_of_dvd
  exact_mod_cast Nat.pow_dvd_pow 2 (Nat.le_of_lt hi)
 rw [BitVec.toNat_and, hm, Nat.and_two_pow_sub_one_eq_mod, hx]
 have hlt : x % ((2 ^ i : Nat) : Int) < ((2 ^ i : Nat) : Int) := Int.emod_lt_of_pos _ (by omega)
 have hnn : 0 ≤ x % ((2 ^ i : Nat) : Int) := Int.emod_nonneg _ (by omega)
 rw [wrap_small k _ (by omega)]
 omega
theorem place_range (x n : Int) (h0 : 0 < n) (h1 : n ≤ 9223372036854775807) : 0 ≤ IntKind.i64.wrap ((IntKind.u64.wrap x).tmod (IntKind.u64.wrap n)) ∧ IntKind.i64.wrap ((IntKind.u64.wrap x).tmod (IntKind.u64.wrap n)) < n := by
 have hu : ∀ y : Int, IntKind.u64.wrap y = y % 18446744073709551616 := fun y => by simp [IntKind.wrap, IntKind.bits, IntKind.signed]
 have hn : IntKind.u64.wrap n = n := by rw [hu]; omega
 have hx : 0 ≤ IntKind.u64.wrap x := by rw [hu]; omega
 rw [hn, Int.tmod_eq_emod_of_nonneg hx]
 have a := Int.emod_nonneg (IntKind.u64.wrap x) (show n ≠ 0 by omega)
 have b := Int.emod_lt_of_pos (IntKind.u64.wrap x) h0
 have hw : IntKind.i64.wrap (IntKind.u64.wrap x % n) = IntKind.u64.wrap x % n := by rw [IntKind.wrap_i64]; omega
 rw [hw]
 exact ⟨a, b⟩
end Go.Sx
