/- A part of the proof: the reference is safe, both packages write and read alike. Several texts in one; printed by slim28.py out of the texts of wip. -/
import Derived.Test.YtjmnolhkkpaodaaGreatDoorZ21
set_option linter.all false
namespace Go.Ty
open Go Go.Sx
def Par.nm (p : Par) (l : List (Nat × Int)) : Par := ⟨p.T, p.v0, p.W, p.M, p.pin, l⟩
theorem WT.nm {p : Par} {l : List (Nat × Int)} {S : SB'} {L : Int} {w : World} (h : WT p S L w) : WT (p.nm l) S L w :=
 ⟨h.old, h.size, fun b x hx => by obtain ⟨h1, h2, h3, h4⟩ := h.blk b x hx; exact ⟨h1, h2, h3, h4⟩⟩
theorem WT.unnm {p : Par} {l : List (Nat × Int)} {S : SB'} {L : Int} {w : World} (h : WT (p.nm l) S L w) : WT p S L w :=
 ⟨h.old, h.size, fun b x hx => by obtain ⟨h1, h2, h3, h4⟩ := h.blk b x hx; exact ⟨h1, h2, h3, h4⟩⟩
abbrev Tau := List (Nat × Nat × Int)
def tauG (τ : Tau) (x : Nat) : Option (Nat × Int) := match Nat.beq x 0 with
 | true => some (0, 0)
 | false => Sx.look τ x
def tauv (τ : Tau) (ρ : Nat → Int) (x : Nat) : Int := match tauG τ x with
 | some (i, d) => ρ i + d
 | none => 0
def eqT (τ : Tau) (x : Nat) (e : Int) (i : Nat) (d : Int) : Bool := match tauG τ x with
 | some (i', d') => Nat.beq i' i && eqI (d' + e) d
 | none => false
def cvC (τ : Tau) : AC → AC → Bool
 | .int k x e, .int k' i d => kindEq k k' && eqT τ x e i d
 | .slc t x e, .slc t' i d => Nat.beq t t' && eqT τ x e i d
 | .slc _ x e, .nils => eqT τ x e 0 0
 | .nils, .nils => true
 | .ptr t q o, .ptr t' q' o' => Nat.beq t t' && Nat.beq q q' && Nat.beq o o'
 | .eptr t o, .eptr t' o' => Nat.beq t t' && Nat.beq o o'
 | .fix, .fix => true
 | .anyI k, .anyI k' => kindEq k k'
 | .anyB, .anyB => true
 | .anyB, .bool _ => true
 | .bool (.lit a), .bool (.lit b) => a == b
 | _, _ => false
def cvL (τ : Tau) : List AC → List AC → Bool
 | [], [] => true
 | c :: l, c' :: l' => match cvC τ c c' with
  | true => cvL τ l l'
  | false => false
 | _, _ => false
def cvV (τ : Tau) : AV → AV → Bool
 | .ud, _ => true
 | .one c, .one c' => cvC τ c c'
 | .agg l, .agg l' => cvL τ l l'
 | _, _ => false
def cvS (τ : Tau) (st : St) (N : Nat) : List (Nat × AV) → Bool
 | [] => true
 | (t, v) :: r => match Sx.look st.sl t with
  | some v' => match cvV τ v v' && ltV N v with
   | true => cvS τ st N r
   | false => false
  | none => false
def cvI (τ : Tau) (st : St) (N : Nat) : List (Nat × Bd) → Bool
 | [] => true
 | (x, b) :: r => match Nat.blt x N && (match tauG τ x with
   | some (i, d) => (match lob (Sx.look st.ids) i d, upm (Sx.look st.ids) i d with
    | some l, some (a, h) => leI b.lo l && Nat.ble a b.a && leI h b.hi
    | _, _ => false)
   | none => false) with
  | true => cvI τ st N r
  | false => false
def ltI' (a b : Int) : Bool := leI (a + 1) b
def cvT (τ : Tau) (st : St) (N : Nat) : List (Nat × Nat) → Bool
 | [] => true
 | (x, y) :: r => match Nat.blt x N && Nat.blt y N && (match tauG τ x, tauG τ y with
   | some (i, d), some (j, e) => (memL i j st.lts && leI d e) || (Nat.beq i j && ltI' d e)
   | _, _ => false) with
  | true => cvT τ st N r
  | false => false
def cvM (τ : Tau) (st : St) (N : Nat) (ps : List Nat) : List (Nat × TypeId × List AC) → Bool
 | [] => true
 | (q, t, l) :: r => match Sx.look st.mem q with
  | some (t', l') => match Nat.beq t t' && cvL τ l l' && ltLs N l && memN q ps with
   | true => cvM τ st N ps r
   | false => false
  | none => false
def ltNs (N : Nat) : List Nat → Bool
 | [] => true
 | x :: r => match Nat.blt x N with
  | true => ltNs N r
  | false => false
def cvR (τ : Tau) (st J : St) : Bool :=
 Nat.blt 0 J.nid && cvS τ st J.nid J.sl && cvI τ st J.nid J.ids && cvT τ st J.nid J.lts && cvM τ st J.nid J.ps J.mem && subN st.own J.own && ltNs J.nid J.own && subN st.ps J.ps && ltNs J.nid J.ps && Nat.beq st.A J.A && Nat.ble st.K J.K
section
variable {τ : Tau} {E : Env} {G : Nat → Option Con} {p : Par} {κ κ' : Ctx} {st J : St} {a : Act} {w w0 : World} {S0 : SB'} {D : Drw} {sq sqh : Rs → Rs} {cl : St → St}
theorem tauv_zero (hz : κ.ρ 0 = 0) : tauv τ κ.ρ 0 = 0 := by simp [tauv, tauG, hz]
theorem eqT_val {x i : Nat} {e d : Int} (h : eqT τ x e i d = true) : tauv τ κ.ρ x + e = κ.ρ i + d := by
 unfold eqT at h
 unfold tauv
 split at h <;> try contradiction
 rename_i i' d' hh
 simp only [Bool.and_eq_true, Nat.beq_eq, eqI_iff] at h
 rw [h.1]
 omega
def Ctx.tau (κ : Ctx) (τ : Tau) : Ctx := ⟨tauv τ κ.ρ, κ.π, κ.S⟩
theorem cvC_sound {T : Bool → TypeId → Option (List CT)} {v0 : Value} (hz : κ.ρ 0 = 0) {cJ c : AC} {v : Value} (h : cvC τ cJ c = true) (hv : c.has T v0 κ v) : cJ.has T v0 (κ.tau τ) v := by
 unfold cvC at h
 split at h
 · rename_i k x e k' i d
   simp only [Bool.and_eq_true] at h
   have hk := kindEq_eq h.1
   subst hk
   simp only [AC.has, Ctx.tau, eqT_val (κ := κ) h.2] at hv ⊢
   exact hv
 · rename_i t x e t' i d
   simp only [Bool.and_eq_true, Nat.beq_eq] at h
   obtain ⟨ht, h⟩ := h
   subst ht
   simp only [AC.has, Ctx.tau, eqT_val (κ := κ) h] at hv ⊢
   exact hv
 · rename_i t x e
   have h := eqT_val (κ := κ) h
   simp only [AC.has] at hv
   subst hv
   simp only [AC.has, Ctx.tau, h]
   exact ⟨none, 0, 0, rfl, by rw [hz]; rfl, .inl ⟨rfl, rfl, rfl⟩⟩
 · exact hv
 · simp only [Bool.and_eq_true, Nat.beq_eq] at h
   obtain ⟨⟨rfl, rfl⟩, rfl⟩ := h
   exact hv
 · simp only [Bool.and_eq_true, Nat.beq_eq] at h
   obtain ⟨rfl, rfl⟩ := h
   exact hv
 · exact hv
 · rename_i k k'
   have hk := kindEq_eq h
   subst hk
   exact hv
 · exact hv
 · exact ⟨_, hv⟩
 · rename_i a b
   simp only [beq_iff_eq] at h
   subst h
   exact hv
 · contradiction
theorem cvL_sound {T : Bool → TypeId → Option (List CT)} {v0 : Value} (hz : κ.ρ 0 = 0) : ∀ {l l' : List AC} {vs : List Value}, cvL τ l l' = true → hasL T v0 κ l' vs → hasL T v0 (κ.tau τ) l vs
 | [], [], [], _, _ => trivial
 | [], [], _ :: _, _, hv => hv.elim
 | c :: l, c' :: l', [], _, hv => hv.elim
 | c :: l, c' :: l', v :: vs, h, hv => by
  simp only [cvL] at h
  split at h <;> try contradiction
  rename_i hc
  exact ⟨cvC_sound hz hc hv.1, cvL_sound hz h hv.2⟩
 | [], _ :: _, _, h, _ => by simp [cvL] at h
 | _ :: _, [], _, h, _ => by simp [cvL] at h
theorem cvV_sound {T : Bool → TypeId → Option (List CT)} {v0 : Value} (hz : κ.ρ 0 = 0) {x y : AV} {v : Value} (h : cvV τ x y = true) (hv : y.has T v0 κ v) : x.has T v0 (κ.tau τ) v := by
 cases x with
 | ud => trivial
 | one c => cases y <;> simp only [cvV, reduceCtorEq] at h; exact cvC_sound hz h hv
 | agg l => cases y <;> simp only [cvV, reduceCtorEq] at h; obtain ⟨vs, h1, h2⟩ := hv; exact ⟨vs, h1, cvL_sound hz h h2⟩
 | tup l => simp [cvV] at h
theorem cvS_look {N : Nat} : ∀ {l : List (Nat × AV)}, cvS τ st N l = true → ∀ {t : Nat} {v : AV}, Sx.look l t = some v → ∃ v', Sx.look st.sl t = some v' ∧ cvV τ v v' = true ∧ ltV N v = true
 | [], _, t, v, h => by simp [Sx.look] at h
 | (t', v') :: l, h, t, v, hl => by
  simp only [cvS] at h
  split at h <;> try contradiction
  rename_i v1 h1
  split at h <;> try contradiction
  rename_i hc
  simp only [Bool.and_eq_true] at hc
  rw [look_cons] at hl
  split at hl
  · rename_i ht; simp only [Option.some.injEq] at hl; subst hl ht; exact ⟨v1, h1, hc⟩
  · exact cvS_look h hl
theorem cvM_look {N : Nat} {ps : List Nat} : ∀ {l : List (Nat × TypeId × List AC)}, cvM τ st N ps l = true → ∀ {q : Nat} {x : TypeId × List AC}, Sx.look l q = some x → ∃ l', Sx.look st.mem q = some (x.1, l') ∧ cvL τ x.2 l' = true ∧ ltLs N x.2 = true ∧ q ∈ ps
 | [], _, t, v, h => by simp [Sx.look] at h
 | (q', t, c) :: l, h, q, x, hl => by
  simp only [cvM] at h
  split at h <;> try contradiction
  rename_i t' l' h1
  split at h <;> try contradiction
  rename_i hc
  simp only [Bool.and_eq_true, Nat.beq_eq] at hc
  rw [look_cons] at hl
  split at hl
  · rename_i ht
    simp only [Option.some.injEq] at hl
    subst hl ht
    obtain ⟨⟨⟨rfl, h2⟩, h3⟩, h4⟩ := hc
    exact ⟨l', h1, h2, h3, memN_iff.1 h4⟩
  · exact cvM_look h hl
theorem cvI_look {N : Nat} (hI : InOk p κ st.inp a w) : ∀ {l : List (Nat × Bd)}, cvI τ st N l = true → ∀ {x : Nat} {b : Bd}, Sx.look l x = some b → x < N ∧ b.ok p.M (tauv τ κ.ρ x)
 | [], _, x, b, h => by simp [Sx.look] at h
 | (x', b') :: l, h, x, b, hl => by
  simp only [cvI] at h
  split at h <;> try contradiction
  rename_i hc
  rw [look_cons] at hl
  split at hl
  · rename_i hxx
    simp only [Option.some.injEq] at hl
    subst hl hxx
    simp only [Bool.and_eq_true, blt_iff] at hc
    refine ⟨hc.1, ?_⟩
    have hc := hc.2
    have lin : ∀ {y : Nat}, y ≤ b'.a → (y : Int) * p.M ≤ (b'.a : Int) * p.M := fun hy => Int.mul_le_mul_of_nonneg_right (by omega) (by omega)
    unfold tauv
    split at hc <;> try contradiction
    rename_i i d hs
    split at hc <;> try contradiction
    rename_i lo y hi h1 h2
    simp only [Bool.and_eq_true, leI_iff, Nat.ble_eq] at hc
    have r1 := lob_le hI h1
    have r2 := upm_le hI h2
    have := lin hc.1.2
    simp only [Bd.ok]
    omega
  · exact cvI_look hI h hl
theorem cvT_mem {N : Nat} (hI : InOk p κ st.inp a w) : ∀ {l : List (Nat × Nat)}, cvT τ st N l = true → ∀ z ∈ l, z.1 < N ∧ z.2 < N ∧ tauv τ κ.ρ z.1 < tauv τ κ.ρ z.2
 | [], _, z, hz => by simp at hz
 | (x, y) :: l, h, z, hz => by
  simp only [cvT] at h
  split at h <;> try contradiction
  rename_i hc
  rcases List.mem_cons.1 hz with hz | hz
  · subst hz
    simp only [Bool.and_eq_true, blt_iff] at hc
    obtain ⟨⟨h1, h2⟩, hc⟩ := hc
    refine ⟨h1, h2, ?_⟩
    unfold tauv
    split at hc <;> try contradiction
    rename_i i d j e k1 k2
    rw [k1, k2]
    simp only [Bool.or_eq_true, Bool.and_eq_true, leI_iff, Nat.beq_eq, ltI'] at hc ⊢
    rcases hc with ⟨k3, k4⟩ | ⟨rfl, k4⟩
    · have := hI.lts i j k3
      omega
    · omega
  · exact cvT_mem hI h z hz
theorem ltNs_mem {N : Nat} : ∀ {l : List Nat}, ltNs N l = true → ∀ x ∈ l, x < N
 | [], _, x, hx => by simp at hx
 | y :: l, h, x, hx => by
  simp only [ltNs] at h
  split at h <;> try contradiction
  rename_i hc
  rcases List.mem_cons.1 hx with rfl | hx
  · exact blt_iff.1 hc
  · exact ltNs_mem h x hx
theorem cvR_rel {l l' : List (Nat × Int)} (h : cvR τ st J = true) (hpin : ∀ x ∈ p.pin, x.1 < J.nid) (hrel : Rel E (p.nm l) S0 w0 κ st a w) (hnum : ∀ x ∈ l', x.1 < J.nid ∧ tauv τ κ.ρ x.1 = x.2) : Rel E (p.nm l') S0 w0 (κ.tau τ) J a w ∧ LtsOk J := by
 simp only [cvR, Bool.and_eq_true, Nat.ble_eq, Nat.beq_eq, blt_iff] at h
 obtain ⟨⟨⟨⟨⟨⟨⟨⟨⟨⟨h1, h3⟩, h4⟩, h5⟩, h6⟩, h7⟩, h7'⟩, h8⟩, h8'⟩, h9⟩, h10⟩ := h
 have hz := hrel.inp.zero
 refine ⟨⟨hrel.size, hrel.defers, ⟨tauv_zero (τ := τ) hz, ?_, ?_, ?_, ?_, ?_, ?_, ?_, ?_⟩, ?_, ?_, ?_, ?_, ?_, ?_, ?_⟩, ⟨?_⟩⟩
 · intro t v hv
   obtain ⟨v', k1, k2, _⟩ := cvS_look h3 hv
   exact cvV_sound hz k2 (hrel.inp.slots t v' k1)
 · intro q t l hq
   obtain ⟨l', k1, k2, _, _⟩ := cvM_look h6 hq
   obtain ⟨k3, arr, tt, k4, k5⟩ := hrel.inp.mem q t l' k1
   exact ⟨k3, arr, tt, k4, cvL_sound hz k2 k5⟩
 · intro x b hb
   exact (cvI_look (p := p.nm l) (a := a) (w := w) hrel.inp h4 hb).2
 · intro i j hij
   exact (cvT_mem hrel.inp h5 _ (memL_mem hij)).2.2
 · exact h1
 · intro t v hv m
   obtain ⟨_, _, _, k⟩ := cvS_look h3 hv
   exact ltV_off k m
 · intro q t l hq
   obtain ⟨l', k1, _, k3, k4⟩ := cvM_look h6 hq
   exact ⟨ltNs_mem h8' q k4, ltLs_off k3⟩
 · intro x b hb
   exact (cvI_look (p := p.nm l) (a := a) (w := w) hrel.inp h4 hb).1
 · refine (hrel.wt.unnm.nm (l := l')).mono ?_
   rw [h9]
   simp only [Par.nm]
   omega
 · intro q q' hq hq' hqq
   exact hrel.inj q q' (subN_mem h8 q hq) (subN_mem h8 q' hq') hqq
 · intro q hq
   exact ⟨ltNs_mem h8' q hq, (hrel.ps q (subN_mem h8 q hq)).2⟩
 · intro q x hq
   obtain ⟨_, _, _, _, k⟩ := cvM_look h6 hq
   exact k
 · exact fun q hq => ltNs_mem h7' q hq
 · exact ⟨fun x hx => ⟨hpin x hx, (hrel.pin.1 x hx).2⟩, hnum⟩
 · have hf := hrel.fr
   exact ⟨hf.os, hf.tape, hf.output, hf.size, hf.ext, hf.newS, hf.same, fun q hq => hf.own q ⟨subN_mem h7 q hq.1, hrel.ownlt q (subN_mem h7 q hq.1)⟩⟩
 · intro z hz
   obtain ⟨k1, k2, _⟩ := cvT_mem hrel.inp h5 z hz
   exact ⟨k1, k2⟩
def nearer (τ : Tau) (lts : List (Nat × Nat)) (m : Nat) (up : Bool) : Bool := match tauG τ m with
 | some (i, d) => match up with
  | true => (Nat.beq i m && leI 1 d) || (memL m i lts && leI 0 d)
  | false => (Nat.beq i m && leI d (-1)) || (memL i m lts && leI d 0)
 | none => false
def allOk (J : St) (m : Nat) (up : Bool) : List St → List Tau → Bool
 | [], _ => true
 | s :: r, τ :: τs => match cvR τ s J && nearer τ s.lts m up with
  | true => allOk J m up r τs
  | false => false
 | _ :: _, [] => false
theorem allOk_mem {m : Nat} {up : Bool} : ∀ {l : List St} {τs : List Tau}, allOk J m up l τs = true → ∀ s ∈ l, ∃ τ, cvR τ s J = true ∧ nearer τ s.lts m up = true
 | [], _, _, s, hs => by simp at hs
 | s' :: r, τ :: τs, h, s, hs => by
  simp only [allOk] at h
  split at h <;> try contradiction
  rename_i hc
  rw [Bool.and_eq_true] at hc
  rcases List.mem_cons.1 hs with rfl | hs
  · exact ⟨τ, hc⟩
  · exact allOk_mem h s hs
 | _ :: _, [], h, s, hs => by simp [allOk] at h
def mu (J : St) (m : Nat) (up : Bool) (M : Nat) (x : Int) : Int := match Sx.look J.ids m with
 | some b => (match up with
  | true => (b.a : Int) * M + b.hi - x
  | false => x - b.lo)
 | none => 0
theorem InOk.nm {I : In} {l : List (Nat × Int)} (h : InOk p κ I a w) : InOk (p.nm l) κ I a w := ⟨h.zero, h.slots, h.mem, h.bd, h.lts, h.pos, h.offS, h.offM, h.offB⟩
theorem InOk.unnm {I : In} {l : List (Nat × Int)} (h : InOk (p.nm l) κ I a w) : InOk p κ I a w := ⟨h.zero, h.slots, h.mem, h.bd, h.lts, h.pos, h.offS, h.offM, h.offB⟩
theorem Rel.drop {l : List (Nat × Int)} (h : Rel E (p.nm l) S0 w0 κ st a w) (hn : p.num = []) : Rel E p S0 w0 κ st a w := by
 obtain ⟨q1, q2, q3, q4, q5, q6, q7, q8, q9, q10⟩ := h
 have : p = p.nm [] := by cases p; simp only at hn; subst hn; rfl
 rw [this]
 exact ⟨q1, q2, q3.unnm.nm, q4.unnm.nm, q5, q6, q7, q8, ⟨q9.1, fun x hx => by simp [Par.nm] at hx⟩, q10⟩
theorem Rel.take {l : List (Nat × Int)} (h : Rel E p S0 w0 κ st a w) (hn : ∀ x ∈ l, x.1 < st.nid ∧ κ.ρ x.1 = x.2) : Rel E (p.nm l) S0 w0 κ st a w := by
 obtain ⟨q1, q2, q3, q4, q5, q6, q7, q8, q9, q10⟩ := h
 exact ⟨q1, q2, q3.nm, q4.nm, q5, q6, q7, q8, ⟨q9.1, hn⟩, q10⟩
theorem loop_inv {body : Code} {rsB rl : Rs} {m : Nat} {up : Bool} {bd : Bd} {τs : List Tau} (hnum : p.num = []) (hpin : ∀ x ∈ p.pin, x.1 < J.nid)
  (hbody : ∀ (l : List (Nat × Int)) (S0 : SB') (w0 : World) (a : Act) (w : World), Good E (p.nm l) S0 w0 J a w → body.wp E.P (PostT E (p.nm l) S0 w0 rsB) a w)
  (hm : Sx.look J.ids m = some bd) (hn : allOk J m up (nrmS rsB) τs = true) (ho : ∀ x ∈ othS rsB, x ∈ rl) :
  ∃ N, LoopOk E p body J rl N := by
 refine ⟨((bd.a : Int) * p.M + bd.hi - bd.lo).toNat + 1, ?_⟩
 intro S0 w0 a w hg
 have key : ∀ (k : Nat) (a : Act) (w : World) (κ : Ctx), Rel E p S0 w0 κ J a w → LtsOk J → mu J m up p.M (κ.ρ m) < k → Code.rounds E.P body (PostT E p S0 w0 rl) k a w := by
  intro k
  induction k with
  | zero =>
   intro a w κ hrel _ hlt
   have h1 := hrel.inp.bd m bd hm
   simp only [mu, hm, Bd.ok] at hlt h1
   exfalso
   cases up <;> simp only at hlt <;> omega
  | succ k ih =>
   intro a w κ hrel hl hlt
   rw [rounds_succ]
   have hr1 : Rel E (p.nm [(m, κ.ρ m)]) S0 w0 κ J a w := hrel.take fun x hx => by
    simp only [List.mem_singleton] at hx
    subst hx
    exact ⟨hrel.inp.offB m bd hm, rfl⟩
   refine wp_mono (hbody _ S0 w0 a w ⟨κ, hr1, hl⟩) ?_
   rintro e a1 w1 ⟨ex, s, h3, h4, κ2, h5, h6⟩
   have other : ex ≠ .nrm → PostT E p S0 w0 rl e a1 w1 := fun hne => ⟨ex, s, ho _ (othS_mem hne h3), h4, κ2, h5.drop hnum, h6⟩
   cases e with
   | normal =>
    have := exOf_nrm h4
    subst this
    obtain ⟨τ, h7, h8⟩ := allOk_mem hn s (nrmS_mem h3)
    have hv : κ2.ρ m = κ.ρ m := (h5.pin.2 (m, κ.ρ m) (by simp [Par.nm])).2
    obtain ⟨h9, h10⟩ := cvR_rel (l' := []) h7 hpin h5 (by simp)
    refine ih a1 w1 (κ2.tau τ) (h9.drop hnum) h10 ?_
    have hd : mu J m up p.M ((κ2.tau τ).ρ m) < mu J m up p.M (κ.ρ m) := by
     simp only [mu, hm, Ctx.tau, tauv]
     unfold nearer at h8
     split at h8 <;> try contradiction
     rename_i i d hi
     have lt := h5.inp.lts
     cases up with
     | true =>
      simp only [Bool.or_eq_true, Bool.and_eq_true, Nat.beq_eq, leI_iff] at h8 ⊢
      rcases h8 with ⟨rfl, h⟩ | ⟨h, h'⟩
      · omega
      · have := lt m i h; omega
     | false =>
      simp only [Bool.or_eq_true, Bool.and_eq_true, Nat.beq_eq, leI_iff] at h8 ⊢
      rcases h8 with ⟨rfl, h⟩ | ⟨h, h'⟩
      · omega
      · have := lt i m h; omega
    omega
   | _ => exact other (by rintro rfl; simp [exOf] at h4)
 obtain ⟨κ, hrel, hl⟩ := hg
 refine key _ a w κ hrel hl ?_
 have h1 := hrel.inp.bd m bd hm
 simp only [Bd.ok] at h1
 simp only [mu, hm]
 cases up <;> simp only <;> omega
theorem LoopOk.cover {body : Code} {rl : Rs} {n : Nat} (hpin : ∀ x ∈ p.pin, x.1 < J.nid) (hnum : p.num = []) (h : LoopOk E p body J rl n) (hc : cvR τ st J = true) : LoopOk E p body st rl n := by
 intro S0 w0 a w hg
 obtain ⟨κ, hrel, hl⟩ := hg
 have hr1 : Rel E (p.nm []) S0 w0 κ st a w := hrel.take (by simp)
 obtain ⟨h9, h10⟩ := cvR_rel (l' := []) hc hpin hr1 (by simp)
 exact h S0 w0 a w ⟨_, h9.drop hnum, h10⟩
end
end Go.Ty
namespace Go.Sx
open Go Go.RowKit
def SI.soft : SI → SI
 | .lit n => .sym n
 | .sym n => .sym n
def SB.soft : SB → SB
 | .lit n => .sym n
 | .sym n => .sym n
def SV.soft : SV → SV
 | .int k n => .int k n.soft
 | .bool b => .bool b.soft
 | v => v
def TV.soft : TV → TV
 | .one v => .one v.soft
 | .agg l => .agg (l.map SV.soft)
 | v => v
theorem SV.soft_den (f : Nat → Nat) (v : SV) : v.soft.den f = v.den f := by
 cases v with
 | int k n => cases n <;> rfl
 | bool b => cases b <;> rfl
 | _ => rfl
theorem TV.soft_den (f : Nat → Nat) (v : TV) : v.soft.den f = v.den f := by
 cases v with
 | one v => exact SV.soft_den f v
 | agg l =>
  have h : l.map (SV.den f ∘ SV.soft) = l.map (SV.den f) := List.map_congr_left fun v _ => SV.soft_den f v
  simp only [TV.soft, TV.den, dens, List.map_map, h]
 | _ => rfl
def softIf (q : Bool) (v : TV) : TV := match q with
 | true => v.soft
 | false => v
def softL (q : Bool) (l : List SV) : List SV := match q with
 | true => l.map SV.soft
 | false => l
theorem softIf_den (f : Nat → Nat) (q : Bool) (v : TV) : (softIf q v).den f = v.den f := by
 cases q
 · rfl
 · exact TV.soft_den f v
theorem softIf_un {q : Bool} {v : TV} (h : softIf q v ≠ .un) : v ≠ .un := by
 rintro rfl
 cases q <;> exact h rfl
theorem softL_get {q : Bool} {l : List SV} {i : Nat} {v : SV} (h : (softL q l)[i]? = some v) : ∃ u, l[i]? = some u ∧ ∀ f, v.den f = u.den f := by
 cases q with
 | false => exact ⟨v, h, fun _ => rfl⟩
 | true =>
  simp only [softL, List.getElem?_map, Option.map_eq_some_iff] at h
  obtain ⟨u, hu, rfl⟩ := h
  exact ⟨u, hu, fun f => SV.soft_den f u⟩
theorem softL_length (q : Bool) (l : List SV) : (softL q l).length = l.length := by
 cases q <;> simp [softL]
def pickS (S : Nat → Option TV) : List (Nat × Bool) → SL
 | [] => []
 | (t, q) :: r => match S t with
  | some v => (t, softIf q v) :: pickS S r
  | none => pickS S r
def pickB (M : Mem) : List (Nat × Bool) → Option (List (Nat × BI))
 | [] => some []
 | (b, q) :: r => match look M.blks b with
  | some i => match rangeC M.get b 0 i.init.length with
   | some l => match pickB M r with
    | some t => some ((b, ⟨i.elem, softL q l, i.rw⟩) :: t)
    | none => none
   | none => none
  | none => none
theorem pickS_look {S : Nat → Option TV} : ∀ {ks : List (Nat × Bool)} {t : Nat} {v : TV}, look (pickS S ks) t = some v → ∃ u q, S t = some u ∧ v = softIf q u
 | [], t, v, h => by simp [pickS, look] at h
 | (k, q) :: r, t, v, h => by
  simp only [pickS] at h
  split at h
  · rename_i u hu
    rw [look_cons] at h
    split at h
    · rename_i hk
      simp only [Option.some.injEq] at h
      subst hk h
      exact ⟨u, q, hu, rfl⟩
    · exact pickS_look h
  · exact pickS_look h
theorem pickS_rel {f : Nat → Nat} {S : Nat → Option TV} {a : Act} (h : SRel f S a) (ks : List (Nat × Bool)) : SRel f (look (pickS S ks)) a := by
 intro t v hv hne
 obtain ⟨u, q, hu, rfl⟩ := pickS_look hv
 rw [softIf_den]
 exact h t u hu (softIf_un hne)
theorem pickB_look {M : Mem} : ∀ {bs : List (Nat × Bool)} {Bl : List (Nat × BI)} {b : Nat} {i : BI}, pickB M bs = some Bl → look Bl b = some i →
  (∃ q, (b, q) ∈ bs) ∧ ∃ j l q, look M.blks b = some j ∧ rangeC M.get b 0 j.init.length = some l ∧ i = ⟨j.elem, softL q l, j.rw⟩
 | [], Bl, b, i, h, hl => by
  simp only [pickB, Option.some.injEq] at h
  subst h
  simp [look] at hl
 | (k, q) :: r, Bl, b, i, h, hl => by
  simp only [pickB] at h
  split at h <;> try contradiction
  rename_i j hj
  split at h <;> try contradiction
  rename_i l hrl
  split at h <;> try contradiction
  rename_i t ht
  simp only [Option.some.injEq] at h
  subst h
  rw [look_cons] at hl
  split at hl
  · rename_i hk
    simp only [Option.some.injEq] at hl
    subst hk hl
    exact ⟨⟨q, by simp⟩, j, l, q, hj, hrl, rfl⟩
  · obtain ⟨⟨q', h1⟩, h2⟩ := pickB_look ht hl
    exact ⟨⟨q', List.mem_cons_of_mem _ h1⟩, h2⟩
theorem pickB_ok {w0 : World} {X : Nat → Prop} {f : Nat → Nat} {M : Mem} {w : World} (h : MOk w0 X f M w) {bs : List (Nat × Bool)} {Bl : List (Nat × BI)} {N : Nat}
  (hp : pickB M bs = some Bl) (hN : allB (fun p => Nat.blt p.1 N) bs = true) : MOk w0 X f ⟨[], Bl, N⟩ w := by
 have hget : ∀ b o v, (⟨[], Bl, N⟩ : Mem).get b o = some v → ∃ i, look Bl b = some i ∧ i.init[o]? = some v := by
  intro b o v hv
  simp only [Mem.get, findC] at hv
  split at hv
  · rename_i i hi; exact ⟨i, hi, hv⟩
  · cases hv
 refine ⟨?_, ?_, ?_, ?_, ?_, ?_⟩
 · intro b i hi
   obtain ⟨_, j, l, q, hj, hl, rfl⟩ := pickB_look hp hi
   obtain ⟨arr, ha, hs⟩ := h.blk b j hj
   exact ⟨arr, ha, by rw [hs, softL_length, (rangeC_get hl).1]⟩
 · intro b o v hv
   obtain ⟨i, hi, hv⟩ := hget b o v hv
   obtain ⟨_, j, l, q, hj, hl, rfl⟩ := pickB_look hp hi
   obtain ⟨u, hu, hd⟩ := softL_get hv
   have h2 := (rangeC_get hl).2 o u hu
   rw [Nat.zero_add] at h2
   rw [hd f]
   exact h.cell b o u h2
 · intro b o v hv
   obtain ⟨i, hi, _⟩ := hget b o v hv
   exact ⟨i, hi⟩
 · intro b c i j hi hj hf
   obtain ⟨_, j1, _, _, h1, _, _⟩ := pickB_look hp hi
   obtain ⟨_, j2, _, _, h2, _, _⟩ := pickB_look hp hj
   exact h.inj b c j1 j2 h1 h2 hf
 · intro b i hi hrw
   obtain ⟨_, j, l, q, hj, hl, rfl⟩ := pickB_look hp hi
   exact h.own b j hj hrw
 · intro b i hi
   obtain ⟨⟨q, hm⟩, _⟩ := pickB_look hp hi
   exact lt_of_blt (allB_iff hN _ hm)
structure LH where
 ks : List (Nat × Bool)
 bs : List (Nat × Bool)
 N : Nat
 F : SL → List (Nat × BI) → Option (SB × Ex × SL × List (Nat × BI))
inductive HT where
 | plain
 | seq (a b : HT)
 | block (a : HT)
 | cond (a b : HT)
 | loop (h : LH)
def noMem : Mem := ⟨[], [], 0⟩
def runL (P : Program) (W : World) (G : List (Nat × Spec)) (n nt : Nat) : HT → Code → SL → Mem → R
 | .plain, c, s, m => run P W G n (.code c) ⟨nt, [], noMem⟩ s m
 | .seq x y, .seq a b, s, m => (runL P W G n nt x a s m).bind fun s' m' => runL P W G n nt y b s' m'
 | .block x, .block id c, s, m => (runL P W G n nt x c s m).unblock id
 | .cond x y, .cond c a b, s, m => match evalO (look s) c with
  | some (.one (.bool (.lit true))) => runL P W G n nt x a s m
  | some (.one (.bool (.lit false))) => runL P W G n nt y b s m
  | some (.one (.bool (.sym q))) => .br q (runL P W G n nt x a s m) (runL P W G n nt y b s m)
  | _ => .fail
 | .loop h, .loop _, s, m => match Nat.beq m.next h.N && allB (fun p => Nat.blt p.1 h.N) h.bs with
  | true => match pickB m h.bs with
   | some Bl => match h.F (pickS (look s) h.ks) Bl with
    | some (vc, e, S', Bl') => .leaf e vc S' ⟨[], Bl', h.N⟩
    | none => .fail
   | none => .fail
  | false => .fail
 | _, _, _, _ => .fail
theorem on_noMem (m : Mem) : m.on noMem = m := by cases m; simp [Mem.on, noMem]
def LPost (W w0 : World) (X : Nat → Prop) (nt : Nat) (f : Nat → Nat) (n0 : Nat) (r : R) (e : Exit) (a : Act) (w : World) : Prop := Post W w0 X nt [] noMem f n0 r e a w
def LoopOk (W : World) (P : Program) (nt : Nat) (body : Code) (h : LH) : Prop :=
 ∀ (w0 : World) (X : Nat → Prop) (f : Nat → Nat) (a : Act) (w : World) (S : SL) (Bl : List (Nat × BI)) (vc : SB) (e : Ex) (S' : SL) (Bl' : List (Nat × BI)),
  h.F S Bl = some (vc, e, S', Bl') → vc.val = true → Rel W w0 X nt S ⟨[], Bl, h.N⟩ f a w →
  (Code.loop body).wp P (LPost W w0 X nt f h.N (.leaf e vc S' ⟨[], Bl', h.N⟩)) a w
section
variable {W w0 : World} {X : Nat → Prop} {P : Program} {G : List (Nat × Spec)}
inductive RL where
 | fail
 | leaf (e : Ex) (vc : SB) (s : SL) (b : List (Nat × BI))
 | br (b : Bool) (x y : RL)
def R.slim (N : Nat) (ks bs ke be : List (Nat × Bool)) : R → RL
 | .fail => .fail
 | .leaf .nrm vc s m => match pickB m bs with
  | some l => .leaf .nrm vc (pickS (look s) ks) l
  | none => .fail
 | .leaf e vc s m => match pickB m be with
  | some l => .leaf e vc (pickS (look s) ke) l
  | none => .fail
 | .br b x y => .br b (x.slim N ks bs ke be) (y.slim N ks bs ke be)
def Ex.sel {α : Type} (e : Ex) (a b : α) : α := match e with
 | .nrm => a
 | _ => b
end
section
open Classical
def sameSI : SI → SI → Bool
 | .lit a, .lit b => decide (a = b)
 | .sym a, .sym b => decide (a = b)
 | _, _ => false
def sameSB : SB → SB → Bool
 | .lit a, .lit b => decide (a = b)
 | .sym a, .sym b => decide (a = b)
 | _, _ => false
noncomputable def sameSV : SV → SV → Bool
 | .int k a, .int k' b => kindEq k k' && sameSI a b
 | .bool a, .bool b => sameSB a b
 | .ptr b o, .ptr c p => Nat.beq b c && Nat.beq o p
 | .str a, .str b => @decide (a = b) (propDecidable _)
 | .sl a n c, .sl a' n' c' => @decide (a = a') (propDecidable _) && (decide (n = n') && decide (c = c'))
 | .row b o n c, .row b' o' n' c' => Nat.beq b b' && Nat.beq o o' && (Nat.beq n n' && Nat.beq c c')
 | .nilP, .nilP => true
 | .nilF, .nilF => true
 | .nilI, .nilI => true
 | .nilM, .nilM => true
 | _, _ => false
noncomputable def sameL : List SV → List SV → Bool
 | [], [] => true
 | a :: l, b :: m => sameSV a b && sameL l m
 | _, _ => false
noncomputable def sameTV : TV → TV → Bool
 | .one a, .one b => sameSV a b
 | .agg l, .agg m => sameL l m
 | _, _ => false
noncomputable def sameS : SL → SL → Bool
 | [], [] => true
 | (t, a) :: l, (u, b) :: m => Nat.beq t u && (sameTV a b && sameS l m)
 | _, _ => false
noncomputable def sameB : List (Nat × BI) → List (Nat × BI) → Bool
 | [], [] => true
 | (t, a) :: l, (u, b) :: m => Nat.beq t u && (Nat.beq a.elem b.elem && (sameL a.init b.init && ((a.rw == b.rw) && sameB l m)))
 | _, _ => false
end
theorem sameSI_eq {a b : SI} (h : sameSI a b = true) : a = b := by
 cases a <;> cases b <;> simp_all [sameSI]
theorem sameSB_eq {a b : SB} (h : sameSB a b = true) : a = b := by
 cases a <;> cases b <;> simp_all [sameSB]
theorem kindEq_eq' {k k' : IntKind} (h : kindEq k k' = true) : k = k' := by
 cases k <;> cases k' <;> first | rfl | exact absurd h (by decide)
theorem sameSV_eq {a b : SV} (h : sameSV a b = true) : a = b := by
 cases a <;> cases b <;> simp only [sameSV, Bool.and_eq_true, Nat.beq_eq, decide_eq_true_eq] at h <;> first
  | exact absurd h (by decide)
  | rfl
  | (obtain ⟨h1, h2⟩ := h; rw [kindEq_eq' h1, sameSI_eq h2])
  | (rw [sameSB_eq h])
  | (rw [h])
  | (obtain ⟨⟨rfl, rfl⟩, rfl, rfl⟩ := h; rfl)
  | (obtain ⟨rfl, rfl, rfl⟩ := h; rfl)
  | (obtain ⟨rfl, rfl⟩ := h; rfl)
theorem sameL_eq : ∀ {l m : List SV}, sameL l m = true → l = m
 | [], [], _ => rfl
 | a :: l, b :: m, h => by
  simp only [sameL, Bool.and_eq_true] at h
  rw [sameSV_eq h.1, sameL_eq h.2]
 | [], _ :: _, h => by simp [sameL] at h
 | _ :: _, [], h => by simp [sameL] at h
theorem sameTV_eq {a b : TV} (h : sameTV a b = true) : a = b := by
 cases a <;> cases b <;> simp only [sameTV] at h <;> first
  | exact absurd h (by decide)
  | rw [sameSV_eq h]
  | rw [sameL_eq h]
theorem sameS_eq : ∀ {l m : SL}, sameS l m = true → l = m
 | [], [], _ => rfl
 | (t, a) :: l, (u, b) :: m, h => by
  simp only [sameS, Bool.and_eq_true, Nat.beq_eq] at h
  rw [h.1, sameTV_eq h.2.1, sameS_eq h.2.2]
 | [], _ :: _, h => by simp [sameS] at h
 | _ :: _, [], h => by simp [sameS] at h
theorem sameB_eq : ∀ {l m : List (Nat × BI)}, sameB l m = true → l = m
 | [], [], _ => rfl
 | (t, ⟨e, i, r⟩) :: l, (u, ⟨e', i', r'⟩) :: m, h => by
  simp only [sameB, Bool.and_eq_true, Nat.beq_eq, beq_iff_eq] at h
  obtain ⟨rfl, rfl, h1, rfl, h2⟩ := h
  rw [sameL_eq h1, sameB_eq h2]
 | [], _ :: _, h => by simp [sameB] at h
 | _ :: _, [], h => by simp [sameB] at h
def SV.plain : SV → Bool
 | .clo _ _ => false
 | .pa _ => false
 | _ => true
def TV.plain : TV → Bool
 | .one v => v.plain
 | .agg l => allB SV.plain l
 | _ => false
theorem kindEq_refl' (k : IntKind) : kindEq k k = true := by cases k <;> rfl
theorem sameSV_refl {v : SV} (h : v.plain = true) : sameSV v v = true := by
 cases v with
 | int k n => cases n <;> simp [sameSV, sameSI, kindEq_refl']
 | bool b => cases b <;> simp [sameSV, sameSB]
 | ptr b o => simp [sameSV]
 | clo _ _ => exact absurd h (by simp [SV.plain])
 | str a => exact @decide_eq_true _ (Classical.propDecidable _) rfl
 | sl a n c => simp [sameSV]
 | row b o n c => simp [sameSV]
 | pa _ => exact absurd h (by simp [SV.plain])
 | _ => rfl
theorem sameL_refl : ∀ {l : List SV}, allB SV.plain l = true → sameL l l = true
 | [], _ => rfl
 | v :: l, h => by
  have h1 := allB_iff h v (by simp)
  have h2 : allB SV.plain l = true := by
   simp only [allB] at h
   split at h <;> try contradiction
   exact h
  simp only [sameL, sameSV_refl h1, sameL_refl h2, Bool.and_self]
theorem sameTV_refl {v : TV} (h : v.plain = true) : sameTV v v = true := by
 cases v with
 | one v => exact sameSV_refl h
 | agg l => exact sameL_refl h
 | _ => exact absurd h (by simp [TV.plain])
theorem sameS_refl : ∀ {l : SL}, allB (fun p => p.2.plain) l = true → sameS l l = true
 | [], _ => rfl
 | (t, v) :: l, h => by
  have h1 := allB_iff h (t, v) (by simp)
  have h2 : allB (fun p : Nat × TV => p.2.plain) l = true := by
   simp only [allB] at h
   split at h <;> try contradiction
   exact h
  simp only [sameS, sameTV_refl h1, sameS_refl h2, Bool.and_self, Nat.beq_refl]
theorem sameB_refl : ∀ {l : List (Nat × BI)}, allB (fun p => allB SV.plain p.2.init) l = true → sameB l l = true
 | [], _ => rfl
 | (t, v) :: l, h => by
  have h1 := allB_iff h (t, v) (by simp)
  have h2 : allB (fun p : Nat × BI => allB SV.plain p.2.init) l = true := by
   simp only [allB] at h
   split at h <;> try contradiction
   exact h
  simp only [sameB, sameL_refl h1, sameB_refl h2, Bool.and_self, Nat.beq_refl, beq_self_eq_true]
end Go.Sx
