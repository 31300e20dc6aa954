/- A part of the proof: the reference is safe, both packages write and read alike. Several texts in one; printed by slim28.py out of the texts of wip. -/
import Derived.Test.YtjmnolhkkpaodaaGreatDoorZ19
import Derived.Test.YtjmnolhkkpaodaaGreatDoorRows
import Derived.Test.YtjmnolhkkpaodaaGreatDoorChecked
set_option linter.all false
namespace Go.Ty
open Go Go.Sx
inductive SE where
 | num (i : Nat) (d : Int)
 | bl (b : AB)
def SE.val (ρ : Nat → Int) : SE → Int
 | .num i d => ρ i + d
 | .bl b => if b.val ρ then 1 else 0
def eqCmp : Cmp → Cmp → Bool
 | .lt, .lt => true
 | .le, .le => true
 | .eq, .eq => true
 | .ne, .ne => true
 | _, _ => false
def eqAB : AB → AB → Bool
 | .lit a, .lit b => a == b
 | .cmp c i d j e, .cmp c' i' d' j' e' => eqCmp c c' && Nat.beq i i' && eqI d d' && Nat.beq j j' && eqI e e'
 | _, _ => false
theorem eqAB_eq {a b : AB} (h : eqAB a b = true) : a = b := by
 cases a <;> cases b <;> simp only [eqAB, Bool.and_eq_true, beq_iff_eq, Nat.beq_eq, eqI_iff, reduceCtorEq] at h
 · rw [h]
 · rename_i c i d j e c' i' d' j' e'
   obtain ⟨⟨⟨⟨h1, h2⟩, h3⟩, h4⟩, h5⟩ := h
   have : c = c' := by cases c <;> cases c' <;> first | rfl | (simp [eqCmp] at h1)
   rw [this, h2, h3, h4, h5]
section
variable (σ : List SE) (n0 : Nat) (B : Nat → Option Bd)
def sAt (x : Nat) : Option SE := match Nat.ble n0 x with
 | true => σ[x - n0]?
 | false => none
def isNum (x : Nat) (i : Nat) (d : Int) : Bool := match sAt σ n0 x with
 | some (.num i' d') => Nat.beq i i' && eqI d d'
 | _ => false
def bdOf (B : Nat → Option Bd) (i : Nat) (d : Int) : Option Bd := match lob B i d, upm B i d with
 | some l, some (a, h) => some ⟨l, a, h⟩
 | _, _ => none
def covC : AC → AC → Bool
 | .int k x e, .int k' i d => kindEq k k' && ((Nat.beq x i && eqI e d) || (eqI e 0 && isNum σ n0 x i d))
 | .bool b', .bool b => eqAB b' b || (match b' with
  | .cmp .eq x 0 0 1 => (match sAt σ n0 x with
   | some (.bl b0) => eqAB b0 b
   | _ => false)
  | _ => false)
 | .slc t x e, .slc t' i d => Nat.beq t t' && ((Nat.beq x i && eqI e d) || (eqI e 0 && isNum σ n0 x i d))
 | .slc _ x e, .nils => eqI e 0 && (Nat.beq x 0 || isNum σ n0 x 0 0)
 | .nils, .nils => true
 | .ptr t q o, .ptr t' q' o' => Nat.beq t t' && Nat.beq q q' && Nat.beq o o'
 | .eptr t o, .eptr t' o' => Nat.beq t t' && Nat.beq o o'
 | .fix, .fix => true
 | .anyI k, .anyI k' => kindEq k k'
 | .anyI k, .int k' i d => kindEq k k' && (match bdOf B i d with
  | some b => Nat.beq b.a 0 && leI (klo k) b.lo && leI b.hi (khi k)
  | none => false)
 | .anyB, .anyB => true
 | .anyB, .bool _ => true
 | _, _ => false
def covL : List AC → List AC → Bool
 | [], [] => true
 | c :: l, c' :: l' => match covC σ n0 B c c' with
  | true => covL l l'
  | false => false
 | _, _ => false
def covP : List (Bool × List AC) → List (Bool × List AC) → Bool
 | [], [] => true
 | (b, c) :: l, (b', c') :: l' => match b == b' && covL σ n0 B c c' with
  | true => covP l l'
  | false => false
 | _, _ => false
def covV : AV → AV → Bool
 | .ud, _ => true
 | .one c, .one c' => covC σ n0 B c c'
 | .agg l, .agg l' => covL σ n0 B l l'
 | .tup l, .tup l' => covP σ n0 B l l'
 | _, _ => false
def covS (st : St) (N : Nat) : List (Nat × AV) → Bool
 | [] => true
 | (t, v) :: r => match Sx.look st.sl t with
  | some v' => match covV σ n0 (Sx.look st.ids) v v' && ltV N v with
   | true => covS st N r
   | false => false
  | none => false
def covI (st : St) (N : Nat) : List (Nat × Bd) → Bool
 | [] => true
 | (x, b) :: r => match Nat.blt x N && (match sAt σ n0 x with
   | some (.num i d) => (match lob (Sx.look st.ids) i d, upm (Sx.look st.ids) i d with
    | some l, some (a, h) => leI b.lo l && Nat.ble a b.a && leI h b.hi
    | _, _ => false)
   | some (.bl _) => leI b.lo 0 && leI 1 b.hi
   | none => (match Sx.look st.ids x with
    | some b' => leI b.lo b'.lo && Nat.ble b'.a b.a && leI b'.hi b.hi
    | none => false)) with
  | true => covI st N r
  | false => false
def covT (st : St) : List (Nat × Nat) → Bool
 | [] => true
 | (i, j) :: r => match memL i j st.lts with
  | true => covT st r
  | false => false
def covM (st : St) (N : Nat) (ps : List Nat) : List (Nat × TypeId × List AC) → Bool
 | [] => true
 | (q, t, l) :: r => match Sx.look st.mem q with
  | some (t', l') => match Nat.beq t t' && covL σ n0 (Sx.look st.ids) l l' && ltLs N l && memN q ps with
   | true => covM st N ps r
   | false => false
  | none => false
def subN (s : List Nat) : List Nat → Bool
 | [] => true
 | x :: r => match memN x s with
  | true => subN s r
  | false => false
def cov (st J : St) : Bool :=
 Nat.ble st.nid n0 && Nat.beq J.nid (n0 + σ.length) && covS σ n0 st J.nid J.sl && covI σ n0 st J.nid J.ids && covT st J.lts && covM σ n0 st J.nid J.ps J.mem && subN st.own J.own && subN st.ps J.ps && Nat.beq st.A J.A && Nat.ble st.K J.K
end
section
variable {σ : List SE} {n0 : Nat} {E : Env} {p : Par} {κ : Ctx} {st J : St} {a : Act} {w w0 : World} {S0 : SB'} {B : Nat → Option Bd} {M : Nat}
theorem sAt_put {x : Nat} {s : SE} (h : sAt σ n0 x = some s) : (κ.put n0 (σ.map (SE.val κ.ρ))).ρ x = s.val κ.ρ := by
 unfold sAt at h
 split at h <;> try contradiction
 rename_i hle
 have hle := Nat.le_of_ble_eq_true hle
 have := Ctx.put_at (κ := κ) (n := n0) (xs := σ.map (SE.val κ.ρ)) (j := x - n0) (x := s.val κ.ρ) (by simp [h])
 rwa [show n0 + (x - n0) = x by omega] at this
theorem isNum_put {x i : Nat} {d : Int} (h : isNum σ n0 x i d = true) : (κ.put n0 (σ.map (SE.val κ.ρ))).ρ x = κ.ρ i + d := by
 unfold isNum at h
 split at h <;> try contradiction
 rename_i i' d' hs
 simp only [Bool.and_eq_true, Nat.beq_eq, eqI_iff] at h
 rw [sAt_put hs, SE.val, h.1, h.2]
theorem bl_val (ρ : Nat → Int) (b : AB) : decide ((SE.bl b).val ρ + 0 = 0 + 1) = b.val ρ := by
 have h : (SE.bl b).val ρ = if b.val ρ = true then 1 else 0 := rfl
 by_cases hb : b.val ρ = true
 · rw [if_pos hb] at h
   simp [h, hb]
 · rw [if_neg hb] at h
   rw [Bool.not_eq_true] at hb
   simp [h, hb]
theorem covC_sound {T : Bool → TypeId → Option (List CT)} {v0 : Value} (hB : ∀ i (b : Bd), B i = some b → b.ok M (κ.ρ i)) (hz : κ.ρ 0 = 0) (hn : 0 < n0) {cJ c : AC} {v : Value} (h : covC σ n0 B cJ c = true) (hv : c.has T v0 κ v) (ho : ∀ m, c.off n0 m) : cJ.has T v0 (κ.put n0 (σ.map (SE.val κ.ρ))) v := by
 have hag : Agree κ (κ.put n0 (σ.map (SE.val κ.ρ))) n0 (σ.map (SE.val κ.ρ)).length := Ctx.put_agree
 have hv' := AC.has_agree hag hv (ho _)
 have hz' : (κ.put n0 (σ.map (SE.val κ.ρ))).ρ 0 = 0 := by rw [Ctx.put_zero hn, hz]
 unfold covC at h
 split at h
 · rename_i k x e k' i d
   simp only [Bool.and_eq_true, Bool.or_eq_true, Nat.beq_eq, eqI_iff] at h
   obtain ⟨hk, h⟩ := h
   have hk := kindEq_eq hk
   subst hk
   rcases h with ⟨rfl, rfl⟩ | ⟨rfl, h⟩
   · exact hv'
   · simp only [AC.has, isNum_put h] at hv ⊢
     rw [hv]; simp
 · rename_i b' b
   simp only [Bool.or_eq_true] at h
   rcases h with h | h
   · have := eqAB_eq h
     subst this
     exact hv'
   · split at h <;> try contradiction
     rename_i x
     split at h <;> try contradiction
     rename_i b0 hs
     have := eqAB_eq h
     subst this
     simp only [AC.has] at hv ⊢
     have hx : (AB.cmp .eq x 0 0 1).val (κ.put n0 (σ.map (SE.val κ.ρ))).ρ = decide ((κ.put n0 (σ.map (SE.val κ.ρ))).ρ x + 0 = (κ.put n0 (σ.map (SE.val κ.ρ))).ρ 0 + 1) := rfl
     rw [hv, hx, sAt_put hs, hz', bl_val]
 · rename_i t x e t' i d
   simp only [Bool.and_eq_true, Bool.or_eq_true, Nat.beq_eq, eqI_iff] at h
   obtain ⟨ht, h⟩ := h
   subst ht
   rcases h with ⟨rfl, rfl⟩ | ⟨rfl, h⟩
   · exact hv'
   · simp only [AC.has, isNum_put h, Int.add_zero] at hv ⊢
     exact hv
 · rename_i t x e
   simp only [Bool.and_eq_true, Bool.or_eq_true, Nat.beq_eq, eqI_iff] at h
   obtain ⟨rfl, h⟩ := h
   simp only [AC.has] at hv ⊢
   subst hv
   refine ⟨none, 0, 0, rfl, ?_, .inl ⟨rfl, rfl, rfl⟩⟩
   rcases h with rfl | h
   · rw [hz']; rfl
   · rw [isNum_put h, hz]; rfl
 · exact hv'
 · simp only [Bool.and_eq_true, Nat.beq_eq] at h
   obtain ⟨⟨rfl, rfl⟩, rfl⟩ := h
   exact hv'
 · simp only [Bool.and_eq_true, Nat.beq_eq] at h
   obtain ⟨rfl, rfl⟩ := h
   exact hv'
 · exact hv'
 · rename_i k k'
   have hk := kindEq_eq h
   subst hk
   exact hv
 · rename_i k k' i d
   simp only [Bool.and_eq_true] at h
   obtain ⟨hk, h⟩ := h
   have hk := kindEq_eq hk
   subst hk
   split at h <;> try contradiction
   rename_i b hb
   simp only [Bool.and_eq_true, Nat.beq_eq, leI_iff] at h
   refine ⟨κ.ρ i + d, hv, ?_⟩
   unfold bdOf at hb
   split at hb <;> try contradiction
   rename_i l x y hl hu
   simp only [Option.some.injEq] at hb
   subst hb
   simp only at h
   obtain ⟨⟨rfl, h2⟩, h3⟩ := h
   unfold lob at hl
   unfold upm at hu
   split at hl
   · rename_i hi
     have hi' := Nat.eq_of_beq_eq_true hi
     subst hi'
     rw [hi] at hu
     simp only [Option.some.injEq, Prod.mk.injEq] at hl hu
     omega
   · rename_i hi
     rw [hi] at hu
     simp only at hu
     split at hl <;> try contradiction
     rename_i b0 hb0
     rw [hb0] at hu
     simp only [Option.some.injEq, Prod.mk.injEq] at hl hu
     have := hB i b0 hb0
     simp only [Bd.ok] at this
     rw [hu.1] at this
     omega
 · exact hv
 · exact ⟨_, hv⟩
 · contradiction
theorem covL_sound {T : Bool → TypeId → Option (List CT)} {v0 : Value} (hB : ∀ i (b : Bd), B i = some b → b.ok M (κ.ρ i)) (hz : κ.ρ 0 = 0) (hn : 0 < n0) : ∀ {l l' : List AC} {vs : List Value}, covL σ n0 B l l' = true → hasL T v0 κ l' vs → (∀ m, offL n0 m l') → hasL T v0 (κ.put n0 (σ.map (SE.val κ.ρ))) l vs
 | [], [], [], _, _, _ => trivial
 | [], [], _ :: _, _, hv, _ => hv.elim
 | c :: l, c' :: l', [], _, hv, _ => hv.elim
 | c :: l, c' :: l', v :: vs, h, hv, ho => by
  simp only [covL] at h
  split at h <;> try contradiction
  rename_i hc
  exact ⟨covC_sound hB hz hn hc hv.1 fun m => ho m c' (by simp), covL_sound hB hz hn h hv.2 fun m x hx => ho m x (by simp [hx])⟩
 | [], _ :: _, _, h, _, _ => by simp [covL] at h
 | _ :: _, [], _, h, _, _ => by simp [covL] at h
theorem covP_sound {T : Bool → TypeId → Option (List CT)} {v0 : Value} (hB : ∀ i (b : Bd), B i = some b → b.ok M (κ.ρ i)) (hz : κ.ρ 0 = 0) (hn : 0 < n0) : ∀ {l l' : List (Bool × List AC)} {vs : List Value}, covP σ n0 B l l' = true → hasPs T v0 κ l' vs → (∀ m, ∀ q ∈ l', offL n0 m q.2) → hasPs T v0 (κ.put n0 (σ.map (SE.val κ.ρ))) l vs
 | [], [], [], _, _, _ => trivial
 | [], [], _ :: _, _, hv, _ => hv.elim
 | c :: l, c' :: l', [], _, hv, _ => hv.elim
 | (b, c) :: l, (b', c') :: l', v :: vs, h, hv, ho => by
  simp only [covP] at h
  split at h <;> try contradiction
  rename_i hc
  simp only [Bool.and_eq_true, beq_iff_eq] at hc
  obtain ⟨rfl, hc⟩ := hc
  refine ⟨?_, covP_sound hB hz hn h hv.2 fun m x hx => ho m x (by simp [hx])⟩
  have hoc : ∀ m, offL n0 m c' := fun m => ho m (b, c') (by simp)
  have hvv := hv.1
  cases b with
  | true =>
   obtain ⟨us, h1, h2⟩ := hvv
   exact ⟨us, h1, covL_sound hB hz hn hc h2 hoc⟩
  | false =>
   match c', c, hvv, hc, hoc with
   | [d], [e], hvv, hc, hoc => exact (covL_sound (vs := [v]) hB hz hn hc ⟨hvv, trivial⟩ hoc).1
   | [d], [], _, hc, _ => simp [covL] at hc
   | [d], e :: f :: g, _, hc, _ =>
    simp only [covL] at hc
    split at hc <;> simp at hc
   | [], _, hvv, _, _ => exact hvv.elim
   | _ :: _ :: _, _, hvv, _, _ => exact hvv.elim
 | [], _ :: _, _, h, _, _ => by simp [covP] at h
 | _ :: _, [], _, h, _, _ => by simp [covP] at h
theorem covV_sound {T : Bool → TypeId → Option (List CT)} {v0 : Value} (hB : ∀ i (b : Bd), B i = some b → b.ok M (κ.ρ i)) (hz : κ.ρ 0 = 0) (hn : 0 < n0) {x y : AV} {v : Value} (h : covV σ n0 B x y = true) (hv : y.has T v0 κ v) (ho : ∀ m, y.off n0 m) : x.has T v0 (κ.put n0 (σ.map (SE.val κ.ρ))) v := by
 cases x with
 | ud => trivial
 | one c => cases y <;> simp only [covV, reduceCtorEq] at h; exact covC_sound hB hz hn h hv ho
 | agg l => cases y <;> simp only [covV, reduceCtorEq] at h; obtain ⟨vs, h1, h2⟩ := hv; exact ⟨vs, h1, covL_sound hB hz hn h h2 ho⟩
 | tup l => cases y <;> simp only [covV, reduceCtorEq] at h; obtain ⟨vs, h1, h2⟩ := hv; exact ⟨vs, h1, covP_sound hB hz hn h h2 ho⟩
theorem covS_look {N : Nat} : ∀ {l : List (Nat × AV)}, covS σ n0 st N l = true → ∀ {t : Nat} {v : AV}, Sx.look l t = some v → ∃ v', Sx.look st.sl t = some v' ∧ covV σ n0 (Sx.look st.ids) v v' = true ∧ ltV N v = true
 | [], _, t, v, h => by simp [Sx.look] at h
 | (t', v') :: l, h, t, v, hl => by
  simp only [covS] at h
  split at h <;> try contradiction
  rename_i u hu
  split at h <;> try contradiction
  rename_i hc
  simp only [Bool.and_eq_true] at hc
  rw [look_cons] at hl
  split at hl
  · rename_i htt
    simp only [Option.some.injEq] at hl
    subst hl htt
    exact ⟨u, hu, hc⟩
  · exact covS_look h hl
theorem covM_look {N : Nat} {ps : List Nat} : ∀ {l : List (Nat × TypeId × List AC)}, covM σ n0 st N ps l = true → ∀ {q : Nat} {x : TypeId × List AC}, Sx.look l q = some x → ∃ l', Sx.look st.mem q = some (x.1, l') ∧ covL σ n0 (Sx.look st.ids) x.2 l' = true ∧ ltLs N x.2 = true ∧ q ∈ ps
 | [], _, t, v, h => by simp [Sx.look] at h
 | (q', t, c) :: l, h, q, x, hl => by
  simp only [covM] at h
  split at h <;> try contradiction
  rename_i t' l' hu
  split at h <;> try contradiction
  rename_i hc
  simp only [Bool.and_eq_true, Nat.beq_eq] at hc
  obtain ⟨⟨⟨rfl, h2⟩, h3⟩, h4⟩ := hc
  rw [look_cons] at hl
  split at hl
  · rename_i htt
    simp only [Option.some.injEq] at hl
    subst hl htt
    exact ⟨l', hu, h2, h3, memN_iff.1 h4⟩
  · exact covM_look h hl
theorem covI_look {N : Nat} (hI : InOk p κ st.inp a w) (hn : st.nid ≤ n0) : ∀ {l : List (Nat × Bd)}, covI σ n0 st N l = true → ∀ {x : Nat} {b : Bd}, Sx.look l x = some b → x < N ∧ b.ok p.M ((κ.put n0 (σ.map (SE.val κ.ρ))).ρ x)
 | [], _, x, b, h => by simp [Sx.look] at h
 | (x', b') :: l, h, x, b, hl => by
  simp only [covI] at h
  split at h <;> try contradiction
  rename_i hc
  rw [look_cons] at hl
  split at hl
  · rename_i hxx
    simp only [Option.some.injEq] at hl
    subst hl hxx
    simp only [Bool.and_eq_true, blt_iff] at hc
    refine ⟨hc.1, ?_⟩
    have hc := hc.2
    have lin : ∀ {y : Nat}, y ≤ b'.a → (y : Int) * p.M ≤ (b'.a : Int) * p.M := fun hy => Int.mul_le_mul_of_nonneg_right (by omega) (by omega)
    split at hc
    · rename_i i d hs
      rw [sAt_put hs]
      split at hc <;> try contradiction
      rename_i lo y hi h1 h2
      simp only [Bool.and_eq_true, leI_iff, Nat.ble_eq] at hc
      have r1 := lob_le hI h1
      have r2 := upm_le hI h2
      have := lin hc.1.2
      simp only [SE.val, Bd.ok]
      omega
    · rename_i b0 hs
      rw [sAt_put hs]
      simp only [Bool.and_eq_true, leI_iff] at hc
      have : 0 ≤ (b'.a : Int) * p.M := Int.mul_nonneg (by omega) (by omega)
      simp only [SE.val, Bd.ok]
      cases b0.val κ.ρ <;> simp <;> omega
    · split at hc <;> try contradiction
      rename_i b2 hb2
      simp only [Bool.and_eq_true, leI_iff, Nat.ble_eq] at hc
      have r := hI.bd x' b2 hb2
      have hlt := hI.offB x' b2 hb2
      simp only [St.inp] at hlt
      have : (κ.put n0 (σ.map (SE.val κ.ρ))).ρ x' = κ.ρ x' := (Ctx.put_agree (κ := κ) (n := n0) (xs := σ.map (SE.val κ.ρ))).ρ x' (by omega)
      rw [this]
      have := lin hc.1.2
      simp only [Bd.ok] at r ⊢
      omega
  · exact covI_look hI hn h hl
theorem covT_mem : ∀ {l : List (Nat × Nat)}, covT st l = true → ∀ z ∈ l, memL z.1 z.2 st.lts = true
 | [], _, z, hz => by simp at hz
 | (i, j) :: l, h, z, hz => by
  simp only [covT] at h
  split at h <;> try contradiction
  rename_i hc
  rcases List.mem_cons.1 hz with rfl | hz
  · exact hc
  · exact covT_mem h z hz
theorem subN_mem {s : List Nat} : ∀ {l : List Nat}, subN s l = true → ∀ x ∈ l, x ∈ s
 | [], _, x, hx => by simp at hx
 | y :: l, h, x, hx => by
  simp only [subN] at h
  split at h <;> try contradiction
  rename_i hc
  rcases List.mem_cons.1 hx with rfl | hx
  · exact memN_iff.1 hc
  · exact subN_mem h x hx
theorem cov_sound (h : cov σ n0 st J = true) (hg : Good E p S0 w0 st a w) : Good E p S0 w0 J a w := by
 obtain ⟨κ, hrel, hl⟩ := hg
 simp only [cov, Bool.and_eq_true, Nat.ble_eq, Nat.beq_eq] at h
 obtain ⟨⟨⟨⟨⟨⟨⟨⟨⟨h1, h2⟩, h3⟩, h4⟩, h5⟩, h6⟩, h7⟩, h8⟩, h9⟩, h10⟩ := h
 have hpos : 0 < st.nid := hrel.inp.pos
 have hn : 0 < n0 := by omega
 have hz := hrel.inp.zero
 have hag : Agree κ (κ.put n0 (σ.map (SE.val κ.ρ))) n0 (σ.map (SE.val κ.ρ)).length := Ctx.put_agree
 have hρ : ∀ i, i < st.nid → (κ.put n0 (σ.map (SE.val κ.ρ))).ρ i = κ.ρ i := fun i hi => hag.ρ i (by omega)
 refine ⟨κ.put n0 (σ.map (SE.val κ.ρ)), ⟨hrel.size, hrel.defers, ⟨by rw [Ctx.put_zero hn, hz], ?_, ?_, ?_, ?_, ?_, ?_, ?_, ?_⟩, ?_, ?_, ?_, ?_, ?_, ?_, ?_⟩, ⟨?_⟩⟩
 · intro t v hv
   obtain ⟨v', k1, k2, _⟩ := covS_look h3 hv
   exact covV_sound hrel.inp.bd hz hn k2 (hrel.inp.slots t v' k1) (AV.off_up (hrel.inp.offS t v' k1) h1)
 · intro q t l hq
   obtain ⟨l', k1, k2, _, _⟩ := covM_look h6 hq
   obtain ⟨k3, arr, tt, k4, k5⟩ := hrel.inp.mem q t l' k1
   exact ⟨k3, arr, tt, k4, covL_sound hrel.inp.bd hz hn k2 k5 (offL_up (hrel.inp.offM q t l' k1).2 h1)⟩
 · intro x b hb
   exact (covI_look (p := p) (a := a) (w := w) hrel.inp h1 h4 hb).2
 · intro i j hij
   have k1 := covT_mem h5 _ (memL_mem hij)
   have k2 := hl.lt _ (memL_mem k1)
   simp only at k1 k2
   rw [hρ i k2.1, hρ j k2.2]
   exact hrel.inp.lts i j k1
 · show 0 < J.nid; omega
 · intro t v hv m
   obtain ⟨_, _, _, k⟩ := covS_look h3 hv
   exact ltV_off k m
 · intro q t l hq
   obtain ⟨l', k1, _, k3, k4⟩ := covM_look h6 hq
   have := (hrel.inp.offM q t l' k1).1
   simp only [St.inp] at this ⊢
   exact ⟨by omega, ltLs_off k3⟩
 · intro x b hb
   exact (covI_look (p := p) (a := a) (w := w) hrel.inp h1 h4 hb).1
 · refine hrel.wt.mono ?_
   rw [h9]
   omega
 · intro q q' hq hq' hqq
   exact hrel.inj q q' (subN_mem h8 q hq) (subN_mem h8 q' hq') hqq
 · intro q hq
   obtain ⟨k1, k2⟩ := hrel.ps q (subN_mem h8 q hq)
   exact ⟨by omega, k2⟩
 · intro q x hq
   obtain ⟨_, _, _, _, k⟩ := covM_look h6 hq
   exact k
 · intro q hq
   have := hrel.ownlt q (subN_mem h7 q hq)
   omega
 · refine ⟨fun x hx => ?_, fun x hx => ?_⟩
   · obtain ⟨k1, k2⟩ := hrel.pin.1 x hx
     exact ⟨by omega, k2⟩
   · obtain ⟨k1, k2⟩ := hrel.pin.2 x hx
     exact ⟨by omega, (hρ _ k1).trans k2⟩
 · have hf := hrel.fr
   exact ⟨hf.os, hf.tape, hf.output, hf.size, hf.ext, hf.newS, hf.same, fun q hq => hf.own q ⟨subN_mem h7 q hq.1, hrel.ownlt q (subN_mem h7 q hq.1)⟩⟩
 · intro z hz
   have k1 := covT_mem h5 z hz
   have := hl.lt _ (memL_mem k1)
   simp only at this
   omega
end
structure JA where
 n : Nat
 l1 : List SE
 l2 : List SE
 bs : List (Nat × Bd)
def hullB (b b' : Bd) : Bd := ⟨minI b.lo b'.lo, max b.a b'.a, maxI b.hi b'.hi⟩
section
variable (B1 B2 : Nat → Option Bd)
def jNum (i : Nat) (d : Int) (i' : Nat) (d' : Int) (s : JA) : Option (Nat × JA) :=
 match bdOf B1 i d, bdOf B2 i' d' with
 | some b, some b' => some (s.n, ⟨s.n + 1, .num i d :: s.l1, .num i' d' :: s.l2, (s.n, hullB b b') :: s.bs⟩)
 | _, _ => none
def jC : AC → AC → JA → Option (AC × JA)
 | .int k i d, .int k' i' d', s => match kindEq k k' with
  | true => match Nat.beq i i' && eqI d d' with
   | true => some (.int k i d, s)
   | false => match jNum B1 B2 i d i' d' s with
    | some (x, s) => some (.int k x 0, s)
    | none => none
  | false => none
 | .bool b, .bool b', s => match eqAB b b' with
  | true => some (.bool b, s)
  | false => some (.bool (.cmp .eq s.n 0 0 1), ⟨s.n + 1, .bl b :: s.l1, .bl b' :: s.l2, (s.n, ⟨0, 0, 1⟩) :: s.bs⟩)
 | .slc t i d, .slc t' i' d', s => match Nat.beq t t' with
  | true => match Nat.beq i i' && eqI d d' with
   | true => some (.slc t i d, s)
   | false => match jNum B1 B2 i d i' d' s with
    | some (x, s) => some (.slc t x 0, s)
    | none => none
  | false => none
 | .slc t i d, .nils, s => match jNum B1 B2 i d 0 0 s with
  | some (x, s) => some (.slc t x 0, s)
  | none => none
 | .nils, .slc t i d, s => match jNum B1 B2 0 0 i d s with
  | some (x, s) => some (.slc t x 0, s)
  | none => none
 | .nils, .nils, s => some (.nils, s)
 | .ptr t q o, .ptr t' q' o', s => match Nat.beq t t' && Nat.beq q q' && Nat.beq o o' with
  | true => some (.ptr t q o, s)
  | false => none
 | .eptr t o, .eptr t' o', s => match Nat.beq t t' && Nat.beq o o' with
  | true => some (.eptr t o, s)
  | false => none
 | .fix, .fix, s => some (.fix, s)
 | .anyI k, .anyI k', s => match kindEq k k' with
  | true => some (.anyI k, s)
  | false => none
 | .anyI k, .int k' _ _, s => match kindEq k k' with
  | true => some (.anyI k, s)
  | false => none
 | .int k _ _, .anyI k', s => match kindEq k k' with
  | true => some (.anyI k, s)
  | false => none
 | .anyB, .anyB, s => some (.anyB, s)
 | .anyB, .bool _, s => some (.anyB, s)
 | .bool _, .anyB, s => some (.anyB, s)
 | _, _, _ => none
def jL : List AC → List AC → JA → Option (List AC × JA)
 | [], [], s => some ([], s)
 | c :: l, c' :: l', s => match jC B1 B2 c c' s with
  | some (x, s) => match jL l l' s with
   | some (r, s) => some (x :: r, s)
   | none => none
  | none => none
 | _, _, _ => none
def jP : List (Bool × List AC) → List (Bool × List AC) → JA → Option (List (Bool × List AC) × JA)
 | [], [], s => some ([], s)
 | (b, c) :: l, (b', c') :: l', s => match b == b' with
  | true => match jL B1 B2 c c' s with
   | some (x, s) => match jP l l' s with
    | some (r, s) => some ((b, x) :: r, s)
    | none => none
   | none => none
  | false => none
 | _, _, _ => none
def jV : AV → AV → JA → Option (AV × JA)
 | .one c, .one c', s => match jC B1 B2 c c' s with
  | some (x, s) => some (.one x, s)
  | none => none
 | .agg l, .agg l', s => match jL B1 B2 l l' s with
  | some (x, s) => some (.agg x, s)
  | none => none
 | .tup l, .tup l', s => match jP B1 B2 l l' s with
  | some (x, s) => some (.tup x, s)
  | none => none
 | _, _, _ => none
def jS (sl2 : List (Nat × AV)) : List Nat → List (Nat × AV) → List (Nat × AV) → JA → List (Nat × AV) × JA
 | _, [], acc, s => (acc, s)
 | seen, (t, v) :: r, acc, s => match memN t seen with
  | true => jS sl2 seen r acc s
  | false => match Sx.look sl2 t with
   | some v' => match jV B1 B2 v v' s with
    | some (x, s) => jS sl2 (t :: seen) r ((t, x) :: acc) s
    | none => jS sl2 (t :: seen) r acc s
   | none => jS sl2 (t :: seen) r acc s
def jM (mem2 : List (Nat × TypeId × List AC)) : List Nat → List (Nat × TypeId × List AC) → List (Nat × TypeId × List AC) → JA → List (Nat × TypeId × List AC) × JA
 | _, [], acc, s => (acc, s)
 | seen, (q, t, l) :: r, acc, s => match memN q seen with
  | true => jM mem2 seen r acc s
  | false => match Sx.look mem2 q with
   | some (_, l') => match jL B1 B2 l l' s with
    | some (x, s) => jM mem2 (q :: seen) r ((q, t, x) :: acc) s
    | none => jM mem2 (q :: seen) r acc s
   | none => jM mem2 (q :: seen) r acc s
def jI (ids2 : List (Nat × Bd)) : List Nat → List (Nat × Bd) → List (Nat × Bd) → List (Nat × Bd)
 | _, [], acc => acc
 | seen, (x, b) :: r, acc => match memN x seen with
  | true => jI ids2 seen r acc
  | false => match Sx.look ids2 x with
   | some b' => jI ids2 (x :: seen) r ((x, hullB b b') :: acc)
   | none => jI ids2 (x :: seen) r acc
def jN (s : List Nat) : List Nat → List Nat
 | [] => []
 | x :: r => match memN x s with
  | true => x :: jN s r
  | false => jN s r
def jT (s : List (Nat × Nat)) : List (Nat × Nat) → List (Nat × Nat)
 | [] => []
 | (i, j) :: r => match memL i j s with
  | true => (i, j) :: jT s r
  | false => jT s r
end
def join (st1 st2 : St) : St × List SE × List SE × Nat :=
 let n0 := max st1.nid st2.nid
 let B1 := Sx.look st1.ids
 let B2 := Sx.look st2.ids
 let x := jS B1 B2 st2.sl [] st1.sl [] ⟨n0, [], [], []⟩
 let y := jM B1 B2 st2.mem [] st1.mem [] x.2
 let ps := jN st2.ps st1.ps
 (⟨x.1, y.2.bs ++ jI st2.ids [] st1.ids [], jT st2.lts st1.lts, y.1, jN st2.own st1.own, ps, y.2.n, st1.A, max st1.K st2.K⟩, y.2.l1.reverse, y.2.l2.reverse, n0)
def joinTo (ex : Ex) (same : Ex → Bool) : St → Rs → Rs → Rs
 | J, done, [] => (ex, J) :: done
 | J, done, (ex', s) :: r => match same ex' with
  | true => (match join J s with
   | (J', l1, l2, n0) => (match cov l1 n0 J J' && cov l2 n0 s J' with
    | true => joinTo ex same J' done r
    | false => joinTo ex same J ((ex', s) :: done) r))
  | false => joinTo ex same J ((ex', s) :: done) r
def sameEx : Ex → Ex → Bool
 | .nrm, .nrm => true
 | .ret, .ret => true
 | .exit i, .exit j => Nat.beq i j
 | _, _ => false
def cntEx (e : Ex) : Rs → Nat
 | [] => 0
 | (x, _) :: r => match sameEx e x with
  | true => cntEx e r + 1
  | false => cntEx e r
def sq1 (lim : Nat) : Rs → Rs
 | [] => []
 | (e, s) :: r => match Nat.ble (cntEx e r) lim with
  | true => (e, s) :: r
  | false => joinTo e (sameEx e) s [] r
def sqL (lim : Nat) (rs : Rs) : Rs := match rs with
 | [] => []
 | [x] => [x]
 | _ => sq1 lim rs
theorem sameEx_eq {e e' : Ex} (h : sameEx e e' = true) : e = e' := by
 cases e <;> cases e' <;> simp only [sameEx, reduceCtorEq] at h
 · rfl
 · rfl
 · rw [Nat.eq_of_beq_eq_true h]
theorem joinTo_ok {E : Env} {p : Par} {S0 : SB'} {w0 : World} {a : Act} {w : World} {ex : Ex} : ∀ {r : Rs} {J : St} {done : Rs}, (Good E p S0 w0 J a w → ∃ s', (ex, s') ∈ joinTo ex (sameEx ex) J done r ∧ Good E p S0 w0 s' a w) ∧
  (∀ e s, (e, s) ∈ done → (e, s) ∈ joinTo ex (sameEx ex) J done r) ∧ (∀ e s, (e, s) ∈ r → Good E p S0 w0 s a w → ∃ s', (e, s') ∈ joinTo ex (sameEx ex) J done r ∧ Good E p S0 w0 s' a w)
 | [], J, done => ⟨fun h => ⟨J, by simp [joinTo], h⟩, fun e s h => by simp [joinTo, h], fun e s h => by simp at h⟩
 | (e', s') :: r, J, done => by
  simp only [joinTo]
  split
  · rename_i hsame
    have he := sameEx_eq hsame
    subst he
    split
    · rename_i hc
      simp only [Bool.and_eq_true] at hc
      obtain ⟨h1, h2, h3⟩ := joinTo_ok (E := E) (p := p) (S0 := S0) (w0 := w0) (a := a) (w := w) (ex := ex) (r := r) (J := (join J s').1) (done := done)
      refine ⟨fun h => h1 (cov_sound hc.1 h), h2, fun e s hm hg => ?_⟩
      rcases List.mem_cons.1 hm with hm | hm
      · simp only [Prod.mk.injEq] at hm
        obtain ⟨rfl, rfl⟩ := hm
        exact h1 (cov_sound hc.2 hg)
      · exact h3 e s hm hg
    · obtain ⟨h1, h2, h3⟩ := joinTo_ok (E := E) (p := p) (S0 := S0) (w0 := w0) (a := a) (w := w) (ex := ex) (r := r) (J := J) (done := (ex, s') :: done)
      refine ⟨h1, fun e s h => h2 e s (by simp [h]), fun e s hm hg => ?_⟩
      rcases List.mem_cons.1 hm with hm | hm
      · simp only [Prod.mk.injEq] at hm
        obtain ⟨rfl, rfl⟩ := hm
        exact ⟨s, h2 _ s (by simp), hg⟩
      · exact h3 e s hm hg
  · obtain ⟨h1, h2, h3⟩ := joinTo_ok (E := E) (p := p) (S0 := S0) (w0 := w0) (a := a) (w := w) (ex := ex) (r := r) (J := J) (done := (e', s') :: done)
    refine ⟨h1, fun e s h => h2 e s (by simp [h]), fun e s hm hg => ?_⟩
    rcases List.mem_cons.1 hm with hm | hm
    · simp only [Prod.mk.injEq] at hm
      obtain ⟨rfl, rfl⟩ := hm
      exact ⟨s, h2 _ s (by simp), hg⟩
    · exact h3 e s hm hg
theorem sqL_ok (lim : Nat) : SqOk (sqL lim) := by
 intro E p S0 w0 rs ex s a w hm hg
 have h1 : ∀ rs : Rs, (ex, s) ∈ rs → ∃ s', (ex, s') ∈ sq1 lim rs ∧ Good E p S0 w0 s' a w := by
  intro rs hm
  cases rs with
  | nil => simp at hm
  | cons x r =>
   obtain ⟨e, s1⟩ := x
   simp only [sq1]
   split
   · exact ⟨s, hm, hg⟩
   · obtain ⟨h1, h2, h3⟩ := joinTo_ok (E := E) (p := p) (S0 := S0) (w0 := w0) (a := a) (w := w) (ex := e) (r := r) (J := s1) (done := [])
     rcases List.mem_cons.1 hm with hm | hm
     · simp only [Prod.mk.injEq] at hm
       obtain ⟨rfl, rfl⟩ := hm
       exact h1 hg
     · exact h3 ex s hm hg
 unfold sqL
 split
 · simp at hm
 · exact ⟨s, hm, hg⟩
 · exact h1 _ hm
end Go.Ty
namespace Go.Proofs.YtjmnolhkkpaodaaGreatDoor
open Go Go.Sx Go.Ty
def kI64 : CT := .int .i64 (klo .i64) (khi .i64)
def kU8 : CT := .int .u8 (klo .u8) (khi .u8)
def kU16 : CT := .int .u16 (klo .u16) (khi .u16)
def tab : List (Nat × List CT) := [
(81, [.fix, .cnt]),
 (3, [kI64]),
 (4, [.bool]),
 (5, [kU8]),
 (32, [kU16]),
 (34, [kI64, kU16, kU8, .bool, .bool, .bool, .bool, .bool, .bool, .bool, .bool, .bool, .bool, .bool, .bool, .bool, .bool]),
 (46, [kI64, .slc 132, kI64, kU8, kU8, .bool, .slc 97]),
 (52, [.bool, .bool, .bool, .bool, .bool, .bool, .bool]),
 (54, [kU8, kU8, kU8, kU8, kU8, kU8, kU8, .bool, .bool, .bool, .bool, .bool, .bool, .bool, kU16, kU16]),
 (56, [kI64, kU8, kU8, kU8, kU8, kU8, kU8, kU8, .bool, .bool, .bool, .bool, .bool, .bool, .bool, kU16, kU16, .bool, .bool, .bool, kU8, .bool, .bool, .bool, .bool, .bool, .bool, .bool]),
 (58, [kI64, kU16, kU8, kI64]),
 (60, [kI64, kU8, kU8, kU8, kU8, kU8, kU8, kU8, .bool, .bool, .bool, .bool, .bool, .bool, .bool, kU16, kU16, .bool, .bool, .bool, kU8, .bool, .bool, .bool, .bool, .bool, .bool, .bool, kI64, .slc 5, kI64, kU16, kU8, kI64, kI64, .bool]),
 (62, [kI64, .bool, .bool, .bool, .bool, kU8, kU8, .bool, .bool, .bool, .bool, .bool, kU8, kU8, kU8, kU8, kI64, kI64, kI64, .bool]),
 (64, [kU16, kU8, kI64]),
 (67, [kI64, kU8, kU8, kU8, kU8, kU8, kU8, kU8, .bool, .bool, .bool, .bool, .bool, .bool, .bool, kU16, kU16, .bool, .bool, .bool, kU8, .bool, .bool, .bool, .bool, .bool, .bool, .bool, kI64, .slc 5, kI64, kU16, kU8, kI64, kI64, .bool, .slc 97, kI64, .bool, .bool, .bool, .bool, kU8, kU8, .bool, .bool, .bool, .bool, .bool, kU8, kU8, kU8, kU8, kI64, kI64, kI64, .bool, kU16, kU8, kI64, kI64, .slc 192]),
 (69, [.slc 34, .slc 153, .slc 109, .slc 56, kI64, kU8, kU8, kU8, kU8, kU8, kU8, kU8, .bool, .bool, .bool, .bool, .bool, .bool, .bool, kU16, kU16, .bool, .bool, .bool, kU8, .bool, .bool, .bool, .bool, .bool, .bool, .bool, kI64, .slc 5, kI64, kU16, kU8, kI64, kI64, .bool, .slc 97, kI64, .bool, .bool, .bool, .bool, kU8, kU8, .bool, .bool, .bool, .bool, .bool, kU8, kU8, kU8, kU8, kI64, kI64, kI64, .bool, kU16, kU8, kI64, kI64, .slc 192]),
 (93, [.bool, .bool, .bool, .bool, .bool, .bool, .bool, .bool, kU8, kU8]),
 (95, [.bool, .bool, .bool, .bool, .bool, .bool, .bool, .bool, .bool]),
 (97, [kU16, kU8]),
 (99, [.bool, .bool, .bool, .bool, .bool, .bool, .bool, .bool, .bool, kU8, kU16, kU8, .bool]),
 (109, [kI64, kI64, .slc 5, .bool, .bool, .bool, .bool, .bool, .bool, .bool, .bool, .bool, .bool, .bool, .bool, .bool, kU16, kU8]),
 (132, [kU16, kU16, .bool, kI64]),
 (153, [kI64, kI64, kU16, kU8, kI64, kI64, kI64, .bool, .bool]),
 (192, [kU8, kU8]),
 (198, [kI64, kI64, kI64, kI64, kI64, kI64, kI64, kI64]),
 (220, [kI64, kU8, kU8, kU8, kU8, kU8, kU8, kU8, .bool, .bool, .bool, .bool, .bool, .bool, .bool, kU16, kU16, .bool, .bool, .bool, kU8, .bool, .bool, .bool, .bool, .bool, .bool, .bool, .bool, .slc 5, .slc 58]),
 (1003, [kI64]),
 (1005, [kU8]),
 (1032, [kU16]),
 (1097, [kU16, kU8]),
 (1132, [kU16, kU16, .bool, kI64]),
 (1058, [kI64, kU16, kU8, kI64]),
 (1192, [kU8, kU8]),
 (1034, [.int .i64 1 10, kU16, kU8, .bool, .bool, .bool, .bool, .bool, .bool, .bool, .bool, .bool, .bool, .bool, .bool, .bool, .bool]),
 (1153, [kI64, kI64, kU16, kU8, kI64, kI64, kI64, .bool, .bool]),
 (1109, [kI64, kI64, .slc 5, .bool, .bool, .bool, .bool, .bool, .bool, .bool, .bool, .bool, .bool, .bool, .bool, .bool, kU16, kU8]),
 (1056, [kI64, kU8, kU8, kU8, kU8, kU8, kU8, kU8, .bool, .bool, .bool, .bool, .bool, .bool, .bool, kU16, kU16, .bool, .bool, .bool, kU8, .bool, .bool, .bool, .bool, .bool, .bool, .bool]),
 (1093, [.bool, .bool, .bool, .bool, .bool, .bool, .bool, .bool, kU8, kU8])]
def T28 : Bool → TypeId → Option (List CT)
 | false, t => Sx.look tab t
 | true, t => Sx.look tab (1000 + t)
theorem T28_pos (r : Bool) (t : TypeId) (ts : List CT) (h : T28 r t = some ts) : 0 < ts.length := by
 have key : ∀ (l : List (Nat × List CT)), (l.all fun x => Nat.blt 0 x.2.length) = true → ∀ k ts, Sx.look l k = some ts → 0 < ts.length := by
  intro l
  induction l with
  | nil => intro _ k ts h; simp [Sx.look] at h
  | cons x l ih =>
   intro hl k ts h
   simp only [List.all_cons, Bool.and_eq_true] at hl
   obtain ⟨k', c⟩ := x
   rw [look_cons] at h
   split at h
   · simp only [Option.some.injEq] at h; subst h; exact blt_iff.1 hl.1
   · exact ih hl.2 k ts h
 cases r with
 | false => exact key tab (by decide) _ _ h
 | true => exact key tab (by decide) _ _ h
end Go.Proofs.YtjmnolhkkpaodaaGreatDoor
namespace Go.Proofs.YtjmnolhkkpaodaaGreatDoor
open Go Go.Sx Go.Ty
def ptOf : CT → PT
 | .int k lo hi => .int k lo hi
 | .bool => .bool
 | .slc t => .slc t 0 none
 | .cnt => .cnt
 | .fix => .fix
def pS (t : Nat) : List PT := match T28 false t with
 | some l => l.map ptOf
 | none => []
def pI64 : PT := .int .i64 (klo .i64) (khi .i64)
def pU8 : PT := .int .u8 (klo .u8) (khi .u8)
def pU16 : PT := .int .u16 (klo .u16) (khi .u16)
def selL (f : Nat) : List (Nat × Sp) → List Sp
 | [] => []
 | (g, sp) :: r => match Nat.beq g f with
  | true => sp :: selL f r
  | false => selL f r
def conA (mx : Nat) : List Sp → Con
 | [], _, _ => none
 | sp :: r, I, l => match conOf mx sp I l with
  | some e => some e
  | none => conA mx r I l
def conNext (mx : Nat) : Con := fun I l => match l with
 | [.one (.ptr 81 _ 0), .one (.int .i64 i d)] => match lob I.B i d, upb I.B mx i d with
  | some l, some u => match leI 1 l && leI u 1000000000000 && Nat.ble (I.A * mx + I.U) 1000000000000 with
   | true => some ⟨.one (.int .i64 I.n 0), [⟨0, 0, u - 1⟩], (match eqI d 0 && !Nat.beq i 0 with | true => [(I.n, i)] | false => []), [], [], none, [(false, 81)], 1⟩
   | false => none
  | _, _ => none
 | _ => none
def conPut (mx : Nat) : Con := fun I l => match l with
 | [.one (.slc 97 x d), y] => match upb I.B mx x d, upm I.B x 0, fitV I.B mx I.A I.K y (.agg [pU16, pU8]) with
  | some u, some (a, h), some _ => match leI u 1000000000000 with
   | true => match I.L x (x + 1), upm I.B (x + 1) 0 with
    | true, some (a2, h2) => some ⟨.one (.slc 97 I.n (d + 1)), [⟨-(d + 1), a2, h2 - 1⟩], [(I.n, x + 1)], [], [], none, [], 0⟩
    | _, _ => some ⟨.one (.slc 97 I.n (d + 1)), [⟨-(d + 1), a, h⟩], [], [], [], none, [], 0⟩
   | false => none
  | _, _, _ => none
 | _ => none
def conFind (mx : Nat) : Con := fun I l => match l with
 | [.one (.slc 132 x 0), y] => match upb I.B mx x 0, upm I.B x 0, fitV I.B mx I.A I.K y (.one pU16) with
  | some u, some (a, h), some _ => match leI u 1000000000000 && !Nat.beq x 0 with
   | true => some ⟨.one (.int .i64 I.n 0), [⟨-1, a, h - 1⟩], [(I.n, x)], [], [], none, [], 0⟩
   | false => none
  | _, _, _ => none
 | _ => none
def conH (mx : Nat) (f : Nat) : Option Con := match Nat.beq f 26 with
 | true => some (conNext mx)
 | false => match Nat.beq f 56 with
  | true => some (conPut mx)
  | false => match Nat.beq f 111 with
   | true => some (conFind mx)
   | false => none
def conL (mx : Nat) (L : List (Nat × Sp)) (f : Nat) : Option Con := match conH mx f with
 | some c => some c
 | none => match selL f L with
  | [] => none
  | sps => some (conA mx sps)
end Go.Proofs.YtjmnolhkkpaodaaGreatDoor
namespace Go.Proofs.YtjmnolhkkpaodaaGreatDoor
open Go Go.Sx Go.Ty
def mk1 : List PT := (pS 220).dropLast ++ [.slc 58 1 none]
def rRun : List PT := .slc 34 0 none :: .slc 153 1 none :: (pS 69).drop 2
def pinsR : List PT := .int .i64 1 10 :: (pS 34).tail
noncomputable def chkT (L : List (Nat × Sp)) (g : Nat) (sp : Sp) : Bool := chk Tryz.prog T28 (conL sp.mx L) (drw (conL sp.mx L)) (sqL 3) cl2 4000 g sp
noncomputable def chk0 (L : List (Nat × Sp)) (g : Nat) (sp : Sp) : Bool := chk Tryz.prog T28 (conL sp.mx L) (drw (conL sp.mx L)) (sqL 0) cl2 4000 g sp
def hasEx : Rs → Bool
 | [] => false
 | (.exit _, _) :: _ => true
 | _ :: r => hasEx r
def sqE (lim : Nat) (rs : Rs) : Rs := match hasEx rs with
 | true => sqL 0 rs
 | false => sqL lim rs
theorem sqE_ok (lim : Nat) : SqOk (sqE lim) := by
 intro E p S0 w0 rs ex s a w hm hg
 unfold sqE
 split
 · exact sqL_ok 0 E p S0 w0 rs ex s a w hm hg
 · exact sqL_ok lim E p S0 w0 rs ex s a w hm hg
noncomputable def chkE (L : List (Nat × Sp)) (g : Nat) (sp : Sp) : Bool := chk Tryz.prog T28 (conL sp.mx L) (drw (conL sp.mx L)) (sqE 1) cl2 4000 g sp
end Go.Proofs.YtjmnolhkkpaodaaGreatDoor
