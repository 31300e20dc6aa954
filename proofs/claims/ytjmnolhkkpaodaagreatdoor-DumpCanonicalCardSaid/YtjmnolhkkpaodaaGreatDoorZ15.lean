/- A part of the proof: the reference is safe, both packages write and read alike. Several texts in one; printed by slim28.py out of the texts of wip. -/
import Derived.Test.YtjmnolhkkpaodaaGreatDoorZ14
set_option linter.all false
namespace Go.Ty
open Go Go.Sx
inductive PT where
 | int (k : IntKind) (lo hi : Int)
 | bool
 | slc (t : TypeId) (lo : Int) (hi : Option Int)
 | cnt
 | fix
 | ptr (t : TypeId)
inductive PV where
 | one (c : PT)
 | agg (l : List PT)
 | tup (l : List (Bool × List PT))
structure Sp where
 ps : List PV
 pm : Option (Nat × List PT)
 rs : PV
 qm : List PT
 k : Nat
 eff : List (Bool × TypeId)
 mx : Nat
def PT.ok (S : SB') (v0 : Value) (L : Int) : PT → Value → Prop
 | .int k lo hi, v => ∃ n, v = .int k n ∧ lo ≤ n ∧ n ≤ hi
 | .bool, v => ∃ b, v = .bool b
 | .slc t lo hi, v => ∃ n, Sl S t v n ∧ lo ≤ n ∧ (match hi with | none => n ≤ L | some h => n ≤ h)
 | .cnt, v => ∃ n, v = .int .i64 n ∧ 0 ≤ n ∧ n ≤ L
 | .fix, v => v = v0
 | .ptr t, v => ∃ b, v = .pointer (some ⟨b, 0, none⟩) ∧ S b = some ⟨false, t, 1, 1⟩
def ptL (S : SB') (v0 : Value) (L : Int) : List PT → List Value → Prop
 | [], [] => True
 | c :: cs, v :: vs => c.ok S v0 L v ∧ ptL S v0 L cs vs
 | _, _ => False
def ptP (S : SB') (v0 : Value) (L : Int) : Bool × List PT → Value → Prop
 | (true, l), v => ∃ vs : Array Value, v = .agg vs ∧ ptL S v0 L l vs.toList
 | (false, [c]), v => c.ok S v0 L v
 | (false, _), _ => False
def ptPs (S : SB') (v0 : Value) (L : Int) : List (Bool × List PT) → List Value → Prop
 | [], [] => True
 | c :: cs, v :: vs => ptP S v0 L c v ∧ ptPs S v0 L cs vs
 | _, _ => False
def PV.ok (S : SB') (v0 : Value) (L : Int) : PV → Value → Prop
 | .one c, v => c.ok S v0 L v
 | .agg l, v => ∃ vs : Array Value, v = .agg vs ∧ ptL S v0 L l vs.toList
 | .tup ps, v => ∃ vs : Array Value, v = .tuple vs ∧ ptPs S v0 L ps vs.toList
def pvL (S : SB') (v0 : Value) (L : Int) : List PV → List Value → Prop
 | [], [] => True
 | c :: cs, v :: vs => c.ok S v0 L v ∧ pvL S v0 L cs vs
 | _, _ => False
def frC (A U : Nat) : PT → Nat → AC × List Bd
 | .int k lo hi, n => (.int k n 0, [⟨lo, 0, hi⟩])
 | .bool, n => (.bool (.cmp .eq n 0 0 1), [⟨0, 0, 1⟩])
 | .slc t lo none, n => (.slc t n 0, [⟨lo, A, U⟩])
 | .slc t lo (some h), n => (.slc t n 0, [⟨lo, 0, h⟩])
 | .cnt, n => (.int .i64 n 0, [⟨0, A, U⟩])
 | .fix, _ => (.fix, [])
 | .ptr t, n => (.ptr t n 0, [⟨0, 0, 0⟩])
def frA (A U : Nat) (c : PT) (n : Nat) : AC × List Bd := match c with
 | .int k lo hi => (match eqI lo (klo k) && eqI hi (khi k) with
  | true => (.anyI k, [])
  | false => frC A U (.int k lo hi) n)
 | .bool => (.anyB, [])
 | c => frC A U c n
def frL (A U : Nat) : List PT → Nat → List AC × List Bd
 | [], _ => ([], [])
 | c :: r, n => let x := frA A U c n; let y := frL A U r (n + x.2.length); (x.1 :: y.1, x.2 ++ y.2)
def frPs (A U : Nat) : List (Bool × List PT) → Nat → List (Bool × List AC) × List Bd
 | [], _ => ([], [])
 | c :: r, n => let x := frL A U c.2 n; let y := frPs A U r (n + x.2.length); ((c.1, x.1) :: y.1, x.2 ++ y.2)
def frV (A U : Nat) : PV → Nat → AV × List Bd
 | .one c, n => let x := frC A U c n; (.one x.1, x.2)
 | .agg l, n => let x := frL A U l n; (.agg x.1, x.2)
 | .tup ps, n => let x := frPs A U ps n; (.tup x.1, x.2)
def frVs (A U : Nat) : List PV → Nat → List AV × List Bd
 | [], _ => ([], [])
 | c :: r, n => let x := frV A U c n; let y := frVs A U r (n + x.2.length); (x.1 :: y.1, x.2 ++ y.2)
structure Asg (M : Nat) (bs : List Bd) (ys : List (Int × Nat)) : Prop where
 len : ys.length = bs.length
 ok : ∀ (j : Nat) (b : Bd), bs[j]? = some b → ∃ y, ys[j]? = some y ∧ b.ok M y.1
theorem Asg.nil {M : Nat} : Asg M [] [] := ⟨rfl, by simp⟩
theorem Asg.one {M : Nat} {b : Bd} {y : Int × Nat} (h : b.ok M y.1) : Asg M [b] [y] := ⟨rfl, fun j b' hj => by
 cases j with
 | zero => simp at hj; subst hj; exact ⟨y, rfl, h⟩
 | succ j => simp at hj⟩
theorem Asg.append {M : Nat} {bs bs' : List Bd} {ys ys' : List (Int × Nat)} (h : Asg M bs ys) (h' : Asg M bs' ys') : Asg M (bs ++ bs') (ys ++ ys') := by
 refine ⟨by simp [h.len, h'.len], fun j b hj => ?_⟩
 by_cases hlt : j < bs.length
 · rw [List.getElem?_append_left hlt] at hj
   obtain ⟨y, h1, h2⟩ := h.ok j b hj
   exact ⟨y, by rw [List.getElem?_append_left (by rw [h.len]; exact hlt)]; exact h1, h2⟩
 · rw [List.getElem?_append_right (by omega)] at hj
   obtain ⟨y, h1, h2⟩ := h'.ok _ b hj
   exact ⟨y, by rw [List.getElem?_append_right (by rw [h.len]; omega), h.len]; exact h1, h2⟩
def Gives (κ : Ctx) (n : Nat) (ys : List (Int × Nat)) : Prop := ∀ j y, ys[j]? = some y → κ.ρ (n + j) = y.1 ∧ κ.π (n + j) = y.2
theorem Gives.left {κ : Ctx} {n : Nat} {ys ys' : List (Int × Nat)} (h : Gives κ n (ys ++ ys')) : Gives κ n ys := fun j y hj => h j y (by rw [List.getElem?_append_left (List.getElem?_eq_some_iff.1 hj).1]; exact hj)
theorem Gives.right {κ : Ctx} {n : Nat} {ys ys' : List (Int × Nat)} (h : Gives κ n (ys ++ ys')) : Gives κ (n + ys.length) ys' := fun j y hj => by
 have := h (ys.length + j) y (by rw [List.getElem?_append_right (by omega)]; simpa using hj)
 rwa [← Nat.add_assoc] at this
section
variable {T : Bool → TypeId → Option (List CT)} {v0 : Value} {S : SB'} {L : Int} {M A U : Nat}
theorem frC_sound (hL : L ≤ (A : Int) * M + U) {c : PT} {v : Value} (n : Nat) (h : c.ok S v0 L v) : ∃ ys, Asg M (frC A U c n).2 ys ∧ ∀ κ : Ctx, κ.ρ 0 = 0 → κ.S = S → Gives κ n ys → (frC A U c n).1.has T v0 κ v := by
 cases c with
 | int k lo hi =>
  obtain ⟨x, rfl, h1, h2⟩ := h
  refine ⟨[(x, 0)], .one (by simp only [Bd.ok]; omega), fun κ _ _ hg => ?_⟩
  have := (hg 0 _ rfl).1
  simp only [Nat.add_zero] at this
  simp [frC, AC.has, this]
 | bool =>
  obtain ⟨b, rfl⟩ := h
  refine ⟨[(if b then 1 else 0, 0)], .one (by cases b <;> simp [Bd.ok]), fun κ hz _ hg => ?_⟩
  have := (hg 0 _ rfl).1
  simp only [Nat.add_zero] at this
  simp only [frC, AC.has, AB.val, Cmp.on, this, hz]
  cases b <;> rfl
 | slc t lo hi =>
  obtain ⟨x, h1, h2, h3⟩ := h
  cases hi with
  | none =>
   simp only at h3
   refine ⟨[(x, 0)], .one (by simp only [Bd.ok]; omega), fun κ _ hS hg => ?_⟩
   have := (hg 0 _ rfl).1
   simp only [Nat.add_zero] at this
   simp only [frC, AC.has, this, hS, Int.add_zero]
   exact h1
  | some hi =>
   simp only at h3
   refine ⟨[(x, 0)], .one (by simp only [Bd.ok]; omega), fun κ _ hS hg => ?_⟩
   have := (hg 0 _ rfl).1
   simp only [Nat.add_zero] at this
   simp only [frC, AC.has, this, hS, Int.add_zero]
   exact h1
 | cnt =>
  obtain ⟨x, rfl, h1, h2⟩ := h
  refine ⟨[(x, 0)], .one (by simp only [Bd.ok]; omega), fun κ _ _ hg => ?_⟩
  have := (hg 0 _ rfl).1
  simp only [Nat.add_zero] at this
  simp [frC, AC.has, this]
 | fix => exact ⟨[], .nil, fun κ _ _ _ => h⟩
 | ptr t =>
  obtain ⟨b, rfl, h1⟩ := h
  refine ⟨[(0, b)], .one (by simp [Bd.ok]), fun κ _ hS hg => ?_⟩
  have := (hg 0 _ rfl).2
  simp only [Nat.add_zero] at this
  simp only [frC, AC.has, this, hS]
  exact ⟨trivial, h1⟩
theorem frA_sound (hL : L ≤ (A : Int) * M + U) {c : PT} {v : Value} (n : Nat) (h : c.ok S v0 L v) : ∃ ys, Asg M (frA A U c n).2 ys ∧ ∀ κ : Ctx, κ.ρ 0 = 0 → κ.S = S → Gives κ n ys → (frA A U c n).1.has T v0 κ v := by
 unfold frA
 split
 · rename_i k lo hi
   split
   · rename_i hc
     simp only [Bool.and_eq_true, eqI_iff] at hc
     obtain ⟨x, rfl, h1, h2⟩ := h
     exact ⟨[], .nil, fun _ _ _ _ => ⟨x, rfl, by omega, by omega⟩⟩
   · exact frC_sound hL n h
 · exact ⟨[], .nil, fun _ _ _ _ => h⟩
 · exact frC_sound hL n h
theorem frL_sound (hL : L ≤ (A : Int) * M + U) : ∀ {l : List PT} {vs : List Value} (n : Nat), ptL S v0 L l vs → ∃ ys, Asg M (frL A U l n).2 ys ∧ ∀ κ : Ctx, κ.ρ 0 = 0 → κ.S = S → Gives κ n ys → hasL T v0 κ (frL A U l n).1 vs
 | [], [], n, _ => ⟨[], .nil, fun _ _ _ _ => trivial⟩
 | c :: l, v :: vs, n, h => by
  obtain ⟨ys, h1, h2⟩ := frA_sound (T := T) hL n h.1
  obtain ⟨zs, h3, h4⟩ := frL_sound hL (l := l) (vs := vs) (n + (frA A U c n).2.length) h.2
  refine ⟨ys ++ zs, h1.append h3, fun κ hz hS hg => ⟨h2 κ hz hS hg.left, h4 κ hz hS ?_⟩⟩
  have := hg.right
  rwa [h1.len] at this
 | [], _ :: _, _, h => h.elim
 | _ :: _, [], _, h => h.elim
theorem frP_sound (hL : L ≤ (A : Int) * M + U) {c : Bool × List PT} {v : Value} (n : Nat) (h : ptP S v0 L c v) : ∃ ys, Asg M (frL A U c.2 n).2 ys ∧ ∀ κ : Ctx, κ.ρ 0 = 0 → κ.S = S → Gives κ n ys → hasP T v0 κ (c.1, (frL A U c.2 n).1) v := by
 match c, h with
 | (true, l), ⟨vs, h1, h2⟩ =>
  obtain ⟨ys, h3, h4⟩ := frL_sound (T := T) hL n h2
  exact ⟨ys, h3, fun κ hz hS hg => ⟨vs, h1, h4 κ hz hS hg⟩⟩
 | (false, [c]), h =>
  obtain ⟨ys, h3, h4⟩ := frL_sound (T := T) (l := [c]) (vs := [v]) hL n ⟨h, trivial⟩
  exact ⟨ys, h3, fun κ hz hS hg => (h4 κ hz hS hg).1⟩
theorem frPs_sound (hL : L ≤ (A : Int) * M + U) : ∀ {l : List (Bool × List PT)} {vs : List Value} (n : Nat), ptPs S v0 L l vs → ∃ ys, Asg M (frPs A U l n).2 ys ∧ ∀ κ : Ctx, κ.ρ 0 = 0 → κ.S = S → Gives κ n ys → hasPs T v0 κ (frPs A U l n).1 vs
 | [], [], n, _ => ⟨[], .nil, fun _ _ _ _ => trivial⟩
 | c :: l, v :: vs, n, h => by
  obtain ⟨ys, h1, h2⟩ := frP_sound (T := T) hL n h.1
  obtain ⟨zs, h3, h4⟩ := frPs_sound hL (l := l) (vs := vs) (n + (frL A U c.2 n).2.length) h.2
  refine ⟨ys ++ zs, h1.append h3, fun κ hz hS hg => ⟨h2 κ hz hS hg.left, h4 κ hz hS ?_⟩⟩
  have := hg.right
  rwa [h1.len] at this
 | [], _ :: _, _, h => h.elim
 | _ :: _, [], _, h => h.elim
theorem frV_sound (hL : L ≤ (A : Int) * M + U) {c : PV} {v : Value} (n : Nat) (h : c.ok S v0 L v) : ∃ ys, Asg M (frV A U c n).2 ys ∧ ∀ κ : Ctx, κ.ρ 0 = 0 → κ.S = S → Gives κ n ys → (frV A U c n).1.has T v0 κ v := by
 cases c with
 | one c => exact frC_sound hL n h
 | agg l =>
  obtain ⟨vs, h1, h2⟩ := h
  obtain ⟨ys, h3, h4⟩ := frL_sound (T := T) hL n h2
  exact ⟨ys, h3, fun κ hz hS hg => ⟨vs, h1, h4 κ hz hS hg⟩⟩
 | tup ps =>
  obtain ⟨vs, h1, h2⟩ := h
  obtain ⟨ys, h3, h4⟩ := frPs_sound (T := T) hL n h2
  exact ⟨ys, h3, fun κ hz hS hg => ⟨vs, h1, h4 κ hz hS hg⟩⟩
theorem frVs_sound (hL : L ≤ (A : Int) * M + U) : ∀ {l : List PV} {vs : List Value} (n : Nat), pvL S v0 L l vs → ∃ ys, Asg M (frVs A U l n).2 ys ∧ ∀ κ : Ctx, κ.ρ 0 = 0 → κ.S = S → Gives κ n ys → hasVs T v0 κ (frVs A U l n).1 vs
 | [], [], n, _ => ⟨[], .nil, fun _ _ _ _ => trivial⟩
 | c :: l, v :: vs, n, h => by
  obtain ⟨ys, h1, h2⟩ := frV_sound (T := T) hL n h.1
  obtain ⟨zs, h3, h4⟩ := frVs_sound hL (l := l) (vs := vs) (n + (frV A U c n).2.length) h.2
  refine ⟨ys ++ zs, h1.append h3, fun κ hz hS hg => ⟨h2 κ hz hS hg.left, h4 κ hz hS ?_⟩⟩
  have := hg.right
  rwa [h1.len] at this
 | [], _ :: _, _, h => h.elim
 | _ :: _, [], _, h => h.elim
end
section
variable (B : Nat → Option Bd) (mx A K : Nat)
def fitT : AC → PT → Option Nat
 | .int k i d, .int k' lo hi => match kindEq k k' with
  | true => match rng B mx i d with
   | some (l, u) => match leI lo l && leI u hi with
    | true => some 0
    | false => none
   | none => none
  | false => none
 | .bool _, .bool => some 0
 | .slc t i d, .slc t' lo hi => match Nat.beq t t' with
  | true => match lob B i d with
   | some l => match leI lo l with
    | true => match hi with
     | none => match upm B i d with
      | some (a, h) => match Nat.ble a A with
       | true => some (h - K).toNat
       | false => none
      | none => none
     | some h => match upb B mx i d with
      | some u => match leI u h with
       | true => some 0
       | false => none
      | none => none
    | false => none
   | none => none
  | false => none
 | .nils, .slc _ lo hi => match leI lo 0 && (match hi with | none => true | some h => leI 0 h) with
  | true => some 0
  | false => none
 | .int .i64 i d, .cnt => match lob B i d with
  | some l => match upm B i d with
   | some (a, h) => match leI 0 l && Nat.ble a A with
    | true => some (h - K).toNat
    | false => none
   | none => none
  | none => none
 | .fix, .fix => some 0
 | .anyI k, .int k' lo hi => match kindEq k k' && leI lo (klo k) && leI (khi k) hi with
  | true => some 0
  | false => none
 | .anyB, .bool => some 0
 | .ptr t _ o, .ptr t' => match Nat.beq t t' && Nat.beq o 0 with
  | true => some 0
  | false => none
 | _, _ => none
def fitTL : List AC → List PT → Option Nat
 | [], [] => some 0
 | c :: cs, t :: ts => match fitT B mx A K c t with
  | some u => match fitTL cs ts with
   | some u' => some (max u u')
   | none => none
  | none => none
 | _, _ => none
def fitPs : List (Bool × List AC) → List (Bool × List PT) → Option Nat
 | [], [] => some 0
 | (b, c) :: cs, (b', t) :: ts => match b == b' with
  | true => match fitTL B mx A K c t with
   | some u => match fitPs cs ts with
    | some u' => some (max u u')
    | none => none
   | none => none
  | false => none
 | _, _ => none
def fitV : AV → PV → Option Nat
 | .one c, .one t => fitT B mx A K c t
 | .agg l, .agg ts => fitTL B mx A K l ts
 | .tup ps, .tup ts => fitPs B mx A K ps ts
 | _, _ => none
def fitVs : List AV → List PV → Option Nat
 | [], [] => some 0
 | c :: cs, t :: ts => match fitV B mx A K c t with
  | some u => match fitVs cs ts with
   | some u' => some (max u u')
   | none => none
  | none => none
 | _, _ => none
end
section
variable {p : Par} {κ : Ctx} {I : In} {a : Act} {w : World} {mx A K : Nat} {L : Int}
theorem fitT_sound (hI : InOk p κ I a w) (hM : p.M ≤ mx) {u : Nat} {c : AC} {t : PT} {v : Value} (h : fitT I.B mx A K c t = some u) (hv : c.has p.T p.v0 κ v) (hL : (A : Int) * p.M + K + u ≤ L) : t.ok κ.S p.v0 L v := by
 have lin : ∀ {x : Nat} {h' : Int}, Nat.ble x A = true → (h' - K).toNat = u → (x : Int) * p.M + h' ≤ L := by
  intro x h' h1 h2
  have h1 := Nat.le_of_ble_eq_true h1
  have h3 : (x : Int) * p.M ≤ (A : Int) * p.M := Int.mul_le_mul_of_nonneg_right (by omega) (by omega)
  omega
 have lpos : 0 ≤ L := by
  have : 0 ≤ (A : Int) * p.M := Int.mul_nonneg (by omega) (by omega)
  omega
 unfold fitT at h
 split at h
 · rename_i k i d k' lo hi
   split at h <;> try contradiction
   rename_i hk
   split at h <;> try contradiction
   rename_i l u' hr
   split at h <;> try contradiction
   rename_i hc
   simp only [Bool.and_eq_true, leI_iff] at hc
   have := rng_le hI hM hr
   have hk := kindEq_eq hk
   subst hk
   exact ⟨_, hv, by omega, by omega⟩
 · exact ⟨_, hv⟩
 · rename_i t i d t' lo hi
   split at h <;> try contradiction
   rename_i ht
   have ht := Nat.eq_of_beq_eq_true ht
   subst ht
   split at h <;> try contradiction
   rename_i l hl
   have h1 := lob_le hI hl
   split at h <;> try contradiction
   rename_i hlo
   rw [leI_iff] at hlo
   split at h
   · split at h <;> try contradiction
     rename_i x h' hu
     split at h <;> try contradiction
     rename_i hc
     simp only [Option.some.injEq] at h
     exact ⟨_, hv, by omega, Int.le_trans (upm_le hI hu) (lin hc h)⟩
   · split at h <;> try contradiction
     rename_i u' hu
     split at h <;> try contradiction
     rename_i hc
     rw [leI_iff] at hc
     exact ⟨_, hv, by omega, Int.le_trans (upb_le hI hM hu) hc⟩
 · rename_i t' lo hi
   split at h <;> try contradiction
   rename_i hc
   simp only [Bool.and_eq_true, leI_iff] at hc
   simp only [AC.has] at hv
   subst hv
   refine ⟨0, ⟨none, 0, 0, rfl, rfl, .inl ⟨rfl, rfl, rfl⟩⟩, hc.1, ?_⟩
   cases hi with
   | none => exact lpos
   | some h' => exact leI_iff.1 hc.2
 · rename_i i d
   split at h <;> try contradiction
   rename_i l hl
   split at h <;> try contradiction
   rename_i x h' hu
   split at h <;> try contradiction
   rename_i hc
   simp only [Bool.and_eq_true, leI_iff] at hc
   simp only [Option.some.injEq] at h
   have h1 := lob_le hI hl
   have h2 := upm_le hI hu
   have h3 := lin hc.2 h
   exact ⟨_, hv, by omega, by omega⟩
 · exact hv
 · rename_i k k' lo hi
   split at h <;> try contradiction
   rename_i hc
   simp only [Bool.and_eq_true, leI_iff] at hc
   obtain ⟨⟨hk, h1⟩, h2⟩ := hc
   have hk := kindEq_eq hk
   subst hk
   obtain ⟨n, rfl, h3, h4⟩ := hv
   exact ⟨n, rfl, by omega, by omega⟩
 · exact hv
 · rename_i t q o t'
   split at h <;> try contradiction
   rename_i hc
   simp only [Bool.and_eq_true, Nat.beq_eq] at hc
   obtain ⟨rfl, rfl⟩ := hc
   exact ⟨_, hv.1, hv.2⟩
 · contradiction
theorem fitTL_sound (hI : InOk p κ I a w) (hM : p.M ≤ mx) : ∀ {l : List AC} {ts : List PT} {vs : List Value} {u : Nat}, fitTL I.B mx A K l ts = some u → hasL p.T p.v0 κ l vs → (A : Int) * p.M + K + u ≤ L → ptL κ.S p.v0 L ts vs
 | [], [], [], _, _, _, _ => trivial
 | c :: l, t :: ts, v :: vs, u, h, hv, hL => by
  simp only [fitTL] at h
  split at h <;> try contradiction
  rename_i u1 h1
  split at h <;> try contradiction
  rename_i u2 h2
  simp only [Option.some.injEq] at h
  subst h
  exact ⟨fitT_sound hI hM h1 hv.1 (by omega), fitTL_sound hI hM h2 hv.2 (by omega)⟩
 | [], _ :: _, _, _, h, _, _ => by simp [fitTL] at h
 | _ :: _, [], _, _, h, _, _ => by simp [fitTL] at h
 | [], [], _ :: _, _, _, hv, _ => hv.elim
 | _ :: _, _ :: _, [], _, _, hv, _ => hv.elim
theorem fitPs_sound (hI : InOk p κ I a w) (hM : p.M ≤ mx) : ∀ {l : List (Bool × List AC)} {ts : List (Bool × List PT)} {vs : List Value} {u : Nat}, fitPs I.B mx A K l ts = some u → hasPs p.T p.v0 κ l vs → (A : Int) * p.M + K + u ≤ L → ptPs κ.S p.v0 L ts vs
 | [], [], [], _, _, _, _ => trivial
 | (b, c) :: l, (b', t) :: ts, v :: vs, u, h, hv, hL => by
  simp only [fitPs] at h
  split at h <;> try contradiction
  rename_i hb
  have hb := eq_of_beq hb
  subst hb
  split at h <;> try contradiction
  rename_i u1 h1
  split at h <;> try contradiction
  rename_i u2 h2
  simp only [Option.some.injEq] at h
  subst h
  refine ⟨?_, fitPs_sound hI hM h2 hv.2 (by omega)⟩
  have hvv := hv.1
  cases b with
  | true =>
   obtain ⟨vs', h3, h4⟩ := hvv
   exact ⟨vs', h3, fitTL_sound hI hM h1 h4 (by omega)⟩
  | false =>
   match c, t, h1, hvv with
   | [c], [t], h1, hvv =>
    have := fitTL_sound (L := L) (vs := [v]) hI hM h1 ⟨hvv, trivial⟩ (by omega)
    exact this.1
   | [c], [], h1, _ => simp [fitTL] at h1
   | [c], t :: t' :: ts', h1, _ =>
    simp only [fitTL] at h1
    split at h1 <;> simp at h1
   | [], _, _, hvv => exact hvv.elim
   | _ :: _ :: _, _, _, hvv => exact hvv.elim
 | [], _ :: _, _, _, h, _, _ => by simp [fitPs] at h
 | _ :: _, [], _, _, h, _, _ => by simp [fitPs] at h
 | [], [], _ :: _, _, _, hv, _ => hv.elim
 | _ :: _, _ :: _, [], _, _, hv, _ => hv.elim
theorem fitV_sound (hI : InOk p κ I a w) (hM : p.M ≤ mx) {u : Nat} {c : AV} {t : PV} {v : Value} (h : fitV I.B mx A K c t = some u) (hv : c.has p.T p.v0 κ v) (hL : (A : Int) * p.M + K + u ≤ L) : t.ok κ.S p.v0 L v := by
 cases c <;> cases t <;> simp only [fitV, reduceCtorEq] at h
 · exact fitT_sound hI hM h hv hL
 · obtain ⟨vs, h1, h2⟩ := hv
   exact ⟨vs, h1, fitTL_sound hI hM h h2 hL⟩
 · obtain ⟨vs, h1, h2⟩ := hv
   exact ⟨vs, h1, fitPs_sound hI hM h h2 hL⟩
theorem fitVs_sound (hI : InOk p κ I a w) (hM : p.M ≤ mx) : ∀ {l : List AV} {ts : List PV} {vs : List Value} {u : Nat}, fitVs I.B mx A K l ts = some u → hasVs p.T p.v0 κ l vs → (A : Int) * p.M + K + u ≤ L → pvL κ.S p.v0 L ts vs
 | [], [], [], _, _, _, _ => trivial
 | c :: l, t :: ts, v :: vs, u, h, hv, hL => by
  simp only [fitVs] at h
  split at h <;> try contradiction
  rename_i u1 h1
  split at h <;> try contradiction
  rename_i u2 h2
  simp only [Option.some.injEq] at h
  subst h
  exact ⟨fitV_sound hI hM h1 hv.1 (by omega), fitVs_sound hI hM h2 hv.2 (by omega)⟩
 | [], _ :: _, _, _, h, _, _ => by simp [fitVs] at h
 | _ :: _, [], _, _, h, _, _ => by simp [fitVs] at h
 | [], [], _ :: _, _, _, hv, _ => hv.elim
 | _ :: _, _ :: _, [], _, _, hv, _ => hv.elim
end
end Go.Ty
namespace Go.Ty
open Go Go.Sx
def Par.at (p : Par) (M : Nat) (pin : List (Nat × Nat)) : Par := ⟨p.T, p.v0, p.W, M, pin, []⟩
theorem WT.par {p : Par} {M : Nat} {pin : List (Nat × Nat)} {S : SB'} {L : Int} {w : World} (h : WT p S L w) : WT (p.at M pin) S L w :=
 ⟨h.old, h.size, fun b x hx => by obtain ⟨h1, h2, h3, h4⟩ := h.blk b x hx; exact ⟨h1, h2, h3, h4⟩⟩
theorem WT.unpar {p : Par} {M : Nat} {pin : List (Nat × Nat)} {S : SB'} {L : Int} {w : World} (h : WT (p.at M pin) S L w) : WT p S L w :=
 ⟨h.old, h.size, fun b x hx => by obtain ⟨h1, h2, h3, h4⟩ := h.blk b x hx; exact ⟨h1, h2, h3, h4⟩⟩
def PmOk (v0 : Value) (S : SB') (w : World) (L : Int) (vs : List Value) (i : Nat) (cells : List PT) : Prop :=
 ∃ b t arr, vs[i]? = some (.pointer (some ⟨b, 0, none⟩)) ∧ w.heap[b]? = some (.cells arr t (0, 0)) ∧ ptL S v0 L cells arr.toList
structure SpOut (p : Par) (sp : Sp) (S : SB') (w : World) (M : Nat) (vs : List Value) (S' : SB') (w' : World) (u : Value) : Prop where
 ext : SExt S S'
 wt : WT p S' ((M : Int) + sp.k) w'
 os : w'.os = w.os
 tape : w'.tape = w.tape
 output : w'.output = w.output
 size : w.heap.size ≤ w'.heap.size
 newS : ∀ b x, S' b = some x → (∃ y, S b = some y) ∨ w.heap.size ≤ b
 same : ∀ b, b < w.heap.size → (∀ x, S b = some x → (x.row, x.t) ∉ sp.eff) → w'.heap[b]? = w.heap[b]?
 val : sp.rs.ok S' p.v0 ((M : Int) + sp.k) u
 qm : ∀ i cells, sp.pm = some (i, cells) → PmOk p.v0 S' w' ((M : Int) + sp.k) vs i sp.qm
structure SpOk (P : Program) (p : Par) (g : FuncId) (sp : Sp) : Prop where
 fn : ∃ fn, P.funcs[g]? = some fn ∧ (fn.name == "runtime.NumGoroutine") = false ∧ fn.body.isNone = false
 ok : ∀ (S : SB') (w : World) (M : Nat) (vs : List Value), M ≤ sp.mx → WT p S M w → pvL S p.v0 M sp.ps vs → (∀ i cells, sp.pm = some (i, cells) → PmOk p.v0 S w M vs i cells) →
  Calls P g vs.toArray w fun en w' => ∃ u S', en = .returned u ∧ SpOut p sp S w M vs S' w' u
def pmFit (I : In) (mx : Nat) (args : List AV) : Option (Nat × List PT) → Option (Nat × Option (Nat × TypeId))
 | none => some (0, none)
 | some (i, cells) => match args[i]? with
  | some (.one (.ptr t q 0)) => match I.M q with
   | some (_, l) => match fitTL I.B mx I.A I.K l cells with
    | some u => some (u, some (q, t))
    | none => none
   | none => none
  | _ => none
def conOf (mx : Nat) (sp : Sp) : Con := fun I args =>
 match fitVs I.B mx I.A I.K args sp.ps with
 | none => none
 | some u1 => match pmFit I mx args sp.pm with
  | none => none
  | some (u2, pq) => match Nat.ble (I.A * mx + I.U + max u1 u2) sp.mx with
   | false => none
   | true => match pq with
    | none => some ⟨(frV I.A (I.U + max u1 u2 + sp.k) sp.rs I.n).1, (frV I.A (I.U + max u1 u2 + sp.k) sp.rs I.n).2, [], [], [], none, sp.eff, max u1 u2 + sp.k⟩
    | some (q, t) => some ⟨(frV I.A (I.U + max u1 u2 + sp.k) sp.rs I.n).1,
      (frV I.A (I.U + max u1 u2 + sp.k) sp.rs I.n).2 ++ (frL I.A (I.U + max u1 u2 + sp.k) sp.qm (I.n + (frV I.A (I.U + max u1 u2 + sp.k) sp.rs I.n).2.length)).2, [], [],
      [(q, t, (frL I.A (I.U + max u1 u2 + sp.k) sp.qm (I.n + (frV I.A (I.U + max u1 u2 + sp.k) sp.rs I.n).2.length)).1)], none, sp.eff, max u1 u2 + sp.k⟩
def Ctx.put2 (κ : Ctx) (n : Nat) (ys : List (Int × Nat)) (S : SB') : Ctx := ⟨fun i => if n ≤ i ∧ i < n + ys.length then (ys.getD (i - n) (0, 0)).1 else κ.ρ i, fun i => if n ≤ i ∧ i < n + ys.length then (ys.getD (i - n) (0, 0)).2 else κ.π i, S⟩
theorem put2_gives {κ : Ctx} {n : Nat} {ys : List (Int × Nat)} {S : SB'} : Gives (κ.put2 n ys S) n ys := by
 intro j y hj
 have := (List.getElem?_eq_some_iff.1 hj).1
 simp only [Ctx.put2]
 rw [if_pos (by omega), if_pos (by omega)]
 simp [hj]
theorem put2_agree {κ : Ctx} {n : Nat} {ys : List (Int × Nat)} {S : SB'} (h : SExt κ.S S) : Agree κ (κ.put2 n ys S) n ys.length :=
 ⟨fun i hi => by simp only [Ctx.put2]; rw [if_neg hi], fun i hi => by simp only [Ctx.put2]; rw [if_neg hi], h⟩
theorem put2_zero {κ : Ctx} {n : Nat} {ys : List (Int × Nat)} {S : SB'} (hn : 0 < n) : (κ.put2 n ys S).ρ 0 = κ.ρ 0 := by
 simp only [Ctx.put2]
 rw [if_neg (by omega)]
theorem hasVs_get {T : Bool → TypeId → Option (List CT)} {v0 : Value} {κ : Ctx} : ∀ {l : List AV} {vs : List Value}, hasVs T v0 κ l vs → ∀ {i : Nat} {c : AV}, l[i]? = some c → ∃ v, vs[i]? = some v ∧ c.has T v0 κ v
 | [], [], _, i, c, h => by simp at h
 | a :: l, v :: vs, hh, 0, c, h => by simp at h; subst h; exact ⟨v, by simp, hh.1⟩
 | a :: l, v :: vs, hh, i + 1, c, h => by
  simp at h
  obtain ⟨u, h1, h2⟩ := hasVs_get hh.2 h
  exact ⟨u, by simpa using h1, h2⟩
 | [], _ :: _, h, _, _, _ => h.elim
 | _ :: _, [], h, _, _, _ => h.elim
theorem conOk_of {P : Program} {p : Par} {g : FuncId} {sp : Sp} {mx : Nat} (h : SpOk P p g sp) : ConOk P mx p g (conOf mx sp) := by
 refine ⟨h.fn, ?_⟩
 intro κ I a w L l vs e hcon hI hvs hoff hW hL hL2 hM
 unfold conOf at hcon
 split at hcon
 · contradiction
 rename_i u1 hu1
 split at hcon
 · contradiction
 rename_i u2 pq hpq
 split at hcon
 · contradiction
 rename_i hmx
 have hmx := Nat.le_of_ble_eq_true hmx
 have hL0 : 0 ≤ L := by
  have : 0 ≤ (I.A : Int) * p.M := Int.mul_nonneg (by omega) (by omega)
  omega
 obtain ⟨M', hM'⟩ : ∃ M' : Nat, (M' : Int) = L + (max u1 u2 : Nat) := ⟨(L + (max u1 u2 : Nat)).toNat, by omega⟩
 have hAM : (I.A : Int) * p.M ≤ (I.A : Int) * mx := Int.mul_le_mul_of_nonneg_left (by omega) (by omega)
 have hle : M' ≤ sp.mx := by
  have h1 : ((I.A * mx + I.U + max u1 u2 : Nat) : Int) ≤ sp.mx := by omega
  rw [Int.natCast_add, Int.natCast_add, Int.natCast_mul] at h1
  omega
 have hargs := fitVs_sound (L := M') hI hM hu1 hvs (by omega)
 have hpm : ∀ i cells, sp.pm = some (i, cells) → ∃ q t, pq = some (q, t) ∧ vs[i]? = some (.pointer (some ⟨κ.π q, 0, none⟩)) ∧ κ.S (κ.π q) = some ⟨false, t, 1, 1⟩ ∧ q < I.n ∧ PmOk p.v0 κ.S w M' vs i cells := by
  intro i cells hpm
  rw [hpm] at hpq
  simp only [pmFit] at hpq
  split at hpq <;> try contradiction
  rename_i t q hq
  split at hpq <;> try contradiction
  rename_i t' c hMq
  split at hpq <;> try contradiction
  rename_i u hu
  simp only [Option.some.injEq, Prod.mk.injEq] at hpq
  obtain ⟨rfl, rfl⟩ := hpq
  obtain ⟨v, h1, h2, h3⟩ := hasVs_get hvs hq
  obtain ⟨h4, arr, tt, h5, h6⟩ := hI.mem q t' c hMq
  rw [h2] at h1
  exact ⟨q, t, rfl, h1, h3, (hI.offM q t' c hMq).1, κ.π q, tt, arr, h1, h5, fitTL_sound hI hM hu h6 (by omega)⟩
 have hcalls := h.ok κ.S w M' vs hle (by rw [hM']; exact hW.mono (by omega)) hargs (fun i cells hp => by obtain ⟨_, _, _, _, _, _, h1⟩ := hpm i cells hp; exact h1)
 refine hcalls.mono ?_
 rintro en w' ⟨u, S', rfl, ho⟩
 have hlev : (M' : Int) + sp.k = L + ((max u1 u2 + sp.k : Nat) : Int) := by omega
 have hup : (M' : Int) + sp.k ≤ (I.A : Int) * p.M + ((I.U + max u1 u2 + sp.k : Nat) : Int) := by omega
 obtain ⟨ys, g1, g2⟩ := frV_sound (T := p.T) hup I.n ho.val
 split at hcon
 · simp only [Option.some.injEq] at hcon
   subst hcon
   have hag := put2_agree (κ := κ) (n := I.n) (ys := ys) ho.ext
   refine ⟨u, κ.put2 I.n ys S', rfl, ⟨by simpa only [g1.len] using hag, g2 _ (by rw [put2_zero hI.pos, hI.zero]) rfl put2_gives, ?_, by simp, by rw [← hlev]; exact ho.wt, ho.os, ho.tape, ho.output, ho.size, ho.newS, fun b hb hk _ => ho.same b hb hk, by simp, by simp, by simp⟩⟩
   intro j b hj
   obtain ⟨y, h1, h2⟩ := g1.ok j b hj
   rw [(put2_gives j y h1).1]
   exact h2
 · rename_i q t
   simp only [Option.some.injEq] at hcon
   subst hcon
   cases hspm : sp.pm with
   | none => rw [hspm] at hpq; simp [pmFit] at hpq
   | some ic =>
    obtain ⟨i, cells⟩ := ic
    obtain ⟨q', t', hqq, hvi, hSq, hqn, _⟩ := hpm i cells hspm
    simp only [Option.some.injEq, Prod.mk.injEq] at hqq
    obtain ⟨rfl, rfl⟩ := hqq
    obtain ⟨b, tt, arr, k1, k2, k3⟩ := ho.qm i cells hspm
    rw [hvi] at k1
    simp only [Option.some.injEq, Value.pointer.injEq, Addr.mk.injEq, and_true] at k1
    subst k1
    obtain ⟨zs, g3, g4⟩ := frL_sound (T := p.T) hup (I.n + (frV I.A (I.U + max u1 u2 + sp.k) sp.rs I.n).2.length) k3
    have hag := put2_agree (κ := κ) (n := I.n) (ys := ys ++ zs) ho.ext
    have hgv : Gives (κ.put2 I.n (ys ++ zs) S') I.n (ys ++ zs) := put2_gives
    have hz : (κ.put2 I.n (ys ++ zs) S').ρ 0 = 0 := by rw [put2_zero hI.pos, hI.zero]
    have hr := hgv.right
    rw [g1.len] at hr
    have hπ : (κ.put2 I.n (ys ++ zs) S').π q = κ.π q := by
     simp only [Ctx.put2]
     rw [if_neg (by omega)]
    have hlen : (ys ++ zs).length = ((frV I.A (I.U + max u1 u2 + sp.k) sp.rs I.n).2 ++ (frL I.A (I.U + max u1 u2 + sp.k) sp.qm (I.n + (frV I.A (I.U + max u1 u2 + sp.k) sp.rs I.n).2.length)).2).length := (g1.append g3).len
    refine ⟨u, κ.put2 I.n (ys ++ zs) S', rfl, ⟨by rw [← hlen]; exact hag, g2 _ hz rfl hgv.left, ?_, by simp, by rw [← hlev]; exact ho.wt, ho.os, ho.tape, ho.output, ho.size, ho.newS, fun b hb hk _ => ho.same b hb hk, by simp, ?_, by simp⟩⟩
    · intro j b hj
      obtain ⟨y, h1, h2⟩ := (g1.append g3).ok j b hj
      rw [(put2_gives j y h1).1]
      exact h2
    · intro x hx
      simp at hx
      subst hx
      simp only
      rw [hπ]
      obtain ⟨k, e1, _, e2⟩ := ho.ext _ _ hSq
      refine ⟨by rw [show (κ.put2 I.n (ys ++ zs) S').S = S' from rfl, e1, e2 rfl], arr, tt, k2, g4 _ hz rfl hr⟩
end Go.Ty
