/- A part of the proof: the reference is safe, both packages write and read alike. Several texts in one; printed by slim28.py out of the texts of wip. -/
import Derived.Test.YtjmnolhkkpaodaaGreatDoorZ09
set_option linter.all false
namespace Go.Ty
open Go Go.Sx
section
variable {E : Env} {G : Nat → Option Con} {p : Par} {κ κ' : Ctx} {I : In} {o : Oper} {e : Ef} {L : Int} {a : Act} {w w' : World}
def binZ (op : BinOp) (k : IntKind) (x y : Int) : Value :=
 match op with
 | .add => .int k (gadd k x y)
 | .sub => .int k (gsub k x y)
 | .mul => .int k (gmul k x y)
 | .quo => .int k (gquo k x y)
 | .rem => .int k (x.tmod y)
 | .and => .int k (bits .and k x y)
 | .or => .int k (bits .or k x y)
 | .xor => .int k (bits .xor k x y)
 | .andNot => .int k (bits .andNot k x y)
 | .eql => .bool (x == y)
 | .neq => .bool (x != y)
 | .lss => .bool (decide (x < y))
 | .leq => .bool (decide (x ≤ y))
 | .gtr => .bool (decide (x > y))
 | .geq => .bool (decide (x ≥ y))
 | _ => undef
theorem binZ_run {op : BinOp} {k : IntKind} {x y : Int} {t : TypeId} {P : Program} (hop : op ≠ .shl ∧ op ≠ .shr) (hq : op = .quo ∨ op = .rem → y ≠ 0) (hk : binZ op k x y ≠ undef) (w : World) :
  (binOp op t (.int k x) (.int k y)).run P w = .ok (binZ op k x y) w := by
 have key : ∀ (c : SB) (v : SV), intBin op k (.sym x) (.sym y) = some (c, v) → c.val = true → v.den (fun _ => 0) = binZ op k x y → (binOp op t (.int k x) (.int k y)).run P w = .ok (binZ op k x y) w := by
  intro c v h hc hv
  have := intBin_run (P := P) h hc t (fun _ => 0) w
  rw [hv] at this
  exact this
 cases op <;> first
  | exact key _ _ rfl rfl rfl
  | exact key _ _ rfl (by simp [SI.cmp, SB.val]; exact hq (by simp)) rfl
  | exact absurd rfl hop.1
  | exact absurd rfl hop.2
  | exact absurd rfl hk
theorem aInt_out {op : BinOp} {k : IntKind} {i j n : Nat} {d l u e1 l' u' : Int} (h : aInt op k i d l u j e1 l' u' n = some e) (hz : κ.ρ 0 = 0) (hW : WT p κ.S L w) (h1 : l ≤ κ.ρ i + d ∧ κ.ρ i + d ≤ u) (h2 : l' ≤ κ.ρ j + e1 ∧ κ.ρ j + e1 ≤ u') :
  (op ≠ .shl ∧ op ≠ .shr) ∧ (op = .quo ∨ op = .rem → κ.ρ j + e1 ≠ 0) ∧ binZ op k (κ.ρ i + d) (κ.ρ j + e1) ≠ undef ∧ ∃ κ', OpOut p κ κ' n e L w w (binZ op k (κ.ρ i + d) (κ.ρ j + e1)) := by
 have bw : ∀ op x y, klo k ≤ bits op k x y ∧ bits op k x y ≤ khi k := fun op x y => by rw [← klo_min, ← khi_max]; exact bits_within _ _ _ _
 cases op <;> simp only [aInt, cmpOf] at h <;> try contradiction
 case add =>
  refine ⟨by simp, by simp, by simp [binZ, undef], ?_⟩
  simp only [binZ, gadd]
  split at h
  · rename_i hj
    have := Nat.eq_of_beq_eq_true hj
    subst this
    simp only [Option.some.injEq] at h; subst h
    rw [hz] at h2 ⊢
    rw [show κ.ρ i + d + (0 + e1) = κ.ρ i + (d + e1) by omega]
    exact shiftK_out hW (by omega)
  · split at h
    · rename_i hi
      have := Nat.eq_of_beq_eq_true hi
      subst this
      simp only [Option.some.injEq] at h; subst h
      rw [hz] at h1 ⊢
      rw [show 0 + d + (κ.ρ j + e1) = κ.ρ j + (e1 + d) by omega]
      exact shiftK_out hW (by omega)
    · simp only [Option.some.injEq] at h; subst h
      exact freshK_out hW (by omega)
 case sub =>
  refine ⟨by simp, by simp, by simp [binZ, undef], ?_⟩
  simp only [binZ, gsub]
  split at h
  · rename_i hj
    have := Nat.eq_of_beq_eq_true hj
    subst this
    simp only [Option.some.injEq] at h; subst h
    rw [hz] at h2 ⊢
    rw [show κ.ρ i + d - (0 + e1) = κ.ρ i + (d - e1) by omega]
    exact shiftK_out hW (by omega)
  · simp only [Option.some.injEq] at h; subst h
    exact freshK_out hW (by omega)
 case mul =>
  refine ⟨by simp, by simp, by simp [binZ, undef], ?_⟩
  simp only [binZ, gmul]
  split at h
  · rename_i hc
    simp only [Bool.and_eq_true, leI_iff] at hc
    simp only [Option.some.injEq] at h; subst h
    refine freshK_out hW ⟨Int.mul_le_mul h1.1 h2.1 hc.2 (by omega), Int.mul_le_mul h1.2 h2.2 (by omega) (by omega)⟩
  · simp only [Option.some.injEq] at h; subst h
    exact ⟨_, freshKin hW (wrap_in _ _)⟩
 case and =>
  refine ⟨by simp, by simp, by simp [binZ, undef], ?_⟩
  simp only [binZ]
  split at h
  · rename_i hc
    simp only [Bool.and_eq_true, Nat.beq_eq, Bool.or_eq_true, eqI_iff] at hc
    obtain ⟨rfl, hc⟩ := hc
    simp only [Option.some.injEq] at h; subst h
    rw [hz, Int.zero_add]
    have mask : ∀ (m : Nat), m < k.bits → 0 ≤ bits .and k (κ.ρ i + d) ((2 ^ m - 1 : Nat) : Int) ∧ bits .and k (κ.ρ i + d) ((2 ^ m - 1 : Nat) : Int) < ((2 ^ m : Nat) : Int) := by
     intro m hm
     rw [and_mask k m hm]
     have hp : (0 : Int) < ((2 ^ m : Nat) : Int) := by exact_mod_cast Nat.two_pow_pos m
     exact ⟨Int.emod_nonneg _ (by omega), Int.emod_lt_of_pos _ hp⟩
    refine ⟨_, freshInt hW ?_⟩
    simp only [Bd.ok]
    rcases hc with ((hc | hc) | hc) | hc <;> subst hc
    · have := mask 3 (by cases k <;> decide); simp at this; omega
    · have := mask 2 (by cases k <;> decide); simp at this; omega
    · have := mask 1 (by cases k <;> decide); simp at this; omega
    · have := mask 4 (by cases k <;> decide); simp at this; omega
  · simp only [Option.some.injEq] at h; subst h
    exact ⟨_, freshKin hW (bw _ _ _)⟩
 case or => simp only [Option.some.injEq] at h; subst h; exact ⟨by simp, by simp, by simp [binZ, undef], _, freshKin hW (bw _ _ _)⟩
 case xor => simp only [Option.some.injEq] at h; subst h; exact ⟨by simp, by simp, by simp [binZ, undef], _, freshKin hW (bw _ _ _)⟩
 case andNot => simp only [Option.some.injEq] at h; subst h; exact ⟨by simp, by simp, by simp [binZ, undef], _, freshKin hW (bw _ _ _)⟩
 case quo =>
  split at h <;> try contradiction
  rename_i hc
  simp only [Bool.and_eq_true, leI_iff, ltI_iff] at hc
  simp only [Option.some.injEq] at h; subst h
  refine ⟨by simp, by intro _; omega, by simp [binZ, undef], ?_⟩
  simp only [binZ, gquo]
  refine freshK_out hW ⟨Int.tdiv_nonneg (by omega) (by omega), ?_⟩
  exact Int.le_trans (Int.tdiv_le_self _ (by omega)) h1.2
 case rem =>
  split at h <;> try contradiction
  rename_i hc
  simp only [Bool.and_eq_true, leI_iff, ltI_iff] at hc
  simp only [Option.some.injEq] at h; subst h
  refine ⟨by simp, by intro _; omega, by simp [binZ, undef], _, freshInt hW ?_⟩
  have h3 := Int.tmod_nonneg (κ.ρ j + e1) (show 0 ≤ κ.ρ i + d by omega)
  have h4 := Int.tmod_lt_of_pos (κ.ρ i + d) (show 0 < κ.ρ j + e1 by omega)
  simp only [Bd.ok]
  omega
 all_goals
  simp only [Option.some.injEq] at h; subst h
  refine ⟨by simp, by simp, by simp [binZ, undef], κ, pureOut hW ?_⟩
  simp only [AV.has, AC.has, AB.val, Cmp.on, binZ]
 case eql => rfl
 case neq => rfl
theorem op_binOp {op : BinOp} {t t' : TypeId} {x y : Operand} (hop : o.op = .binOp op t x y t') (h : aop0 E G I o = some e) (hI : InOk p κ I a w) (hW : WT p κ.S L w) (hM : p.M ≤ E.mx) : OpWp E p κ I o e L a w := by
 simp only [aop0, hop] at h
 have guard1 : ∀ {u v : Value}, (match u with | .agg _ => false | .nilIface => false | _ => true) = true → (eqGuard op t x y u v).run E.P w = .ok () w := by
  intro u v hu
  cases u <;> cases v <;> simp at hu <;> simp [eqGuard] <;> split <;> simp
 split at h <;> try contradiction
 · rename_i k i d k' j e1 hx hy
   have hx' := (evO_has hI hx).1
   have hy' := (evO_has hI hy).1
   simp only [AV.has, AC.has] at hx' hy'
   split at h <;> try contradiction
   rename_i l u l' u' hr hr'
   have r1 := rng_le hI hM hr
   have r2 := rng_le hI hM hr'
   have shift : ∀ {ee : Ef}, aShift op k l u j e1 l' I.n = some ee → OpWp E p κ I o ee L a w := by
    intro ee hs
    unfold aShift at hs
    split at hs <;> try contradiction
    rename_i hl0
    rw [leI_iff] at hl0
    have hnn : 0 ≤ κ.ρ j + e1 := by omega
    have run : ∀ (ho : op = .shl ∨ op = .shr), (execOp a.eval o).run E.P w = .ok (.value (.int k (if op = .shl then gshl k (κ.ρ i + d) (κ.ρ j + e1) else gshr k (κ.ρ i + d) (κ.ρ j + e1)))) w := by
     intro ho
     have hs := fun c v hv hc => sBin_run (P := E.P) (op := op) (t := t) (a := .int k (.sym (κ.ρ i + d))) (b := .int k' (.sym (κ.ρ j + e1))) (v := v) (c := c) hv hc (fun _ => 0) w
     rcases ho with rfl | rfl
     · have h2 := hs _ _ rfl (by simp [SI.cmp, SB.val, hnn])
       simp only [SV.den, SI.val, SI.map2] at h2
       simp [execOp, hop, hx', hy', guard1 (u := .int k (κ.ρ i + d)) (v := .int k' (κ.ρ j + e1)) rfl, h2]
     · have h2 := hs _ _ rfl (by simp [SI.cmp, SB.val, hnn])
       simp only [SV.den, SI.val, SI.map2] at h2
       simp [execOp, hop, hx', hy', guard1 (u := .int k (κ.ρ i + d)) (v := .int k' (κ.ρ j + e1)) rfl, h2]
    split at hs
    · simp only [Option.some.injEq] at hs; subst hs
      have run := run (.inl rfl)
      simp only [if_true, gshl] at run
      exact .value run (freshKin hW (wrap_in _ _))
    · have run := run (.inr rfl)
      simp only [reduceCtorEq, if_false] at run
      have pos2 : ∀ (m : Nat), (0 : Int) < 2 ^ m := fun m => by exact_mod_cast Nat.two_pow_pos m
      split at hs
      · rename_i hc
        simp only [Bool.and_eq_true, Nat.beq_eq, leI_iff, fits_iff] at hc
        obtain ⟨⟨rfl, h0⟩, hf⟩ := hc
        simp only [Option.some.injEq] at hs; subst hs
        refine .value run (freshInt hW ?_)
        rw [hI.zero, Int.zero_add] at *
        simp only [gshr, Bd.ok]
        rw [Int.fdiv_eq_ediv_of_nonneg _ (Int.le_of_lt (pos2 _))]
        refine ⟨Int.ediv_nonneg (by omega) (Int.le_of_lt (pos2 _)), ?_⟩
        have e3 : ((u.toNat / 2 ^ (min e1.toNat k.bits) : Nat) : Int) = u / 2 ^ (min e1.toNat k.bits) := by
         rw [Int.natCast_ediv, Int.toNat_of_nonneg (by omega)]
         simp
        rw [show ((0 : Nat) : Int) * (p.M : Int) = 0 by simp, Int.zero_add]
        refine Int.le_trans (Int.ediv_le_ediv (pos2 _) r1.2) (Int.le_of_eq ?_)
        rw [← e3]
        simp
      · split at hs <;> try contradiction
        rename_i hf
        rw [fits_iff] at hf
        simp only [Option.some.injEq] at hs; subst hs
        refine .value run (freshInt hW ?_)
        simp only [gshr, Bd.ok, minI_eq, maxI_eq]
        rw [Int.fdiv_eq_ediv_of_nonneg _ (Int.le_of_lt (pos2 _))]
        have p2 := pos2 (min (κ.ρ j + e1).toNat k.bits)
        generalize (2 : Int) ^ (min (κ.ρ j + e1).toNat k.bits) = q at p2 ⊢
        by_cases h0 : κ.ρ i + d < 0
        · have h5 : (κ.ρ i + d) / q < 0 := Int.ediv_neg_of_neg_of_pos h0 p2
          have h6 : κ.ρ i + d ≤ (κ.ρ i + d) / q := by
           rw [Int.le_ediv_iff_mul_le p2]
           have : (κ.ρ i + d) * q ≤ (κ.ρ i + d) * 1 := Int.mul_le_mul_of_nonpos_left (by omega) (by omega)
           omega
          omega
        · have h0 : 0 ≤ κ.ρ i + d := by omega
          have h5 : 0 ≤ (κ.ρ i + d) / q := Int.ediv_nonneg h0 (by omega)
          have h6 : (κ.ρ i + d) / q ≤ κ.ρ i + d := Int.ediv_le_self _ h0
          omega
    · contradiction
   split at h
   · exact shift h
   · exact shift h
   · split at h <;> try contradiction
     rename_i hk
     have hk := kindEq_eq hk
     subst hk
     obtain ⟨g1, g2, g3, κ', hout⟩ := aInt_out h hI.zero hW r1 r2
     refine .value ?_ hout
     simp [execOp, hop, hx', hy', guard1 (u := .int k (κ.ρ i + d)) (v := .int k (κ.ρ j + e1)) rfl, binZ_run g1 g2 g3]
 · rename_i b1 b2 hx hy
   have hx' := (evO_has hI hx).1
   have hy' := (evO_has hI hy).1
   simp only [AV.has, AC.has] at hx' hy'
   split at h <;> try contradiction
   rename_i hb
   have hs := fun c v hv hc => sBin_run (P := E.P) (op := op) (t := t) (a := .bool (.sym (b1.val κ.ρ))) (b := .bool (.sym (b2.val κ.ρ))) (v := v) (c := c) hv hc (fun _ => 0) w
   split at h <;> try contradiction
   all_goals
    simp only [Option.some.injEq] at h; subst h
    have h2 := hs _ _ (by simp only [sBin, hb]; rfl) rfl
    simp only [SV.den] at h2
    have run : ∃ bb, (execOp a.eval o).run E.P w = .ok (.value (.bool bb)) w := ⟨_, by
     simp only [execOp, hop, hx', hy', Sem.run_bind, guard1 (u := .bool (b1.val κ.ρ)) (v := .bool (b2.val κ.ρ)) rfl, Result.andThen_ok]
     simp only [SB.val_sym] at h2
     rw [h2]
     rfl⟩
    obtain ⟨bb, run⟩ := run
    exact .value run (freshBool hI.pos hI.zero hW)
end
end Go.Ty
namespace Go.Ty
open Go Go.Sx
section
variable {E : Env} {G : Nat → Option Con} {p : Par} {κ κ' : Ctx} {I : In} {o : Oper} {e : Ef} {L : Int} {a : Act} {w w' : World}
theorem hullA_sound (hI : InOk p κ I a w) {mx : Nat} (hM : p.M ≤ mx) : ∀ {l : List AC} {k : IntKind} {lo hi : Int}, hullA I.B mx l = some (k, lo, hi) → ∀ c ∈ l, ∀ v, c.has p.T p.v0 κ v → ∃ n, v = .int k n ∧ lo ≤ n ∧ n ≤ hi
 | [], _, _, _, h, _, hc, _, _ => by simp at hc
 | [.int k0 i d], k, lo, hi, h, c, hc, v, hv => by
  simp only [hullA] at h
  split at h <;> try contradiction
  rename_i l u hr
  simp only [Option.some.injEq, Prod.mk.injEq] at h
  obtain ⟨rfl, rfl, rfl⟩ := h
  simp at hc
  subst hc
  exact ⟨_, hv, rng_le hI hM hr⟩
 | .int k0 i d :: x :: r, k, lo, hi, h, c, hc, v, hv => by
  simp only [hullA] at h
  split at h <;> try contradiction
  rename_i l u hr
  split at h <;> try contradiction
  rename_i k' l' u' hr'
  split at h <;> try contradiction
  rename_i hk
  have hk := kindEq_eq hk
  subst hk
  simp only [Option.some.injEq, Prod.mk.injEq, minI_eq, maxI_eq] at h
  obtain ⟨rfl, rfl, rfl⟩ := h
  rcases List.mem_cons.1 hc with rfl | hc
  · have := rng_le hI hM hr
    exact ⟨_, hv, by omega, by omega⟩
  · obtain ⟨n, rfl, h1, h2⟩ := hullA_sound hI hM hr' c hc v hv
    exact ⟨n, rfl, by omega, by omega⟩
 | [.anyI k0], k, lo, hi, h, c, hc, v, hv => by
  simp only [hullA, Option.some.injEq, Prod.mk.injEq] at h
  obtain ⟨rfl, rfl, rfl⟩ := h
  simp at hc
  subst hc
  exact hv
 | .anyI k0 :: x :: r, k, lo, hi, h, c, hc, v, hv => by
  simp only [hullA] at h
  split at h <;> try contradiction
  rename_i k' l' u' hr'
  split at h <;> try contradiction
  rename_i hk
  have hk := kindEq_eq hk
  subst hk
  simp only [Option.some.injEq, Prod.mk.injEq, minI_eq, maxI_eq] at h
  obtain ⟨rfl, rfl, rfl⟩ := h
  rcases List.mem_cons.1 hc with rfl | hc
  · obtain ⟨n, rfl, h1, h2⟩ := hv
    exact ⟨n, rfl, by omega, by omega⟩
  · obtain ⟨n, rfl, h1, h2⟩ := hullA_sound hI hM hr' c hc v hv
    exact ⟨n, rfl, by omega, by omega⟩
 | .bool _ :: r, _, _, _, h, _, _, _, _ => by cases r <;> simp [hullA] at h
 | .slc _ _ _ :: r, _, _, _, h, _, _, _, _ => by cases r <;> simp [hullA] at h
 | .nils :: r, _, _, _, h, _, _, _, _ => by cases r <;> simp [hullA] at h
 | .ptr _ _ _ :: r, _, _, _, h, _, _, _, _ => by cases r <;> simp [hullA] at h
 | .eptr _ _ :: r, _, _, _, h, _, _, _, _ => by cases r <;> simp [hullA] at h
 | .fix :: r, _, _, _, h, _, _, _, _ => by cases r <;> simp [hullA] at h
 | .anyB :: r, _, _, _, h, _, _, _, _ => by cases r <;> simp [hullA] at h
theorem op_index {t : TypeId} {x y : Operand} (hop : o.op = .index t x y) (h : aop0 E G I o = some e) (hI : InOk p κ I a w) (hW : WT p κ.S L w) (hM : p.M ≤ E.mx) : OpWp E p κ I o e L a w := by
 simp only [aop0, hop] at h
 split at h <;> try contradiction
 rename_i l hx
 obtain ⟨vs, hx', hvs⟩ := (evO_has hI hx).1
 split at h <;> try contradiction
 rename_i k j d hy
 have hy' := (evO_has hI hy).1
 simp only [AV.has, AC.has] at hy'
 split at h <;> try contradiction
 rename_i len el ht
 split at h <;> try contradiction
 rename_i hagg
 split at h <;> try contradiction
 rename_i hsz
 split at h <;> try contradiction
 rename_i lo hi hr
 have r1 := rng_le hI hM hr
 split at h <;> try contradiction
 rename_i hc
 simp only [Bool.and_eq_true, leI_iff, ltI_iff, Nat.beq_eq] at hc
 obtain ⟨⟨h0, h1⟩, hl⟩ := hc
 split at h <;> try contradiction
 rename_i k' lo' hi' hh
 simp only [Option.some.injEq] at h
 subst h
 obtain ⟨ix, hix⟩ : ∃ ix : Nat, κ.ρ j + d = (ix : Int) := ⟨(κ.ρ j + d).toNat, by omega⟩
 have hlt : ix < l.length := by omega
 have hm : l[ix] ∈ (l.drop lo.toNat).take (hi - lo + 1).toNat := by
  rw [List.mem_iff_getElem?]
  refine ⟨ix - lo.toNat, ?_⟩
  rw [List.getElem?_take, if_pos (by omega), List.getElem?_drop, show lo.toNat + (ix - lo.toNat) = ix by omega]
  exact List.getElem?_eq_getElem hlt
 obtain ⟨u, hu, hu2⟩ := hasL_get hvs (List.getElem?_eq_getElem hlt)
 obtain ⟨nn, rfl, hr2⟩ := hullA_sound hI hM hh _ hm u hu2
 refine .value (u := .int k' nn) ?_ (freshInt hW (by simp only [Bd.ok]; omega))
 have hr : 0 ≤ (ix : Int) ∧ (ix : Int) < (len : Int) := ⟨by omega, by omega⟩
 rw [Array.getElem?_toList] at hu
 have hp : (part el vs (ix * 1)).run E.P w = .ok (.int k' nn) w := by
  unfold part
  simp [isAgg_run hagg, hu]
 simp only [execOp, hop, hx', hy', hix, Instr.index, asIntOf, Sem.run_bind, Sem.run_pure, Result.andThen_ok, run_underlying ht, hr, and_self, if_true, sizeOf_run hsz, Int.toNat_natCast, hp]
theorem fillA_fill {T : Bool → TypeId → Option (List CT)} {v0 : Value} (hv0 : v0.oneCell' = true ∧ v0.cells = #[v0]) {place : Nat → Option (Nat × Nat)} : ∀ {parts : List (Nat × AV)} {pv : List (Nat × Value)} {cells r : List AC} {cs : Array Value}, fillA place cells parts = some r → hasPp T v0 κ parts pv → hasL T v0 κ cells cs.toList →
  ∃ rs : Array Value, Instr.fill place cs pv = some rs ∧ hasL T v0 κ r rs.toList
 | [], [], cells, r, cs, h, _, hc => by
  simp only [fillA, Option.some.injEq] at h
  subst h
  exact ⟨cs, rfl, hc⟩
 | (i, v) :: parts, (i', u) :: pv, cells, r, cs, h, hp, hc => by
  obtain ⟨h1, h2, h3⟩ := hp
  simp only at h1 h2
  subst h1
  simp only [fillA] at h
  split at h <;> try contradiction
  rename_i off size hpl
  split at h <;> try contradiction
  rename_i l hl
  split at h <;> try contradiction
  rename_i hcond
  simp only [Bool.and_eq_true, Nat.beq_eq, Nat.ble_eq] at hcond
  have hcl := AV.cells_has hv0 h2 hl
  have hlen : l.length = u.cells.size := (hasL_length hcl).trans Array.length_toList
  have hclen : cells.length = cs.size := (hasL_length hc).trans Array.length_toList
  have hrow := fillRow off u.cells.toList 0 cs (by rw [Array.length_toList]; omega)
  obtain ⟨rs, h4, h5⟩ := fillA_fill hv0 (cs := (u.cells.zipIdx.foldl (fun cs (c, j) => cs.setIfInBounds (off + j) c) cs)) h h3 (by
   have e : (u.cells.zipIdx.foldl (fun cs (c, j) => cs.setIfInBounds (off + j) c) cs).toList = cs.toList.take off ++ u.cells.toList ++ cs.toList.drop (off + u.cells.toList.length) := by
    rw [← Array.foldl_toList, Array.toList_zipIdx]
    simp only [Nat.add_zero] at hrow
    rw [hrow]
   rw [e]
   unfold setsA
   rw [hasL_length hcl]
   exact hasL_append (hasL_append (hasL_take _ hc) hcl) (hasL_drop _ hc))
  refine ⟨rs, ?_, h5⟩
  simp only [Instr.fill, hpl]
  rw [if_neg (by simp; omega)]
  exact h4
 | [], _ :: _, _, _, _, _, hp, _ => hp.elim
 | _ :: _, [], _, _, _, _, hp, _ => hp.elim
theorem zeroA_info {P : Program} {t : TypeId} {l : List AC} {T : Bool → TypeId → Option (List CT)} {v0 : Value} (h : zeroA P t = some l) (hz : κ.ρ 0 = 0) : ∃ i z, P.info? t = some i ∧ i.zero = some z ∧ hasL T v0 κ l z.cells.toList ∧ ∀ n m, 0 < n → offL n m l := by
 unfold zeroA at h
 split at h <;> try contradiction
 rename_i i hi
 split at h <;> try contradiction
 rename_i z hzz
 obtain ⟨h1, h2⟩ := ofVals_has (κ := κ) h T v0 hz
 exact ⟨i, z, hi, hzz, h1, h2⟩
theorem zeroA_run {P : Program} {t : TypeId} {i : TypeInfo} {z : Value} (hi : P.info? t = some i) (hz : i.zero = some z) (w : World) : (zeroValue t).run P w = .ok z w := by
 simp [zeroValue, typeInfo, hi, hz]
theorem op_build {t : TypeId} {ps : Array (Nat × Operand)} (hop : o.op = .build t ps) (hv0 : p.v0.oneCell' = true ∧ p.v0.cells = #[p.v0]) (h : aop0 E G I o = some e) (hI : InOk p κ I a w) (hW : WT p κ.S L w) : OpWp E p κ I o e L a w := by
 simp only [aop0, hop] at h
 split at h <;> try contradiction
 rename_i l hl
 split at h <;> try contradiction
 rename_i z hz
 obtain ⟨i, zv, hi, hzz, hzc, _⟩ := zeroA_info (T := p.T) (v0 := p.v0) hz hI.zero
 have hparts := (evP_has hI hl).1
 have e2 : (ps.map fun (x : Nat × Operand) => match x with | (i, x) => (i, a.eval x)) = ps.map fun x => (x.1, a.eval x.2) := rfl
 split at h <;> try contradiction
 · rename_i fs ht
   split at h <;> try contradiction
   rename_i pl hpl
   split at h <;> try contradiction
   rename_i c hc
   simp only [Option.some.injEq] at h
   subst h
   obtain ⟨rs, h1, h2⟩ := fillA_fill hv0 hc hparts hzc
   refine .value (u := .agg rs) ?_ (pureOut hW ⟨rs, rfl, h2⟩)
   have hb : E.P.built t (ps.map fun x => (x.1, a.eval x.2)).toList = some rs := by
    unfold Program.built
    rw [hi, ht]
    simp only [hzz, places_mapM hpl]
    rw [Array.toList_map]
    simpa using h1
   have := run_build (P := E.P) w t _ _ hb
   simp only [execOp, hop, Sem.run_bind]
   rw [e2, this]
   rfl
 · rename_i n el ht
   split at h <;> try contradiction
   rename_i sz hsz
   split at h <;> try contradiction
   rename_i c hc
   simp only [Option.some.injEq] at h
   subst h
   obtain ⟨rs, h1, h2⟩ := fillA_fill hv0 hc hparts hzc
   refine .value (u := .agg rs) ?_ (pureOut hW ⟨rs, rfl, h2⟩)
   unfold sizeT at hsz
   split at hsz <;> try contradiction
   rename_i ie hie
   simp only [Option.some.injEq] at hsz
   have hb : E.P.built t (ps.map fun x => (x.1, a.eval x.2)).toList = some rs := by
    unfold Program.built
    rw [hi, ht]
    simp only [hzz, hie, hsz]
    rw [Array.toList_map]
    exact h1
   have := run_build (P := E.P) w t _ _ hb
   simp only [execOp, hop, Sem.run_bind]
   rw [e2, this]
   rfl
end
end Go.Ty
namespace Go.Ty
open Go Go.Sx
def SB'.put (S : SB') (b : Nat) (x : BK) : SB' := fun c => if c = b then some x else S c
section
variable {E : Env} {G : Nat → Option Con} {p : Par} {κ κ' : Ctx} {I : In} {o : Oper} {e : Ef} {L : Int} {a : Act} {w w' : World} {S : SB'}
theorem WT.lt (h : WT p S L w) {b : Nat} {x : BK} (hx : S b = some x) : b < w.heap.size := by
 obtain ⟨ts, arr, _, _, hb, _⟩ := (h.blk b x hx).at_
 exact lt_of_blk hb
theorem ext_new (h : WT p S L w) (x : BK) : SExt S (SB'.put S w.heap.size x) := by
 intro b y hy
 have := h.lt hy
 refine ⟨y.k, ?_, Nat.le_refl _, fun _ => rfl⟩
 simp only [SB'.put]
 rw [if_neg (by omega)]
 exact hy
theorem ext_set {b : Nat} {x : BK} (hx : S b = some x) {k : Nat} (hk : x.k ≤ k) (hr : x.row = false → k = x.k) : SExt S (SB'.put S b ⟨x.row, x.t, k, x.cap⟩) := by
 intro c y hy
 simp only [SB'.put]
 by_cases hc : c = b
 · subst hc
   rw [hx] at hy
   simp only [Option.some.injEq] at hy
   subst hy
   exact ⟨k, by rw [if_pos rfl], hk, hr⟩
 · exact ⟨y.k, by rw [if_neg hc]; exact hy, Nat.le_refl _, fun _ => rfl⟩
theorem BlkOk.up {S' : SB'} {L' : Int} {b : Nat} {x : BK} (h : BlkOk p S L w b x) (he : SExt S S') (hL : L ≤ L') {w' : World} (hw : w'.heap[b]? = w.heap[b]?) : BlkOk p S' L' w' b x := by
 obtain ⟨h1, h2, h3, ts, arr, h4, h5, h6, h7, h8⟩ := h
 exact ⟨h1, h2, h3, ts, arr, h4, h5, hw.trans h6, h7, fun j o ct hj ho => by
  obtain ⟨v, h9, h10⟩ := h8 j o ct hj ho
  exact ⟨v, h9, CT.has_mono he hL h10⟩⟩
theorem old_block {W w w' : World} (h : Old W w) (hs : ∀ i, i < W.heap.size → w'.heap[i]? = w.heap[i]?) : Old W w' :=
 ⟨fun {a _} hc => (World.cell?_of_block (hs a.block (cell_lt hc))).trans (h.cell hc)⟩
theorem WT.new (h : WT p S L w) {row : Bool} {t : TypeId} {k cap : Nat} {ts : List CT} {arr : Array Value} (hT : p.T row t = some ts) (hpos : 0 < ts.length) (hk : k ≤ cap) (hcap : cap ≤ maxLen) (hsz : arr.size = cap * ts.length)
  (hty : ∀ j o ct, j < k → ts[o]? = some ct → ∃ v, arr[j * ts.length + o]? = some v ∧ ct.has S p.v0 L v) {w' : World} (hw : w'.heap = (w.alloc (.cells arr t)).heap) : WT p (SB'.put S w.heap.size ⟨row, t, k, cap⟩) L w' := by
 have hold : ∀ i, i < w.heap.size → w'.heap[i]? = w.heap[i]? := fun i hi => by rw [hw]; exact Sx.heap_alloc_old hi
 refine ⟨old_block h.old fun i hi => hold i (Nat.lt_of_lt_of_le hi h.size), by rw [hw]; have := h.size; simp; omega, ?_⟩
 intro b x hx
 simp only [SB'.put] at hx
 split at hx
 · rename_i hb
   simp only [Option.some.injEq] at hx
   subst hx hb
   exact ⟨h.size, hk, hcap, ts, arr, hT, hpos, by rw [hw]; exact Sx.heap_alloc_at, hsz, fun j o ct hj ho => by
    obtain ⟨v, h1, h2⟩ := hty j o ct hj ho
    exact ⟨v, h1, CT.has_mono (ext_new h _) (Int.le_refl _) h2⟩⟩
 · exact (h.blk b x hx).up (ext_new h _) (Int.le_refl _) (hold b (h.lt hx))
theorem WT.set (h : WT p S L w) {b : Nat} {x : BK} (hx : S b = some x) {k : Nat} (hk : x.k ≤ k) (hr : x.row = false → k = x.k) (hkc : k ≤ x.cap) {ts : List CT} {arr : Array Value} (hT : p.T x.row x.t = some ts) (hsz : arr.size = x.cap * ts.length)
  (hty : ∀ j o ct, j < k → ts[o]? = some ct → ∃ v, arr[j * ts.length + o]? = some v ∧ ct.has S p.v0 L v) (h0 : ∃ cur, w.heap[b]? = some (.cells cur x.t (0, 0))) : WT p (SB'.put S b ⟨x.row, x.t, k, x.cap⟩) L (w.setRow b arr) := by
 have hb := h.blk b x hx
 have hother : ∀ i, i ≠ b → (w.setRow b arr).heap[i]? = w.heap[i]? := fun i hi => setRow_other w b i arr hi
 have hpos : 0 < ts.length := by
  obtain ⟨ts', _, h1, h2, _⟩ := hb.at_
  rw [hT] at h1
  simp only [Option.some.injEq] at h1
  subst h1
  exact h2
 refine ⟨old_block h.old fun i hi => hother i (by have := hb.new; omega), by have := h.size; simpa using this, ?_⟩
 intro c y hy
 simp only [SB'.put] at hy
 split at hy
 · rename_i hc
   simp only [Option.some.injEq] at hy
   subst hy hc
   obtain ⟨cur, hcur⟩ := h0
   exact ⟨hb.new, hkc, hb.cap, ts, arr, hT, hpos, setRow_heap w c cur arr x.t (0, 0) hcur, hsz, fun j o ct hj ho => by
    obtain ⟨v, h1, h2⟩ := hty j o ct hj ho
    exact ⟨v, h1, CT.has_mono (ext_set hx hk hr) (Int.le_refl _) h2⟩⟩
 · rename_i hc
   exact (h.blk c y hy).up (ext_set hx hk hr) (Int.le_refl _) (hother c hc)
theorem agree_new (h : WT p κ.S L w) (n : Nat) (x : BK) : Agree κ ⟨(κ.put n [0]).ρ, fun i => if i = n then w.heap.size else κ.π i, SB'.put κ.S w.heap.size x⟩ n 1 := by
 refine ⟨fun i hi => Ctx.put_agree.ρ i hi, fun i hi => ?_, ext_new h x⟩
 simp only
 rw [if_neg (by omega)]
theorem var_out (hW : WT p κ.S L w) (hI : InOk p κ I a w) (hM : p.M ≤ E.mx) (hT : E.T = p.T) {t : TypeId} {l : List AC} {ts : List CT} {u : Nat} {vs : Array Value} (hts : E.T false t = some ts) (hpos : 0 < ts.length) (hfit : fitL I.B E.mx I.A I.K l ts = some u) (hv : hasL p.T p.v0 κ l vs.toList)
  (ho : ∀ m, offL I.n m l) (hL : (I.A : Int) * p.M + I.K ≤ L) :
  ∃ κ', OpOut p κ κ' I.n ⟨.one (.ptr t I.n 0), [⟨0, 0, 0⟩], [], [], [], some (t, l), [], u⟩ L w (w.alloc (.cells vs t)) (.pointer (some ⟨w.heap.size, 0, none⟩)) := by
 obtain ⟨hlen, hty⟩ := fitL_sound hI hM (L := L + u) hfit hv (by omega)
 have hvl := (hasL_length hv).trans Array.length_toList
 have hag := agree_new hW I.n ⟨false, t, 1, 1⟩
 have hpi : (⟨(κ.put I.n [0]).ρ, fun i => if i = I.n then w.heap.size else κ.π i, SB'.put κ.S w.heap.size ⟨false, t, 1, 1⟩⟩ : Ctx).π I.n = w.heap.size := by simp
 have hS : (SB'.put κ.S w.heap.size ⟨false, t, 1, 1⟩) w.heap.size = some ⟨false, t, 1, 1⟩ := by simp [SB'.put]
 refine ⟨_, ⟨hag, ⟨by rw [hpi], by rw [hpi]; exact hS⟩, ?_, by simp, ?_, rfl, rfl, rfl, by simp, ?_, fun b hb _ _ => Sx.heap_alloc_old hb, by simp, by simp, ?_⟩⟩
 · intro j b hj
   cases j with
   | zero =>
    simp at hj
    subst hj
    have : (κ.put I.n [0]).ρ (I.n + 0) = 0 := Ctx.put_at rfl
    show (0 : Int) ≤ (κ.put I.n [0]).ρ (I.n + 0) ∧ (κ.put I.n [0]).ρ (I.n + 0) ≤ ((0 : Nat) : Int) * p.M + 0
    rw [this]
    simp
   | succ j => simp at hj
 · refine (hW.mono (L' := L + u) (by omega)).new (by rw [← hT]; exact hts) hpos (Nat.le_refl 1) (by decide) (by omega) ?_ rfl
   intro j o ct hj hoo
   obtain rfl : j = 0 := by omega
   obtain ⟨v, h1, h2⟩ := hty o ct hoo
   rw [Array.getElem?_toList] at h1
   exact ⟨v, by simpa using h1, h2⟩
 · intro b x hx
   simp only [SB'.put] at hx
   split at hx
   · rename_i hb; right; omega
   · exact .inl ⟨x, hx⟩
 · intro q hq
   simp only [Option.some.injEq] at hq
   subst hq
   refine ⟨by rw [hpi]; exact hS, ?_, by rw [hpi]; exact Nat.le_refl _, rfl⟩
   rw [hpi]
   exact ⟨vs, t, Sx.heap_alloc_at, hasL_agree hag hv (ho 1)⟩
theorem op_alloc {t : TypeId} (hop : o.op = .alloc t) (h : aop0 E G I o = some e) (hI : InOk p κ I a w) (hW : WT p κ.S L w) (hM : p.M ≤ E.mx) (hT : E.T = p.T) (hTp : ∀ r t ts, p.T r t = some ts → 0 < ts.length) (hL : (I.A : Int) * p.M + I.K ≤ L) : OpWp E p κ I o e L a w := by
 simp only [aop0, hop] at h
 split at h <;> try contradiction
 rename_i l hl
 split at h <;> try contradiction
 rename_i ts hts
 split at h <;> try contradiction
 rename_i u hu
 simp only [Option.some.injEq] at h
 subst h
 obtain ⟨i, z, hi, hz, h1, h2⟩ := zeroA_info (T := p.T) (v0 := p.v0) hl hI.zero
 obtain ⟨κ', hout⟩ := var_out hW hI hM hT hts (hTp _ _ _ (by rw [← hT]; exact hts)) hu h1 (fun m => h2 _ m hI.pos) hL
 refine .value ?_ hout
 simp only [execOp, hop, Instr.alloc, newVar, newRow, Sem.run_bind, zeroA_run hi hz, Result.andThen_ok, run_newObj, Sem.run_pure]
 rfl
theorem op_box {t : TypeId} {x : Operand} (hop : o.op = .box t x) (hv0 : p.v0.oneCell' = true ∧ p.v0.cells = #[p.v0]) (h : aop0 E G I o = some e) (hI : InOk p κ I a w) (hW : WT p κ.S L w) (hM : p.M ≤ E.mx) (hT : E.T = p.T) (hTp : ∀ r t ts, p.T r t = some ts → 0 < ts.length) (hL : (I.A : Int) * p.M + I.K ≤ L) : OpWp E p κ I o e L a w := by
 simp only [aop0, hop] at h
 split at h <;> try contradiction
 rename_i v hv
 split at h <;> try contradiction
 rename_i l hl
 split at h <;> try contradiction
 rename_i ts hts
 split at h <;> try contradiction
 rename_i u hu
 simp only [Option.some.injEq] at h
 subst h
 obtain ⟨h1, h2⟩ := evO_has hI hv
 obtain ⟨κ', hout⟩ := var_out hW hI hM hT hts (hTp _ _ _ (by rw [← hT]; exact hts)) hu (AV.cells_has hv0 h1 hl) (fun m => AV.cells_off hl h2 m) hL
 refine .value ?_ hout
 simp only [execOp, hop, Instr.box, newVar, newRow, Sem.run_bind, Result.andThen_ok, run_newObj, Sem.run_pure]
 rfl
end
end Go.Ty
