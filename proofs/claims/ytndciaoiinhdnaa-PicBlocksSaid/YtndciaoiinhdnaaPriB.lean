/- The line that is served (chapter 21): one function for the program's and the document's. -/
import Derived.Test.YtndciaoiinhdnaaPriA
namespace Go.Proofs.Ytndciaoiinhdnaa.pr
open Go Go.Sx
set_option maxRecDepth 100000

def FHi : List TV → Option TV
  | [.one (.int .u8 (.sym s)), .one (.int .i64 (.sym l))] => some (.one (.int .i64 (.sym (hi s l))))
  | _ => none
theorem fhi_ok {G : List (Nat × Sx.Spec)} (W : World) (hG : GOk W Try.prog G) {g : Nat} (fn : ∃ fn, Try.prog.funcs[g]? = some fn ∧ (fn.name == "runtime.NumGoroutine") = false ∧ fn.body.isNone = false)
    (h : ∀ s l : Int, eval Try.prog W G g [.one (.int .u8 (.sym s)), .one (.int .i64 (.sym l))] = some (.one (.int .i64 (.sym (hi s l))))) : SpecOk W Try.prog g (specF FHi) := by
  refine specF_ok (G := G) hG fn fun args v hv => ?_
  unfold FHi at hv
  split at hv
  · simp only [Option.some.injEq] at hv
    subst hv
    exact ⟨rfl, rfl, by simp, _, h _ _, fun _ => rfl⟩
  · cases hv
def GH : List (Nat × Sx.Spec) := [(50, specF FRk), (26, specF FRk), (47, specF FHi), (38, specF FHi)]
theorem gokH (W : World) : GOk W Try.prog GH :=
  gok_cons (frk_ok W ⟨Try.f50, Try.func50, by kernel_rfl, by kernel_rfl⟩ (rkP W)) (gok_cons (frk_ok W ⟨Try.f26, Try.func26, by kernel_rfl, by kernel_rfl⟩ (rkR W))
    (gok_cons (fhi_ok W (gok_nil W) ⟨Try.f47, Try.func47, by kernel_rfl, by kernel_rfl⟩ (hiP W)) (gok_cons (fhi_ok W (gokR W) ⟨Try.f38, Try.func38, by kernel_rfl, by kernel_rfl⟩ (hiR W)) (gok_nil W))))

def pk0 (h g l : Int) : Int := bif (bif decide (h < 0) then true else bif decide (g ≥ 0) then decide (rk h l ≥ rk g l) else false) then -1 else h
def blk (imr isr : Int) (sp : Bool) : Int := bif sp then bits .andNot .u8 isr imr else isr
def pk (irr imr isr l : Int) (sp : Bool) : Int := pk0 (hi (bits .andNot .u8 irr imr) l) (hi (blk imr isr sp) l) l
def pr0 (h g l : Int) : Int := bif (bif decide (h ≥ 0) then bif decide (g < 0) then true else decide (rk h l < rk g l) else false) then h else -1
theorem pr0_pk0 (h g l : Int) : pr0 h g l = pk0 h g l := by
  unfold pr0 pk0
  have e1 : decide (h ≥ 0) = !decide (h < 0) := by rw [← decide_not]; exact decide_eq_decide.2 (by omega)
  have e2 : decide (g ≥ 0) = !decide (g < 0) := by rw [← decide_not]; exact decide_eq_decide.2 (by omega)
  have e3 : decide (rk h l ≥ rk g l) = !decide (rk h l < rk g l) := by rw [← decide_not]; exact decide_eq_decide.2 (by omega)
  rw [e1, e2, e3]
  cases decide (h < 0) <;> cases decide (g < 0) <;> cases decide (rk h l < rk g l) <;> rfl
theorem pkP (W : World) (x0 x1 : Int) (x2 : SI) (x3 : Int) (x4 : Bool) : eval Try.prog W GH 49 [.one (.int .u8 (.sym x0)), .one (.int .u8 (.sym x1)), .one (.int .u8 x2), .one (.int .i64 (.sym x3)), .one (.bool (.sym x4))] =
    some (.one (.int .i64 (.sym (pk x0 x1 x2.val x3 x4)))) := by
  cases x2 <;> kernel_rfl
theorem nfPkR (W : World) (x0 x1 : Int) (x2 : SI) (x3 : Int) (x4 : Bool) : eval Try.prog W GH 16 [.one (.int .u8 (.sym x0)), .one (.int .u8 (.sym x1)), .one (.int .u8 x2), .one (.int .i64 (.sym x3)), .one (.bool (.sym x4))] =
    some (.one (.int .i64 (.sym (pr0 (hi (bits .andNot .u8 x0 x1) x3) (hi (blk x1 x2.val x4) x3) x3)))) := by
  cases x2 <;> kernel_rfl
theorem pkR (W : World) (x0 x1 : Int) (x2 : SI) (x3 : Int) (x4 : Bool) : eval Try.prog W GH 16 [.one (.int .u8 (.sym x0)), .one (.int .u8 (.sym x1)), .one (.int .u8 x2), .one (.int .i64 (.sym x3)), .one (.bool (.sym x4))] =
    some (.one (.int .i64 (.sym (pk x0 x1 x2.val x3 x4)))) := by
  rw [nfPkR, pr0_pk0]
  rfl
def FPk : List TV → Option TV
  | [.one (.int .u8 (.sym x0)), .one (.int .u8 (.sym x1)), .one (.int .u8 x2), .one (.int .i64 (.sym x3)), .one (.bool (.sym x4))] => some (.one (.int .i64 (.sym (pk x0 x1 x2.val x3 x4))))
  | _ => none
theorem fpk_ok (W : World) {g : Nat} (fn : ∃ fn, Try.prog.funcs[g]? = some fn ∧ (fn.name == "runtime.NumGoroutine") = false ∧ fn.body.isNone = false)
    (h : ∀ (x0 x1 : Int) (x2 : SI) (x3 : Int) (x4 : Bool), eval Try.prog W GH g [.one (.int .u8 (.sym x0)), .one (.int .u8 (.sym x1)), .one (.int .u8 x2), .one (.int .i64 (.sym x3)), .one (.bool (.sym x4))] =
      some (.one (.int .i64 (.sym (pk x0 x1 x2.val x3 x4))))) : SpecOk W Try.prog g (specF FPk) := by
  refine specF_ok (G := GH) (gokH W) fn fun args v hv => ?_
  unfold FPk at hv
  split at hv
  · simp only [Option.some.injEq] at hv
    subst hv
    exact ⟨rfl, rfl, by simp, _, h _ _ _ _ _, fun _ => rfl⟩
  · cases hv
def GP : List (Nat × Sx.Spec) := (49, specF FPk) :: (16, specF FPk) :: GH
theorem gokP (W : World) : GOk W Try.prog GP :=
  gok_cons (fpk_ok W ⟨Try.f49, Try.func49, by kernel_rfl, by kernel_rfl⟩ (pkP W)) (gok_cons (fpk_ok W ⟨Try.f16, Try.func16, by kernel_rfl, by kernel_rfl⟩ (pkR W)) (gokH W))
theorem knownv (W : World) : eval Try.prog W [] 10 [] = some (.one (.bool (.lit true))) := by kernel_rfl
def place (x : Int) : Int := IntKind.i64.wrap ((IntKind.u64.wrap x).tmod 8)
def FPlace : List TV → Option TV
  | [.one (.int .i64 (.sym x)), .one (.int .i64 (.lit n))] => match decide (n = 8) with
    | true => some (.one (.int .i64 (.sym (place x))))
    | false => none
  | _ => none
theorem placev (W : World) (x : Int) : eval Try.prog W [] 46 [.one (.int .i64 (.sym x)), .one (.int .i64 (.lit 8))] = some (.one (.int .i64 (.sym (place x)))) := by kernel_rfl
theorem fplace_ok (W : World) : SpecOk W Try.prog 46 (specF FPlace) := by
  refine specF_ok (G := []) (gok_nil W) ⟨Try.f46, Try.func46, by kernel_rfl, by kernel_rfl⟩ fun args v hv => ?_
  unfold FPlace at hv
  split at hv <;> try contradiction
  rename_i x n
  split at hv <;> try contradiction
  rename_i hn
  simp only [decide_eq_true_eq] at hn
  subst hn
  simp only [Option.some.injEq] at hv
  subst hv
  exact ⟨rfl, rfl, by simp, _, placev W x, fun _ => rfl⟩
theorem place_bounds (x : Int) : 0 ≤ place x ∧ place x ≤ 7 := by
  have h := place_range x 8 (by decide) (by decide)
  have e : IntKind.i64.wrap ((IntKind.u64.wrap x).tmod (IntKind.u64.wrap 8)) = place x := rfl
  rw [e] at h
  omega
def G : List (Nat × Sx.Spec) := (10, specF FK) :: (46, specF FPlace) :: GP
theorem gok (W : World) : GOk W Try.prog G := gok_cons (known_ok ⟨Try.f10, Try.func10, by kernel_rfl, by kernel_rfl⟩ (knownv W)) (gok_cons (fplace_ok W) (gokP W))

/-! ### Facts -/
theorem andNot_range (a b : Int) : 0 ≤ bits .andNot .u8 a b ∧ bits .andNot .u8 a b ≤ 255 := by
  have e : bits .andNot .u8 a b = IntKind.u8.wrap (((BitVec.ofInt 8 a &&& ~~~ BitVec.ofInt 8 b).toNat : Nat) : Int) := rfl
  rw [e, IntKind.wrap_u8]
  omega
theorem blk_range {isr : Int} (h0 : 0 ≤ isr) (h1 : isr ≤ 255) (imr : Int) (sp : Bool) : 0 ≤ blk imr isr sp ∧ blk imr isr sp ≤ 255 := by
  unfold blk
  cases sp
  · exact ⟨h0, h1⟩
  · exact andNot_range isr imr
theorem on_bv (a : Int) {i : Int} (h0 : 0 ≤ i) (h1 : i ≤ 7) : on a i = (BitVec.ofInt 8 a).getLsbD i.toNat := by
  rw [on_mod a h0 h1]
  obtain ⟨k, rfl⟩ := Int.eq_ofNat_of_zero_le h0
  have hk : k ≤ 7 := by omega
  have e : a % 256 = (((BitVec.ofInt 8 a).toNat : Nat) : Int) := by
    rw [BitVec.toNat_ofInt, Int.toNat_of_nonneg (Int.emod_nonneg _ (by decide))]
    rfl
  rw [e, Int.toNat_natCast, ← BitVec.testBit_toNat]
  generalize (BitVec.ofInt 8 a).toNat = n
  unfold on
  have g : gshr .u8 (n : Int) (k : Int) = ((n / 2 ^ k : Nat) : Int) := by
    have e : gshr .u8 (n : Int) (k : Int) = (n : Int).fdiv (2 ^ (min k 8)) := rfl
    rw [e, Nat.min_eq_left (by omega), Int.fdiv_eq_ediv_of_nonneg _ (Int.le_of_lt (Int.pow_pos (by decide)))]
    push_cast
    rfl
  rw [u8_and1, g, Nat.testBit_eq_decide_div_mod_eq]
  by_cases h : n / 2 ^ k % 2 = 1
  · rw [decide_eq_true h, beq_iff_eq]
    exact_mod_cast h
  · rw [decide_eq_false h, beq_eq_false_iff_ne]
    intro hh
    exact h (by exact_mod_cast hh)
theorem ofInt_u8 (v : BitVec 8) : BitVec.ofInt 8 (IntKind.u8.wrap ((v.toNat : Nat) : Int)) = v := by
  apply BitVec.eq_of_toNat_eq
  rw [BitVec.toNat_ofInt, IntKind.wrap_u8]
  have := v.isLt
  omega
theorem on_andNot (a b : Int) {i : Int} (h0 : 0 ≤ i) (h1 : i ≤ 7) : on (bits .andNot .u8 a b) i = (on a i && !on b i) := by
  have e : bits .andNot .u8 a b = IntKind.u8.wrap (((BitVec.ofInt 8 a &&& ~~~ BitVec.ofInt 8 b).toNat : Nat) : Int) := rfl
  rw [on_bv _ h0 h1, on_bv a h0 h1, on_bv b h0 h1, e, ofInt_u8, BitVec.getLsbD_and, BitVec.getLsbD_not]
  have : decide (i.toNat < 8) = true := decide_eq_true (by omega)
  rw [this, Bool.true_and]
theorem on_or (a b : Int) {i : Int} (h0 : 0 ≤ i) (h1 : i ≤ 7) : on (bits .or .u8 a b) i = (on a i || on b i) := by
  have e : bits .or .u8 a b = IntKind.u8.wrap (((BitVec.ofInt 8 a ||| BitVec.ofInt 8 b).toNat : Nat) : Int) := rfl
  rw [on_bv _ h0 h1, on_bv a h0 h1, on_bv b h0 h1, e, ofInt_u8, BitVec.getLsbD_or]
theorem on_blk (imr isr : Int) (sp : Bool) {i : Int} (h0 : 0 ≤ i) (h1 : i ≤ 7) : on (blk imr isr sp) i = (on isr i && !(sp && on imr i)) := by
  unfold blk
  cases sp
  · simp
  · simp only [cond_true, Bool.true_and]
    exact on_andNot isr imr h0 h1
theorem pk_facts (irr imr isr l : Int) (sp : Bool) :
    (pk irr imr isr l sp = -1 ∨ (0 ≤ pk irr imr isr l sp ∧ pk irr imr isr l sp ≤ 7 ∧ pk irr imr isr l sp = hi (bits .andNot .u8 irr imr) l ∧
      (hi (blk imr isr sp) l < 0 ∨ rk (hi (bits .andNot .u8 irr imr) l) l < rk (hi (blk imr isr sp) l) l))) ∧
    (pk irr imr isr l sp < 0 → bits .andNot .u8 irr imr ≠ 0 → 0 ≤ hi (bits .andNot .u8 irr imr) l ∧ 0 ≤ hi (blk imr isr sp) l ∧ rk (hi (blk imr isr sp) l) l ≤ rk (hi (bits .andNot .u8 irr imr) l) l) := by
  have ha := andNot_range irr imr
  have hA := hi_facts ha.1 ha.2 l
  unfold pk
  generalize bits .andNot .u8 irr imr = a at *
  generalize blk imr isr sp = b at *
  obtain ⟨f1, f2, f3, f4, f5⟩ := hA
  unfold pk0
  generalize rk (hi b l) l = rg at *
  generalize hrh : rk (hi a l) l = rh at *
  generalize hi b l = g at *
  generalize hi a l = h at *
  by_cases c1 : h < 0
  · rw [decide_eq_true c1]
    exact ⟨.inl rfl, fun _ hn => absurd (f3 c1) hn⟩
  · rw [decide_eq_false c1]
    by_cases c2 : g ≥ 0
    · rw [decide_eq_true c2]
      by_cases c3 : rh ≥ rg
      · rw [decide_eq_true c3]
        exact ⟨.inl rfl, fun _ _ => ⟨by omega, c2, c3⟩⟩
      · rw [decide_eq_false c3]
        refine ⟨.inr ⟨by simp only [cond_false, cond_true]; omega, f2, rfl, .inr (by omega)⟩, fun hh => ?_⟩
        simp only [cond_false, cond_true] at hh
        omega
    · rw [decide_eq_false c2]
      refine ⟨.inr ⟨by simp only [cond_false]; omega, f2, rfl, .inl (by omega)⟩, fun hh => ?_⟩
      simp only [cond_false] at hh
      omega
end Go.Proofs.Ytndciaoiinhdnaa.pr
