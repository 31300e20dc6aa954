/- A byte of a script is damaged: its entry is idle, all others are as they were. -/
import Derived.Test.YtdfplmkaaodblaaOwnW
namespace Go.Proofs.Ytdfplmkaaodblaa.dc
open Go Go.Sx Go.RowKit
set_option maxRecDepth 100000
theorem xor_u8 (a b : Int) : bits .xor .u8 a b = ((BitVec.ofInt 8 a ^^^ BitVec.ofInt 8 b).toNat : Int) := by
  have h : ∀ n : Nat, n < 256 → IntKind.u8.wrap (n : Int) = n := fun n hn => by
    have : IntKind.u8.wrap (n : Int) = (n : Int) % 256 := by simp [IntKind.wrap, IntKind.bits, IntKind.signed]
    rw [this]
    omega
  show IntKind.u8.wrap (((BitVec.ofInt IntKind.u8.bits a ^^^ BitVec.ofInt IntKind.u8.bits b).toNat : Nat) : Int) = _
  exact h _ (BitVec.isLt _)
theorem ofInt_toNat (x : BitVec 8) : BitVec.ofInt 8 (x.toNat : Int) = x := by
  apply BitVec.eq_of_toNat_eq
  rw [BitVec.toNat_ofInt]
  have := x.isLt
  omega
theorem xor_rng (a b : Int) : IntKind.u8.min ≤ bits .xor .u8 a b ∧ bits .xor .u8 a b ≤ IntKind.u8.max := by
  rw [xor_u8]
  have := (BitVec.ofInt 8 a ^^^ BitVec.ofInt 8 b).isLt
  show 0 ≤ _ ∧ _ ≤ (255 : Int)
  omega
theorem chk_bv (c r p : Int) : chk c r p = ((BitVec.ofInt 8 c ^^^ BitVec.ofInt 8 r ^^^ BitVec.ofInt 8 p ^^^ BitVec.ofInt 8 165).toNat : Int) := by
  unfold chk
  rw [xor_u8 (bits .xor .u8 (bits .xor .u8 c r) p), xor_u8 (bits .xor .u8 c r), xor_u8 c, ofInt_toNat, ofInt_toNat]
theorem bv_ne {x y : BitVec 8} (hy : y ≠ 0#8) : x ^^^ y ≠ x := by
  intro h
  apply hy
  have h1 : x ^^^ (x ^^^ y) = x ^^^ x := congrArg (x ^^^ ·) h
  rw [← BitVec.xor_assoc, BitVec.xor_self, BitVec.zero_xor] at h1
  exact h1
theorem y_ne {y : Int} (h0 : y ≠ 0) (h1 : IntKind.u8.min ≤ y ∧ y ≤ IntKind.u8.max) : BitVec.ofInt 8 y ≠ 0#8 := by
  intro h
  have h2 := congrArg BitVec.toNat h
  rw [BitVec.toNat_ofInt] at h2
  have h3 : 0 ≤ y ∧ y ≤ 255 := h1
  have h4 : (0#8).toNat = 0 := rfl
  rw [h4] at h2
  omega
theorem decE_get (zs : List Int) : ∀ n j, j < n → (decE zs n)[j]? = some (decI (zs.getD (4 * j) 0) (zs.getD (4 * j + 1) 0) (zs.getD (4 * j + 2) 0) (zs.getD (4 * j + 3) 0)) := by
  intro n
  induction n with
  | zero => intro j hj; omega
  | succ n ih =>
    intro j hj
    rw [decE]
    by_cases h : j < n
    · rw [List.getElem?_append_left (by rw [decE_length]; exact h)]
      exact ih j h
    · have : j = n := by omega
      subst this
      rw [List.getElem?_append_right (by rw [decE_length]; omega), decE_length, Nat.sub_self]
      rfl
theorem getD_set (zs : List Int) (k j : Nat) (v : Int) (hk : k < zs.length) : (zs.set k v).getD j 0 = if k = j then v else zs.getD j 0 := by
  rw [List.getD, List.getElem?_set]
  by_cases h : k = j
  · rw [if_pos h, if_pos h, if_pos hk]
    rfl
  · rw [if_neg h, if_neg h]
    rfl
section
variable {c r p y : Int} (h0 : y ≠ 0) (h1 : IntKind.u8.min ≤ y ∧ y ≤ IntKind.u8.max)
include h0 h1
theorem nat_ne {u v : BitVec 8} (h : v = u ^^^ BitVec.ofInt 8 y) : ((u.toNat : Int) != (v.toNat : Int)) = true := by
  rw [bne_iff_ne]
  intro hh
  have h2 : u.toNat = v.toNat := by omega
  have h3 := BitVec.eq_of_toNat_eq h2
  rw [h] at h3
  exact bv_ne (y_ne h0 h1) h3.symm
theorem dmg0 : decI (bits .xor .u8 c y) r p (chk c r p) = idleE := by
  unfold decI
  have : (chk c r p != chk (bits .xor .u8 c y) r p) = true := by
    rw [chk_bv, chk_bv (bits .xor .u8 c y), xor_u8, ofInt_toNat]
    exact nat_ne h0 h1 (by ac_rfl)
  rw [this, cond_true]
theorem dmg1 : decI c (bits .xor .u8 r y) p (chk c r p) = idleE := by
  unfold decI
  have : (chk c r p != chk c (bits .xor .u8 r y) p) = true := by
    rw [chk_bv, chk_bv c (bits .xor .u8 r y), xor_u8, ofInt_toNat]
    exact nat_ne h0 h1 (by ac_rfl)
  rw [this, cond_true]
theorem dmg2 : decI c r (bits .xor .u8 p y) (chk c r p) = idleE := by
  unfold decI
  have : (chk c r p != chk c r (bits .xor .u8 p y)) = true := by
    rw [chk_bv, chk_bv c r (bits .xor .u8 p y), xor_u8, ofInt_toNat]
    exact nat_ne h0 h1 (by ac_rfl)
  rw [this, cond_true]
theorem dmg3 : decI c r p (bits .xor .u8 (chk c r p) y) = idleE := by
  unfold decI
  have : (bits .xor .u8 (chk c r p) y != chk c r p) = true := by
    rw [chk_bv, xor_u8, ofInt_toNat]
    have := nat_ne h0 h1 (u := BitVec.ofInt 8 c ^^^ BitVec.ofInt 8 r ^^^ BitVec.ofInt 8 p ^^^ BitVec.ofInt 8 165) rfl
    rw [bne_iff_ne] at this ⊢
    exact fun h => this h.symm
  rw [this, cond_true]
theorem damage (es : List Ent) (k : Nat) (hk : k < 4 * es.length) : decE ((encE es).set k (bits .xor .u8 ((encE es).getD k 0) y)) es.length = es.set (k / 4) idleE := by
  refine List.ext_getElem? fun j => ?_
  by_cases hj : j < es.length
  · have hl := encE_length es
    have he : es[j]? = some es[j] := by simp [hj]
    obtain ⟨g0, g1, g2, g3⟩ := encE_getD he
    rw [decE_get _ _ _ hj, getD_set _ _ _ _ (by omega), getD_set _ _ _ _ (by omega), getD_set _ _ _ _ (by omega), getD_set _ _ _ _ (by omega), g0, g1, g2, g3, List.getElem?_set]
    by_cases hkj : k / 4 = j
    · rw [if_pos hkj, if_pos (show k / 4 < es.length by omega)]
      have hcase : k = 4 * j ∨ k = 4 * j + 1 ∨ k = 4 * j + 2 ∨ k = 4 * j + 3 := by omega
      rcases hcase with rfl | rfl | rfl | rfl
      · rw [if_pos rfl, if_neg (by omega), if_neg (by omega), if_neg (by omega), g0, dmg0 h0 h1]
      · rw [if_neg (by omega), if_pos rfl, if_neg (by omega), if_neg (by omega), g1, dmg1 h0 h1]
      · rw [if_neg (by omega), if_neg (by omega), if_pos rfl, if_neg (by omega), g2, dmg2 h0 h1]
      · rw [if_neg (by omega), if_neg (by omega), if_neg (by omega), if_pos rfl, g3, dmg3 h0 h1]
    · rw [if_neg hkj, if_neg (show ¬ k = 4 * j by omega), if_neg (show ¬ k = 4 * j + 1 by omega), if_neg (show ¬ k = 4 * j + 2 by omega), if_neg (show ¬ k = 4 * j + 3 by omega), decI_z, he]
  · rw [List.getElem?_eq_none (by rw [decE_length]; omega), List.getElem?_eq_none (by rw [List.length_set]; omega)]
end
theorem ctl_dmg {zs : List Int} (h : Ctl zs) (k : Nat) (u v : Int) : Ctl (zs.set k (bits .xor .u8 u v)) := by
  intro j z hz
  rw [List.getElem?_set] at hz
  split at hz
  · split at hz
    · simp only [Option.some.injEq] at hz
      rw [← hz]
      exact xor_rng _ _
    · cases hz
  · exact h j z hz
end Go.Proofs.Ytdfplmkaaodblaa.dc
