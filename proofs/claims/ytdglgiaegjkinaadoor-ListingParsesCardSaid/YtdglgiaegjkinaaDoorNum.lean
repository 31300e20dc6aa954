/- Numbers: masks and shifts as divisions. No program of the seat is named here. -/
import Derived.Test.YtdglgiaegjkinaaDoorEngJ
import Derived.WalkArith
import Derived.Laws.BitsLemmas
namespace Go.Sx
open Go

theorem bits_pos (k : IntKind) : 0 < k.bits := by cases k <;> decide

theorem wrap_small (k : IntKind) (n : Nat) (h : n < 2 ^ (k.bits - 1)) : k.wrap (n : Int) = n := by
  have hp : (2 : Nat) ^ (k.bits - 1) < 2 ^ k.bits := Nat.pow_lt_pow_right (by decide) (by have := bits_pos k; omega)
  have e : (n : Int) % (2 ^ k.bits : Int) = n := by
    apply Int.emod_eq_of_lt (by omega)
    exact_mod_cast (by omega : n < 2 ^ k.bits)
  have hlt : ¬ (n : Int) ≥ (2 ^ (k.bits - 1) : Int) := by
    have : (n : Int) < (2 ^ (k.bits - 1) : Int) := by exact_mod_cast h
    omega
  simp only [IntKind.wrap, e]
  simp [hlt]

/-- A mask of low bits, of any number. -/
theorem and_mask (k : IntKind) (i : Nat) (hi : i < k.bits) (x : Int) : bits .and k x ((2 ^ i - 1 : Nat) : Int) = x % ((2 ^ i : Nat) : Int) := by
  have h2 : (2 : Nat) ^ i ≤ 2 ^ (k.bits - 1) := Nat.pow_le_pow_right (by decide) (by omega)
  have h3 : (2 : Nat) ^ (k.bits - 1) < 2 ^ k.bits := Nat.pow_lt_pow_right (by decide) (by omega)
  have hpos : 0 < (2 : Nat) ^ i := Nat.pow_pos (by decide)
  show k.wrap (((BitVec.ofInt k.bits x &&& BitVec.ofInt k.bits ((2 ^ i - 1 : Nat) : Int)).toNat : Nat) : Int) = _
  have hm : (BitVec.ofInt k.bits ((2 ^ i - 1 : Nat) : Int)).toNat = 2 ^ i - 1 := by
    rw [BitVec.toNat_ofInt, ← Int.natCast_emod, Int.toNat_natCast, Nat.mod_eq_of_lt (by omega)]
  have hx : (BitVec.ofInt k.bits x).toNat % 2 ^ i = (x % ((2 ^ i : Nat) : Int)).toNat := by
    rw [BitVec.toNat_ofInt]
    have hnn : 0 ≤ x % ((2 ^ k.bits : Nat) : Int) := Int.emod_nonneg _ (by have : 0 < (2 : Nat) ^ k.bits := Nat.pow_pos (by decide); omega)
    apply Int.ofNat.inj
    show (((x % ((2 ^ k.bits : Nat) : Int)).toNat % 2 ^ i : Nat) : Int) = ((x % ((2 ^ i : Nat) : Int)).toNat : Int)
    rw [Int.natCast_emod, Int.toNat_of_nonneg hnn, Int.toNat_of_nonneg (Int.emod_nonneg _ (by omega))]
    apply Int.emod_emod_of_dvd
    exact_mod_cast Nat.pow_dvd_pow 2 (Nat.le_of_lt hi)
  rw [BitVec.toNat_and, hm, Nat.and_two_pow_sub_one_eq_mod, hx]
  have hlt : x % ((2 ^ i : Nat) : Int) < ((2 ^ i : Nat) : Int) := Int.emod_lt_of_pos _ (by omega)
  have hnn : 0 ≤ x % ((2 ^ i : Nat) : Int) := Int.emod_nonneg _ (by omega)
  rw [wrap_small k _ (by omega)]
  omega

theorem rng_u8 {x : Int} (h : IntKind.u8.min ≤ x ∧ x ≤ IntKind.u8.max) : 0 ≤ x ∧ x ≤ 255 := h
theorem rng_u16 {x : Int} (h : IntKind.u16.min ≤ x ∧ x ≤ IntKind.u16.max) : 0 ≤ x ∧ x ≤ 65535 := h
theorem rng_i64 {x : Int} (h : IntKind.i64.min ≤ x ∧ x ≤ IntKind.i64.max) : -9223372036854775808 ≤ x ∧ x ≤ 9223372036854775807 := h

theorem all_upto (n : Nat) {p : Int → Bool} (h : (List.range n).all (fun i => p (i : Int)) = true) {x : Int} (h0 : 0 ≤ x) (h1 : x < n) : p x = true := by
  obtain ⟨m, rfl⟩ := Int.eq_ofNat_of_zero_le h0
  exact List.all_eq_true.1 h m (by simp; omega)
theorem all_u8 {p : Int → Bool} (h : (List.range 256).all (fun i => p (i : Int)) = true) {x : Int} (hx : IntKind.u8.min ≤ x ∧ x ≤ IntKind.u8.max) : p x = true :=
  all_upto 256 h (rng_u8 hx).1 (by have := (rng_u8 hx).2; omega)
theorem all_bool {p : Bool → Bool} (h : (p true && p false) = true) (b : Bool) : p b = true := by
  simp only [Bool.and_eq_true] at h
  cases b
  · exact h.2
  · exact h.1

theorem bits_or_comm (k : IntKind) (a b : Int) : bits .or k a b = bits .or k b a := by simp only [bits, BitVec.or_comm]

theorem wraps_u16 (n : Int) (h₀ : 0 ≤ n) (h₁ : n < 2 ^ 16) : IntKind.u16.wrap n = n := by
  simp only [IntKind.wrap, IntKind.bits, IntKind.signed]
  have : (2 : Int) ^ 16 = 65536 := by decide
  simp
  omega
theorem wrap_u16 (n : Int) : IntKind.u16.wrap n = n % 65536 := by simp [IntKind.wrap, IntKind.bits, IntKind.signed]
theorem wrap_i16 (n : Int) : IntKind.i16.wrap n = (n + 32768) % 65536 - 32768 := by
  simp [IntKind.wrap, IntKind.bits, IntKind.signed]
  split <;> omega

theorem u8_or_low {x y : Int} (i : Nat) (hx₀ : 0 ≤ x) (hx : x % 2 ^ i = 0) (hx₁ : x < 256) (hy₀ : 0 ≤ y) (hy : y < 2 ^ i) (hy₁ : y < 256) : bits .or .u8 x y = x + y :=
  bits_join .u8 8 (by decide) wraps_u8 i x y hx₀ hx hx₁ hy₀ hy hy₁
theorem u16_or_low {x y : Int} (i : Nat) (hx₀ : 0 ≤ x) (hx : x % 2 ^ i = 0) (hx₁ : x < 65536) (hy₀ : 0 ≤ y) (hy : y < 2 ^ i) (hy₁ : y < 65536) : bits .or .u16 x y = x + y :=
  bits_join .u16 16 (by decide) wraps_u16 i x y hx₀ hx hx₁ hy₀ hy hy₁

theorem u16_top {x : Int} (h₀ : 0 ≤ x) (h₁ : x < 65536) : bits .and .u16 x 32768 = if 32768 ≤ x then 32768 else 0 := by
  obtain ⟨a, rfl⟩ := Int.eq_ofNat_of_zero_le h₀
  have ha : a < 2 ^ 16 := by omega
  have h := (bits_nat .u16 16 (by decide) wraps_u16 a (2 ^ 15) ha (by decide)).1
  have e : a &&& 2 ^ 15 = if 32768 ≤ a then 32768 else 0 := by
    have hb : a.testBit 15 = decide (32768 ≤ a) := by
      rw [Nat.testBit_eq_decide_div_mod_eq]
      apply decide_eq_decide.2
      omega
    apply Nat.eq_of_testBit_eq
    intro j
    rw [Nat.testBit_and, Nat.testBit_two_pow]
    by_cases hj : 15 = j
    · subst hj
      rw [hb]
      by_cases hq : 32768 ≤ a
      · simp only [hq, decide_true, Bool.and_self, if_true]
        decide
      · simp [hq]
    · simp only [hj, decide_false, Bool.and_false]
      split
      · have : (32768 : Nat) = 2 ^ 15 := by decide
        rw [this, Nat.testBit_two_pow]
        simp [hj]
      · simp
  rw [e] at h
  refine h.trans ?_
  by_cases hq : 32768 ≤ a
  · have : (32768 : Int) ≤ a := by omega
    simp [hq, this]
  · have : ¬ (32768 : Int) ≤ a := by omega
    simp [hq, this]

theorem u16_xor_top {x y : Int} (h₀ : 0 ≤ x) (h₁ : x < 65536) (k₀ : 0 ≤ y) (k₁ : y < 65536) :
    (bits .and .u16 (bits .xor .u16 x y) 32768 != 0) = (decide (x ≥ 32768) != decide (y ≥ 32768)) := by
  obtain ⟨a, rfl⟩ := Int.eq_ofNat_of_zero_le h₀
  obtain ⟨b, rfl⟩ := Int.eq_ofNat_of_zero_le k₀
  have ha : a < 2 ^ 16 := by omega
  have hb : b < 2 ^ 16 := by omega
  have hx : a ^^^ b < 2 ^ 16 := Nat.xor_lt_two_pow ha hb
  have e : bits .xor .u16 (a : Int) (b : Int) = ((a ^^^ b : Nat) : Int) := by
    simp only [bits, BitVec.ofInt_natCast, BitVec.toNat_xor, BitVec.toNat_ofNat]
    rw [Nat.mod_eq_of_lt (show a < 2 ^ IntKind.u16.bits from ha), Nat.mod_eq_of_lt (show b < 2 ^ IntKind.u16.bits from hb)]
    exact wraps_u16 _ (by omega) (by exact_mod_cast hx)
  have hx' : a ^^^ b < 65536 := hx
  rw [e, u16_top (by omega) (by omega)]
  have t : (a ^^^ b).testBit 15 = (a.testBit 15 ^^ b.testBit 15) := Nat.testBit_xor ..
  simp only [Nat.testBit_eq_decide_div_mod_eq] at t
  generalize a ^^^ b = m at *
  have f : ∀ n : Nat, n < 65536 → decide (n / 32768 % 2 = 1) = decide ((n : Int) ≥ 32768) := fun n hn => decide_eq_decide.2 (by omega)
  have t0 : decide (m / 32768 % 2 = 1) = (decide (a / 32768 % 2 = 1) ^^ decide (b / 32768 % 2 = 1)) := t
  rw [f m hx, f a ha, f b hb] at t0
  have t' : decide ((m : Int) ≥ 32768) = (decide ((a : Int) ≥ 32768) != decide ((b : Int) ≥ 32768)) := by
    rw [t0]
  rw [← t']
  by_cases hq : (m : Int) ≥ 32768
  · simp [hq]
  · have : ¬ (32768 : Int) ≤ m := hq
    simp [this]

theorem u16_shl1 (x : Int) : gshl .u16 x 1 = (2 * x) % 65536 := by
  have : gshl .u16 x 1 = IntKind.u16.wrap (x * 2) := rfl
  rw [this, wrap_u16, Int.mul_comm]
theorem u8_shl1 (x : Int) : gshl .u8 x 1 = (2 * x) % 256 := by
  have : gshl .u8 x 1 = IntKind.u8.wrap (x * 2) := rfl
  rw [this, IntKind.wrap_u8, Int.mul_comm]
theorem u16_shr1 (x : Int) : gshr .u16 x 1 = x / 2 := Int.fdiv_eq_ediv_of_nonneg _ (by decide)
theorem u8_shr1 (x : Int) : gshr .u8 x 1 = x / 2 := Int.fdiv_eq_ediv_of_nonneg _ (by decide)
theorem u8_shr7 (x : Int) : gshr .u8 x 7 = x / 128 := Int.fdiv_eq_ediv_of_nonneg _ (by decide)
theorem u16_and1 (x : Int) : bits .and .u16 x 1 = x % 2 := and_mask .u16 1 (by decide) x
theorem u8_and1 (x : Int) : bits .and .u8 x 1 = x % 2 := and_mask .u8 1 (by decide) x

/-- 'int(uint(x) % uint(n))' for a literal n. -/
theorem place_range (x n : Int) (h0 : 0 < n) (h1 : n ≤ 9223372036854775807) : 0 ≤ IntKind.i64.wrap ((IntKind.u64.wrap x).tmod (IntKind.u64.wrap n)) ∧ IntKind.i64.wrap ((IntKind.u64.wrap x).tmod (IntKind.u64.wrap n)) < n := by
  have hu : ∀ y : Int, IntKind.u64.wrap y = y % 18446744073709551616 := fun y => by simp [IntKind.wrap, IntKind.bits, IntKind.signed]
  have hn : IntKind.u64.wrap n = n := by rw [hu]; omega
  have hx : 0 ≤ IntKind.u64.wrap x := by rw [hu]; omega
  rw [hn, Int.tmod_eq_emod_of_nonneg hx]
  have a := Int.emod_nonneg (IntKind.u64.wrap x) (show n ≠ 0 by omega)
  have b := Int.emod_lt_of_pos (IntKind.u64.wrap x) h0
  have hw : IntKind.i64.wrap (IntKind.u64.wrap x % n) = IntKind.u64.wrap x % n := by rw [IntKind.wrap_i64]; omega
  rw [hw]
  exact ⟨a, b⟩
theorem push_bool (c a b : Bool) : (bif c then some (TV.one (.bool (.sym a))) else some (TV.one (.bool (.sym b)))) = some (TV.one (.bool (.sym (bif c then a else b)))) := by cases c <;> rfl
end Go.Sx
