/- Numbers: masks and shifts as divisions. No program of the seat is named here. -/
import Derived.Test.YtecngmfpciechaaEngJ
import Derived.WalkArith
namespace Go.Sx
open Go

theorem bits_pos (k : IntKind) : 0 < k.bits := by cases k <;> decide

theorem wrap_small (k : IntKind) (n : Nat) (h : n < 2 ^ (k.bits - 1)) : k.wrap (n : Int) = n := by
  have hp : (2 : Nat) ^ (k.bits - 1) < 2 ^ k.bits := Nat.pow_lt_pow_right (by decide) (by have := bits_pos k; omega)
  have e : (n : Int) % (2 ^ k.bits : Int) = n := by
    apply Int.emod_eq_of_lt (by omega)
    exact_mod_cast (by omega : n < 2 ^ k.bits)
  have hlt : ¬ (n : Int) ≥ (2 ^ (k.bits - 1) : Int) := by
    have : (n : Int) < (2 ^ (k.bits - 1) : Int) := by exact_mod_cast h
    omega
  simp only [IntKind.wrap, e]
  simp [hlt]

/-- A mask of low bits, of any number. -/
theorem and_mask (k : IntKind) (i : Nat) (hi : i < k.bits) (x : Int) : bits .and k x ((2 ^ i - 1 : Nat) : Int) = x % ((2 ^ i : Nat) : Int) := by
  have h2 : (2 : Nat) ^ i ≤ 2 ^ (k.bits - 1) := Nat.pow_le_pow_right (by decide) (by omega)
  have h3 : (2 : Nat) ^ (k.bits - 1) < 2 ^ k.bits := Nat.pow_lt_pow_right (by decide) (by omega)
  have hpos : 0 < (2 : Nat) ^ i := Nat.pow_pos (by decide)
  show k.wrap (((BitVec.ofInt k.bits x &&& BitVec.ofInt k.bits ((2 ^ i - 1 : Nat) : Int)).toNat : Nat) : Int) = _
  have hm : (BitVec.ofInt k.bits ((2 ^ i - 1 : Nat) : Int)).toNat = 2 ^ i - 1 := by
    rw [BitVec.toNat_ofInt, ← Int.natCast_emod, Int.toNat_natCast, Nat.mod_eq_of_lt (by omega)]
  have hx : (BitVec.ofInt k.bits x).toNat % 2 ^ i = (x % ((2 ^ i : Nat) : Int)).toNat := by
    rw [BitVec.toNat_ofInt]
    have hnn : 0 ≤ x % ((2 ^ k.bits : Nat) : Int) := Int.emod_nonneg _ (by have : 0 < (2 : Nat) ^ k.bits := Nat.pow_pos (by decide); omega)
    apply Int.ofNat.inj
    show (((x % ((2 ^ k.bits : Nat) : Int)).toNat % 2 ^ i : Nat) : Int) = ((x % ((2 ^ i : Nat) : Int)).toNat : Int)
    rw [Int.natCast_emod, Int.toNat_of_nonneg hnn, Int.toNat_of_nonneg (Int.emod_nonneg _ (by omega))]
    apply Int.emod_emod_of_dvd
    exact_mod_cast Nat.pow_dvd_pow 2 (Nat.le_of_lt hi)
  rw [BitVec.toNat_and, hm, Nat.and_two_pow_sub_one_eq_mod, hx]
  have hlt : x % ((2 ^ i : Nat) : Int) < ((2 ^ i : Nat) : Int) := Int.emod_lt_of_pos _ (by omega)
  have hnn : 0 ≤ x % ((2 ^ i : Nat) : Int) := Int.emod_nonneg _ (by omega)
  rw [wrap_small k _ (by omega)]
  omega
end Go.Sx
