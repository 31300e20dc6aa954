/- tstatelaw5.RotateTurns returns true for every input; no condition. -/
import Derived.Test.YtecngmfpciechaaRows
import Derived.Test.YtecngmfpciechaaLaw
import Derived.Test.YtecngmfpciechaaNum
namespace Go.Proofs.Ytecngmfpciechaa.rotateTurns
open Go Go.Sx Go.RowKit

def shapes : List ASh := [.one (.int .u8), .one (.int .u16), .one (.bool)]
def rlc (s : Int × Bool) : Int × Bool := (bits .or .u8 (gshl .u8 s.1 1) (gshr .u8 s.1 7), decide (s.1 ≥ 128))
def ral (s : Int × Bool) : Int × Bool := (bif s.2 then bits .or .u8 (gshl .u8 s.1 1) 1 else bits .or .u8 (gshl .u8 s.1 1) 0, bif s.2 then decide (s.1 ≥ 128) else decide (s.1 ≥ 128))
def rdel (s : Int × Bool) : Int × Bool := (bits .or .u16 (gshl .u16 s.1 1) (IntKind.u16.wrap (bif s.2 then 1 else 0)), decide (s.1 ≥ 32768))
def turn (f : Int × Bool → Int × Bool) : Nat → Int × Bool → Int × Bool
  | 0, s => s
  | n + 1, s => turn f n (f s)
def rhs (x0 x1 : Int) (x2 : Bool) : Bool :=
  bif (turn rlc 8 (x0, x2)).1 == x0 then
    bif (turn rlc 8 (x0, x2)).2 == (bits .and .u8 x0 1 == 1) then
      bif (turn ral 9 (x0, x2)).1 == x0 then
        bif (turn ral 9 (x0, x2)).2 == x2 then
          bif (turn rdel 17 (x1, x2)).1 == x1 then (turn rdel 17 (x1, x2)).2 == x2 else false
        else false
      else false
    else false
  else false
theorem nf (x0 x1 : Int) (x2 : Bool) : okTrue (eval Try.prog [] 6 [.one (.int .u8 (.sym x0)), .one (.int .u16 (.sym x1)), .one (.bool (.sym x2))]) = rhs x0 x1 x2 := by kernel_rfl

/-- A rotation of n + 1 bits, the uppermost of which is the bool, doubles modulo 2 ^ (n + 1) - 1; nothing else is said. -/
theorem turns (f : Int × Bool → Int × Bool) (m : Int) (hm : 0 < m)
    (h : ∀ v b, 0 ≤ v → v < m → f (v, b) = ((2 * v) % m + (if b then 1 else 0), decide (v ≥ m / 2))) (he : m % 2 = 0) :
    ∀ (n : Nat) (v : Int) (b : Bool), 0 ≤ v → v < m →
      0 ≤ (turn f n (v, b)).1 ∧ (turn f n (v, b)).1 < m ∧
      ((turn f n (v, b)).1 + (if (turn f n (v, b)).2 then m else 0)) % (2 * m - 1) = ((v + (if b then m else 0)) * 2 ^ n) % (2 * m - 1) ∧
      ((turn f n (v, b)).1 + (if (turn f n (v, b)).2 then m else 0) = 0 ↔ v + (if b then m else 0) = 0)
  | 0, v, b, h0, h1 => by
    refine ⟨h0, h1, ?_, Iff.rfl⟩
    show _ = ((v + (if b then m else 0)) * 1) % (2 * m - 1)
    rw [Int.mul_one]
    rfl
  | n + 1, v, b, h0, h1 => by
    have hs := h v b h0 h1
    show 0 ≤ (turn f n (f (v, b))).1 ∧ (turn f n (f (v, b))).1 < m ∧
      ((turn f n (f (v, b))).1 + (if (turn f n (f (v, b))).2 then m else 0)) % (2 * m - 1) = _ ∧ ((turn f n (f (v, b))).1 + (if (turn f n (f (v, b))).2 then m else 0) = 0 ↔ _)
    rw [hs]
    have hb : 0 ≤ (if b then (1 : Int) else 0) ∧ (if b then (1 : Int) else 0) ≤ 1 := by split <;> decide
    have hbm : (if b then m else 0) = m * (if b then (1 : Int) else 0) := by split <;> simp
    have hv : (2 * v) % m = 2 * v - m * (if v ≥ m / 2 then 1 else 0) := by
      split
      · rw [Int.mul_one, ← Int.sub_emod_right, Int.emod_eq_of_lt (by omega) (by omega)]
      · rw [Int.mul_zero, Int.sub_zero, Int.emod_eq_of_lt (by omega) (by omega)]
    have hv0 : 0 ≤ (2 * v) % m := Int.emod_nonneg _ (by omega)
    have hv1 : (2 * v) % m < m := Int.emod_lt_of_pos _ hm
    have hev : (2 * v) % m % 2 = 0 := by
      rw [hv]
      split <;> omega
    obtain ⟨i0, i1, i2, i3⟩ := turns f m hm h he n ((2 * v) % m + (if b then 1 else 0)) (decide (v ≥ m / 2)) (by omega) (by omega)
    refine ⟨i0, i1, i2.trans ?_, i3.trans ?_⟩
    · have e : (2 * v) % m + (if b then 1 else 0) + (if decide (v ≥ m / 2) = true then m else 0) = (v + (if b then m else 0)) * 2 - (if b then (1 : Int) else 0) * (2 * m - 1) := by
        rw [hv, hbm]
        generalize (if b then (1 : Int) else 0) = c
        have : c * (2 * m - 1) = 2 * (m * c) - c := by rw [Int.mul_sub, Int.mul_one, Int.mul_left_comm, Int.mul_comm c m]
        rw [this]
        by_cases q : v ≥ m / 2
        · simp only [q, if_true, decide_true]
          omega
        · simp only [q, if_false, decide_false, Bool.false_eq_true]
          omega
      rw [e, Int.sub_mul, Int.mul_right_comm _ (2 * m - 1), Int.sub_mul_emod_self_right, Int.pow_succ', Int.mul_assoc]
    · by_cases q : v ≥ m / 2
      · have : v ≠ 0 ∨ m < 2 := by omega
        have hm2 : 2 ≤ m := by omega
        simp only [q, decide_true, if_true]
        cases b <;> simp <;> omega
      · have : (2 * v) % m = 2 * v := Int.emod_eq_of_lt (by omega) (by omega)
        rw [this]
        simp only [q, decide_false, Bool.false_eq_true, if_false]
        cases b <;> simp <;> omega

theorem back (f : Int × Bool → Int × Bool) (m : Int) (hm : 0 < m)
    (h : ∀ v b, 0 ≤ v → v < m → f (v, b) = ((2 * v) % m + (if b then 1 else 0), decide (v ≥ m / 2))) (he : m % 2 = 0) (n : Nat) (hn : (2 : Int) ^ n % (2 * m - 1) = 1)
    (v : Int) (b : Bool) (h0 : 0 ≤ v) (h1 : v < m) : turn f n (v, b) = (v, b) := by
  obtain ⟨i0, i1, i2, i3⟩ := turns f m hm h he n v b h0 h1
  have hm2 : 2 ≤ m := by omega
  rw [Int.mul_emod, hn, Int.mul_one, Int.emod_emod] at i2
  generalize turn f n (v, b) = s at *
  obtain ⟨u, c⟩ := s
  simp only at *
  have key : u + (if c then m else 0) = v + (if b then m else 0) := by
    have a0 : 0 ≤ u + (if c then m else 0) ∧ u + (if c then m else 0) ≤ 2 * m - 1 := by split <;> omega
    have b0 : 0 ≤ v + (if b then m else 0) ∧ v + (if b then m else 0) ≤ 2 * m - 1 := by split <;> omega
    generalize u + (if c then m else 0) = p at *
    generalize v + (if b then m else 0) = q at *
    by_cases hp : p = 2 * m - 1 <;> by_cases hq : q = 2 * m - 1
    · omega
    · rw [hp, Int.emod_self, Int.emod_eq_of_lt b0.1 (by omega)] at i2
      omega
    · rw [hq, Int.emod_self, Int.emod_eq_of_lt a0.1 (by omega)] at i2
      omega
    · rw [Int.emod_eq_of_lt a0.1 (by omega), Int.emod_eq_of_lt b0.1 (by omega)] at i2
      exact i2
  cases c <;> cases b <;> simp at key ⊢ <;> omega

theorem rlc8 (x : Int) (b : Bool) (h0 : 0 ≤ x) (h1 : x < 256) : (turn rlc 8 (x, b)).1 = x ∧ (turn rlc 8 (x, b)).2 = (x % 2 == 1) := by
  have h := all_upto 256 (p := fun x => decide ((turn rlc 8 (x, b)).1 = x) && ((turn rlc 8 (x, b)).2 == (x % 2 == 1))) (by cases b <;> kernel_rfl) h0 h1
  simpa using h
theorem ral9 (x : Int) (b : Bool) (h0 : 0 ≤ x) (h1 : x < 256) : turn ral 9 (x, b) = (x, b) := by
  refine back ral 256 (by decide) ?_ (by decide) 9 (by decide) x b h0 h1
  intro v c k0 k1
  unfold ral
  rw [u8_shl1]
  cases c
  · simp only [cond_false, Bool.false_eq_true, if_false]
    rw [u8_or_low 1 (by omega) (by simp) (by omega) (by decide) (by decide) (by decide)]
    rfl
  · simp only [cond_true, if_true]
    rw [u8_or_low 1 (by omega) (by simp) (by omega) (by decide) (by decide) (by decide)]
    rfl
theorem rdel17 (x : Int) (b : Bool) (h0 : 0 ≤ x) (h1 : x < 65536) : turn rdel 17 (x, b) = (x, b) := by
  refine back rdel 65536 (by decide) ?_ (by decide) 17 (by decide) x b h0 h1
  intro v c k0 k1
  unfold rdel
  rw [u16_shl1]
  cases c
  · simp only [cond_false, Bool.false_eq_true, if_false]
    rw [wrap_u16, u16_or_low 1 (by omega) (by simp) (by omega) (by decide) (by decide) (by decide)]
    rfl
  · simp only [cond_true, if_true]
    rw [wrap_u16, u16_or_low 1 (by omega) (by simp) (by omega) (by decide) (by decide) (by decide)]
    rfl
theorem walk (e : Env) (h : argsOk e 0 shapes) : okTrue (eval Try.prog [] 6 (argsTV e 0 shapes)) = true := by
  refine (nf (e.n 0) (e.n 1) (e.b 2)).trans ?_
  have h0 := rng_u8 h.1
  have h1 := rng_u16 h.2.1
  have r := rlc8 (e.n 0) (e.b 2) h0.1 (by omega)
  unfold rhs
  rw [r.1, r.2, ral9 _ _ h0.1 (by omega), rdel17 _ _ h1.1 (by omega), u8_and1]
  simp

theorem own : ownKnob Try.prog.godebug = none := by kernel_rfl

set_option maxRecDepth 100000 in
theorem lifted (os : Os) (started : os.Started) (H : Type) (enc : TypeId × Value → H) :
    ReturnsInHanded {} Try.checked os 6 .any (Rows.rotateTurnsSpec.pre6 enc Try.prog Try.f6 Rows.rotateTurnsRow.domain false) (Rows.rotateTurnsSpec.post enc Try.prog Try.f6 false true false false) :=
  law_step (C := Try.checked) 3 own started (by kernel_rfl) Try.func6 (by kernel_rfl) (by kernel_rfl) rfl
    (fun ds hd => by
      match ds, hd with
      | [d0, d1, d2], _ => rfl)
    (ChangeSpec.witness6 (enc := enc) (C := Try.checked) false ⟨#[], #[.int .u8 0, .int .u16 0, .bool false], []⟩ 8 (by kernel_rfl) (by kernel_rfl) (by kernel_rfl) (by kernel_rfl))
    (fun W base args hv hl _ _ _ => plain_walk (P := Try.prog) (G := []) gok_nil shapes (by kernel_rfl) walk W base args hv hl)

theorem over : Rows.rotateTurnsRow.holds Try.pinned (OpenSpec.ofChange Rows.rotateTurnsSpec) :=
  OpenClaim.holds_of_wide 6 Try.f6 rfl rfl rfl rfl rfl rfl rfl ⟨rfl, rfl, rfl, rfl, rfl⟩ rfl rfl rfl rfl rfl (by kernel_rfl) Try.func6 (by kernel_rfl)
    (of_decide_eq_true (by kernel_rfl)) (by unfold Func.isWrapper; first | (rw [if_pos (by decide +kernel)]; kernel_rfl) | (rw [if_neg (by decide +kernel)]; exact ⟨rfl, rfl⟩))
    (fun os started H enc _ => lifted os started H enc)

theorem proved : Rows.RotateTurnsSaid := over
#print axioms proved
end Go.Proofs.Ytecngmfpciechaa.rotateTurns

