/- tstatelaw23.DmaRegisters returns true for every input; no condition. -/
import Derived.Test.YtmjelkeanbckaaaDma
import Derived.Laws.BitsAllLaws
namespace Go.Proofs.Ytmjelkeanbckaaa.dmaRegisters
open Go Go.Sx Go.RowKit
set_option maxRecDepth 100000

def shapes : List ASh := [.agg [.int .u16, .int .u8, .int .i64], .one (.int .i64), .one (.int .u8)]
theorem nf (x0 : Int) (x1 : Int) (x2 : Int) (x3 : Int) (x4 : Int) : okTrue (eval Try.prog dm.G 5 [.agg [.int .u16 (.sym x0), .int .u8 (.sym x1), .int .i64 (.sym x2)], .one (.int .i64 (.sym x3)), .one (.int .u8 (.sym x4))]) =
  okTrue (bif
    dm.wAt x0 x3 x4 == dm.wAt x0 x3 x4 &&
      (dm.wVal x1 x3 x4 == dm.wVal x1 x3 x4 && dm.wLeft x2 x3 x4 == dm.wLeft x2 x3 x4) then
  bif
      dm.wAt x0 x3 x4 == dm.wAt x0 x3 x4 &&
        (dm.wVal x1 x3 x4 == dm.wVal x1 x3 x4 && dm.wLeft x2 x3 x4 == dm.wLeft x2 x3 x4) then
    bif dm.rd x0 x1 x2 x3 == dm.rd x0 x1 x2 x3 then
      bif dm.rd x0 x1 x2 x3 == dm.rd x0 x1 x2 x3 then
        bif dm.rd (dm.wAt x0 x3 x4) (dm.wVal x1 x3 x4) (dm.wLeft x2 x3 x4) x3 == x4 then
          some (TV.one (SV.bool (SB.sym (dm.rd (dm.wAt x0 x3 x4) (dm.wVal x1 x3 x4) (dm.wLeft x2 x3 x4) x3 == x4))))
        else
          bif dm.rd (dm.wAt x0 x3 x4) (dm.wVal x1 x3 x4) (dm.wLeft x2 x3 x4) x3 == x4 then none
          else some (TV.one (SV.bool (SB.lit false)))
      else some (TV.one (SV.bool (SB.lit false)))
    else bif dm.rd x0 x1 x2 x3 == dm.rd x0 x1 x2 x3 then none else some (TV.one (SV.bool (SB.lit false)))
  else some (TV.one (SV.bool (SB.lit false)))
else
  bif
      dm.wAt x0 x3 x4 == dm.wAt x0 x3 x4 &&
        (dm.wVal x1 x3 x4 == dm.wVal x1 x3 x4 && dm.wLeft x2 x3 x4 == dm.wLeft x2 x3 x4) then
    none
  else some (TV.one (SV.bool (SB.lit false)))) := by kernel_rfl

theorem back (x0 x1 x2 x3 x4 : Int) (h0 : 0 ≤ x0) (h1 : x0 ≤ 65535) (k0 : 0 ≤ x4) (k1 : x4 ≤ 255) : dm.rd (dm.wAt x0 x3 x4) (dm.wVal x1 x3 x4) (dm.wLeft x2 x3 x4) x3 = x4 := by
  obtain ⟨a, rfl⟩ := Int.eq_ofNat_of_zero_le h0
  obtain ⟨v, rfl⟩ := Int.eq_ofNat_of_zero_le k0
  have ha : a < 65536 := by omega
  have hv : v < 65536 := by omega
  have hw : IntKind.u16.wrap (v : Int) = v := by rw [wrap_u16]; omega
  unfold dm.rd dm.wAt dm.wVal dm.wLeft
  rcases dm.and_three x3 with h | h | h | h <;> rw [h]
  · show IntKind.u8.wrap (bits .or .u16 (bits .and .u16 (a : Int) 65280) (IntKind.u16.wrap (v : Int))) = v
    have e := u16_and_nat a 65280 ha (by decide)
    have hlt : a &&& 65280 < 65536 := Nat.lt_of_le_of_lt Nat.and_le_left ha
    have e2 := u16_or_nat (a &&& 65280) v hlt hv
    have e3 : (a &&& 65280 ||| v) % 2 ^ 8 = v := by
      rw [Nat.or_mod_two_pow, Nat.and_mod_two_pow, show 65280 % 2 ^ 8 = 0 from rfl, Nat.and_zero, Nat.zero_or]
      omega
    have e' : bits .and .u16 (a : Int) 65280 = ((a &&& 65280 : Nat) : Int) := e
    rw [hw, e', e2, IntKind.wrap_u8]
    omega
  · show IntKind.u8.wrap (gshr .u16 (bits .or .u16 (bits .and .u16 (a : Int) 255) (gshl .u16 (IntKind.u16.wrap (v : Int)) 8)) 8) = v
    have e' : bits .and .u16 (a : Int) 255 = ((a &&& 255 : Nat) : Int) := u16_and_nat a 255 ha (by decide)
    have hlt : a &&& 255 < 65536 := Nat.lt_of_le_of_lt Nat.and_le_left ha
    have hs : gshl .u16 (v : Int) 8 = ((v * 256 : Nat) : Int) := by
      have : gshl .u16 (v : Int) 8 = IntKind.u16.wrap ((v : Int) * 256) := rfl
      rw [this, wrap_u16]
      omega
    have e2 := u16_or_nat (a &&& 255) (v * 256) hlt (by omega)
    have e3 : (a &&& 255 ||| v * 256) / 2 ^ 8 = v := by
      rw [Nat.or_div_two_pow, Nat.and_div_two_pow, show 255 / 2 ^ 8 = 0 from rfl, Nat.and_zero, Nat.zero_or]
      omega
    rw [hw, hs, e', e2]
    have e4 : gshr .u16 ((a &&& 255 ||| v * 256 : Nat) : Int) 8 = ((a &&& 255 ||| v * 256 : Nat) : Int) / 256 := Int.fdiv_eq_ediv_of_nonneg _ (by decide)
    rw [e4, IntKind.wrap_u8]
    omega
  · rfl
  · show IntKind.u8.wrap (IntKind.i64.wrap (v : Int)) = v
    rw [IntKind.wrap_i64, IntKind.wrap_u8]
    omega
theorem walk (e : Env) (h : argsOk e 0 shapes) : okTrue (eval Try.prog dm.G 5 (argsTV e 0 shapes)) = true := by
  refine (nf (e.n 0) (e.n 1) (e.n 2) (e.n 3) (e.n 4)).trans ?_
  have h0 := rng_u16 h.1.1
  have h4 := rng_u8 h.2.2.1
  rw [back (e.n 0) (e.n 1) (e.n 2) (e.n 3) (e.n 4) h0.1 h0.2 h4.1 h4.2]
  simp only [beq_self_eq_true, Bool.and_self, cond_true]
  rfl

theorem own : ownKnob Try.prog.godebug = none := by kernel_rfl

theorem lifted (os : Os) (started : os.Started) (H : Type) (enc : TypeId × Value → H) :
    ReturnsInHanded {} Try.checked os 5 .any (Rows.dmaRegistersSpec.pre6 enc Try.prog Try.f5 Rows.dmaRegistersRow.domain false) (Rows.dmaRegistersSpec.post enc Try.prog Try.f5 false true false false) :=
  law_step (C := Try.checked) 3 own started (by kernel_rfl) Try.func5 (by kernel_rfl) (by kernel_rfl) rfl
    (fun ds hd => by
      match ds, hd with
      | [d0, d1, d2], _ => rfl)
    (ChangeSpec.witness6 (enc := enc) (C := Try.checked) false ⟨#[], #[.agg #[.int .u16 0, .int .u8 0, .int .i64 0], .int .i64 0, .int .u8 0], []⟩ 8 (by kernel_rfl) (by kernel_rfl) (by kernel_rfl) (by kernel_rfl))
    (fun W base args hv hl _ _ _ => plain_walk (P := Try.prog) (G := dm.G) dm.gok shapes (by kernel_rfl) walk W base args hv hl)

theorem over : Rows.dmaRegistersRow.holds Try.pinned (OpenSpec.ofChange Rows.dmaRegistersSpec) :=
  OpenClaim.holds_of_wide 5 Try.f5 rfl rfl rfl rfl rfl rfl rfl ⟨rfl, rfl, rfl, rfl, rfl⟩ rfl rfl rfl rfl rfl (by kernel_rfl) Try.func5 (by kernel_rfl)
    (of_decide_eq_true (by kernel_rfl)) (by unfold Func.isWrapper; first | (rw [if_pos (by decide +kernel)]; kernel_rfl) | (rw [if_neg (by decide +kernel)]; exact ⟨rfl, rfl⟩))
    (fun os started H enc _ => lifted os started H enc)

theorem proved : Rows.DmaRegistersSaid := over
#print axioms proved
end Go.Proofs.Ytmjelkeanbckaaa.dmaRegisters
