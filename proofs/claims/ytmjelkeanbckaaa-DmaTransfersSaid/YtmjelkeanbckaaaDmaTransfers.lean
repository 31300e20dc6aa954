/- tstatelaw23.DmaTransfers returns true for every input; no condition. -/
import Derived.Test.YtmjelkeanbckaaaKnown
namespace Go.Proofs.Ytmjelkeanbckaaa.dmaTransfers
open Go Go.Sx Go.RowKit
set_option maxRecDepth 100000

def shapes : List ASh := [.agg [.int .u16, .int .u8, .int .i64], .one (.int .i64)]
theorem nf (x0 : Int) (x1 : Int) (x2 : Int) (x3 : Int) : okTrue (eval Try.prog kn.G 3 [.agg [.int .u16 (.sym x0), .int .u8 (.sym x1), .int .i64 (.sym x2)], .one (.int .i64 (.sym x3))]) =
  okTrue (bif
    !(((bif !decide (x2 > 0) then 0 else gadd IntKind.u16 x0 1) ==
          bif !decide (x2 > 0) then 0 else gadd IntKind.u16 x0 1) &&
        (((bif !decide (x2 > 0) then 0 else x1) == bif !decide (x2 > 0) then 0 else x1) &&
          (bif !decide (x2 > 0) then 0 else gsub IntKind.i64 x2 1) ==
            bif !decide (x2 > 0) then 0 else gsub IntKind.i64 x2 1)) then
  bif
      !(((bif !decide (x2 > 0) then 0 else gadd IntKind.u16 x0 1) ==
            bif !decide (x2 > 0) then 0 else gadd IntKind.u16 x0 1) &&
          (((bif !decide (x2 > 0) then 0 else x1) == bif !decide (x2 > 0) then 0 else x1) &&
            (bif !decide (x2 > 0) then 0 else gsub IntKind.i64 x2 1) ==
              bif !decide (x2 > 0) then 0 else gsub IntKind.i64 x2 1)) then
    some (TV.one (SV.bool (SB.lit false)))
  else none
else
  bif
      !(((bif !decide (x2 > 0) then 0 else gadd IntKind.u16 x0 1) ==
            bif !decide (x2 > 0) then 0 else gadd IntKind.u16 x0 1) &&
          (((bif !decide (x2 > 0) then 0 else x1) == bif !decide (x2 > 0) then 0 else x1) &&
            (bif !decide (x2 > 0) then 0 else gsub IntKind.i64 x2 1) ==
              bif !decide (x2 > 0) then 0 else gsub IntKind.i64 x2 1)) then
    some (TV.one (SV.bool (SB.lit false)))
  else
    bif
        !(((bif !decide (x2 > 0) then 0 else x0) == bif !decide (x2 > 0) then 0 else x0) &&
            (bif !decide (x2 > 0) then 0 else x1) == bif !decide (x2 > 0) then 0 else x1) then
      bif
          !(((bif !decide (x2 > 0) then 0 else x0) == bif !decide (x2 > 0) then 0 else x0) &&
              (bif !decide (x2 > 0) then 0 else x1) == bif !decide (x2 > 0) then 0 else x1) then
        some (TV.one (SV.bool (SB.lit false)))
      else none
    else
      bif
          !(((bif !decide (x2 > 0) then 0 else x0) == bif !decide (x2 > 0) then 0 else x0) &&
              (bif !decide (x2 > 0) then 0 else x1) == bif !decide (x2 > 0) then 0 else x1) then
        some (TV.one (SV.bool (SB.lit false)))
      else
        bif !(!!decide (x2 > 0)) == !!decide (x2 > 0) then
          bif !(!!decide (x2 > 0)) == !!decide (x2 > 0) then some (TV.one (SV.bool (SB.lit false))) else none
        else
          bif bif !(!!decide (x2 > 0)) == !!decide (x2 > 0) then true else !decide (x2 > 0) == decide (x2 > 0) then
            some (TV.one (SV.bool (SB.lit false)))
          else
            bif
                !(((bif !decide (IntKind.i64.wrap ((IntKind.u64.wrap x3).tmod 300) > 0) then 0
                      else gadd IntKind.u16 x0 1) ==
                      bif !decide (IntKind.i64.wrap ((IntKind.u64.wrap x3).tmod 300) > 0) then 0
                      else gadd IntKind.u16 x0 1) &&
                    (((bif !decide (IntKind.i64.wrap ((IntKind.u64.wrap x3).tmod 300) > 0) then 0 else x1) ==
                        bif !decide (IntKind.i64.wrap ((IntKind.u64.wrap x3).tmod 300) > 0) then 0 else x1) &&
                      (bif !decide (IntKind.i64.wrap ((IntKind.u64.wrap x3).tmod 300) > 0) then 0
                        else gsub IntKind.i64 (IntKind.i64.wrap ((IntKind.u64.wrap x3).tmod 300)) 1) ==
                        bif !decide (IntKind.i64.wrap ((IntKind.u64.wrap x3).tmod 300) > 0) then 0
                        else gsub IntKind.i64 (IntKind.i64.wrap ((IntKind.u64.wrap x3).tmod 300)) 1)) then
              bif
                  !(((bif !decide (IntKind.i64.wrap ((IntKind.u64.wrap x3).tmod 300) > 0) then 0
                        else gadd IntKind.u16 x0 1) ==
                        bif !decide (IntKind.i64.wrap ((IntKind.u64.wrap x3).tmod 300) > 0) then 0
                        else gadd IntKind.u16 x0 1) &&
                      (((bif !decide (IntKind.i64.wrap ((IntKind.u64.wrap x3).tmod 300) > 0) then 0 else x1) ==
                          bif !decide (IntKind.i64.wrap ((IntKind.u64.wrap x3).tmod 300) > 0) then 0 else x1) &&
                        (bif !decide (IntKind.i64.wrap ((IntKind.u64.wrap x3).tmod 300) > 0) then 0
                          else gsub IntKind.i64 (IntKind.i64.wrap ((IntKind.u64.wrap x3).tmod 300)) 1) ==
                          bif !decide (IntKind.i64.wrap ((IntKind.u64.wrap x3).tmod 300) > 0) then 0
                          else gsub IntKind.i64 (IntKind.i64.wrap ((IntKind.u64.wrap x3).tmod 300)) 1)) then
                some (TV.one (SV.bool (SB.lit false)))
              else none
            else
              bif
                  !(((bif !decide (IntKind.i64.wrap ((IntKind.u64.wrap x3).tmod 300) > 0) then 0
                        else gadd IntKind.u16 x0 1) ==
                        bif !decide (IntKind.i64.wrap ((IntKind.u64.wrap x3).tmod 300) > 0) then 0
                        else gadd IntKind.u16 x0 1) &&
                      (((bif !decide (IntKind.i64.wrap ((IntKind.u64.wrap x3).tmod 300) > 0) then 0 else x1) ==
                          bif !decide (IntKind.i64.wrap ((IntKind.u64.wrap x3).tmod 300) > 0) then 0 else x1) &&
                        (bif !decide (IntKind.i64.wrap ((IntKind.u64.wrap x3).tmod 300) > 0) then 0
                          else gsub IntKind.i64 (IntKind.i64.wrap ((IntKind.u64.wrap x3).tmod 300)) 1) ==
                          bif !decide (IntKind.i64.wrap ((IntKind.u64.wrap x3).tmod 300) > 0) then 0
                          else gsub IntKind.i64 (IntKind.i64.wrap ((IntKind.u64.wrap x3).tmod 300)) 1)) then
                some (TV.one (SV.bool (SB.lit false)))
              else
                bif
                    !(((bif !decide (IntKind.i64.wrap ((IntKind.u64.wrap x3).tmod 300) > 0) then 0 else x0) ==
                          bif !decide (IntKind.i64.wrap ((IntKind.u64.wrap x3).tmod 300) > 0) then 0 else x0) &&
                        (bif !decide (IntKind.i64.wrap ((IntKind.u64.wrap x3).tmod 300) > 0) then 0 else x1) ==
                          bif !decide (IntKind.i64.wrap ((IntKind.u64.wrap x3).tmod 300) > 0) then 0 else x1) then
                  bif
                      !(((bif !decide (IntKind.i64.wrap ((IntKind.u64.wrap x3).tmod 300) > 0) then 0 else x0) ==
                            bif !decide (IntKind.i64.wrap ((IntKind.u64.wrap x3).tmod 300) > 0) then 0 else x0) &&
                          (bif !decide (IntKind.i64.wrap ((IntKind.u64.wrap x3).tmod 300) > 0) then 0 else x1) ==
                            bif !decide (IntKind.i64.wrap ((IntKind.u64.wrap x3).tmod 300) > 0) then 0 else x1) then
                    some (TV.one (SV.bool (SB.lit false)))
                  else none
                else
                  bif
                      !(((bif !decide (IntKind.i64.wrap ((IntKind.u64.wrap x3).tmod 300) > 0) then 0 else x0) ==
                            bif !decide (IntKind.i64.wrap ((IntKind.u64.wrap x3).tmod 300) > 0) then 0 else x0) &&
                          (bif !decide (IntKind.i64.wrap ((IntKind.u64.wrap x3).tmod 300) > 0) then 0 else x1) ==
                            bif !decide (IntKind.i64.wrap ((IntKind.u64.wrap x3).tmod 300) > 0) then 0 else x1) then
                    some (TV.one (SV.bool (SB.lit false)))
                  else
                    bif
                        !(!!decide (IntKind.i64.wrap ((IntKind.u64.wrap x3).tmod 300) > 0)) ==
                            !!decide (IntKind.i64.wrap ((IntKind.u64.wrap x3).tmod 300) > 0) then
                      bif
                          !(!!decide (IntKind.i64.wrap ((IntKind.u64.wrap x3).tmod 300) > 0)) ==
                              !!decide (IntKind.i64.wrap ((IntKind.u64.wrap x3).tmod 300) > 0) then
                        some (TV.one (SV.bool (SB.lit false)))
                      else none
                    else
                      bif
                          bif
                              !(!!decide (IntKind.i64.wrap ((IntKind.u64.wrap x3).tmod 300) > 0)) ==
                                  !!decide (IntKind.i64.wrap ((IntKind.u64.wrap x3).tmod 300) > 0) then
                            true
                          else
                            !decide (IntKind.i64.wrap ((IntKind.u64.wrap x3).tmod 300) > 0) ==
                                decide (IntKind.i64.wrap ((IntKind.u64.wrap x3).tmod 300) > 0) then
                        some (TV.one (SV.bool (SB.lit false)))
                      else some (TV.one (SV.bool (SB.lit true)))) := by kernel_rfl

theorem walk (e : Env) (_ : argsOk e 0 shapes) : okTrue (eval Try.prog kn.G 3 (argsTV e 0 shapes)) = true := by
  refine (nf (e.n 0) (e.n 1) (e.n 2) (e.n 3)).trans ?_
  generalize IntKind.i64.wrap ((IntKind.u64.wrap (e.n 3)).tmod 300) = k
  simp only [beq_self_eq_true, Bool.and_self, Bool.not_true, cond_false]
  cases decide (e.n 2 > 0) <;> cases decide (k > 0) <;> rfl

theorem own : ownKnob Try.prog.godebug = none := by kernel_rfl

theorem lifted (os : Os) (started : os.Started) (H : Type) (enc : TypeId × Value → H) :
    ReturnsInHanded {} Try.checked os 3 .any (Rows.dmaTransfersSpec.pre6 enc Try.prog Try.f3 Rows.dmaTransfersRow.domain false) (Rows.dmaTransfersSpec.post enc Try.prog Try.f3 false true false false) :=
  law_step (C := Try.checked) 2 own started (by kernel_rfl) Try.func3 (by kernel_rfl) (by kernel_rfl) rfl
    (fun ds hd => by
      match ds, hd with
      | [d0, d1], _ => rfl)
    (ChangeSpec.witness6 (enc := enc) (C := Try.checked) false ⟨#[], #[.agg #[.int .u16 0, .int .u8 0, .int .i64 0], .int .i64 0], []⟩ 8 (by kernel_rfl) (by kernel_rfl) (by kernel_rfl) (by kernel_rfl))
    (fun W base args hv hl _ _ _ => plain_walk (P := Try.prog) (G := kn.G) kn.gok shapes (by kernel_rfl) walk W base args hv hl)

theorem over : Rows.dmaTransfersRow.holds Try.pinned (OpenSpec.ofChange Rows.dmaTransfersSpec) :=
  OpenClaim.holds_of_wide 3 Try.f3 rfl rfl rfl rfl rfl rfl rfl ⟨rfl, rfl, rfl, rfl, rfl⟩ rfl rfl rfl rfl rfl (by kernel_rfl) Try.func3 (by kernel_rfl)
    (of_decide_eq_true (by kernel_rfl)) (by unfold Func.isWrapper; first | (rw [if_pos (by decide +kernel)]; kernel_rfl) | (rw [if_neg (by decide +kernel)]; exact ⟨rfl, rfl⟩))
    (fun os started H enc _ => lifted os started H enc)

theorem proved : Rows.DmaTransfersSaid := over
#print axioms proved
end Go.Proofs.Ytmjelkeanbckaaa.dmaTransfers
