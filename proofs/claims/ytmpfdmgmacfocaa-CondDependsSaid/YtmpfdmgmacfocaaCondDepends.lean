/- tstatelaw10.CondDepends returns true for every input; no condition. -/
import Derived.Test.YtmpfdmgmacfocaaCond
namespace Go.Proofs.Ytmpfdmgmacfocaa.condDepends
open Go Go.Sx Go.RowKit
set_option maxRecDepth 100000

def shapes : List ASh := [.one (.int .i64), .one (.int .i64), .agg [.bool, .bool, .bool, .bool, .bool, .bool, .bool]]

def rhs (k a : Int) (x2 x3 x4 x5 x6 x7 x8 : Bool) : Bool :=
  okTrue (bif
    (cnd.hd (k) x2 x3 x4 x6 x7 x8 ==
        cnd.hd (k)
          (bif a == 0 then x2
          else
            bif a == 1 then x2
            else
              bif a == 2 then x2
              else bif a == 3 then !x2 else x2)
          (bif a == 0 then !x3 else x3)
          (bif a == 0 then x4
          else
            bif a == 1 then x4
            else
              bif a == 2 then x4
              else
                bif a == 3 then x4
                else bif a == 4 then !x4 else x4)
          (bif a == 0 then x6
          else
            bif a == 1 then x6
            else bif a == 2 then !x6 else x6)
          (bif a == 0 then x7
          else
            bif a == 1 then x7
            else
              bif a == 2 then x7
              else
                bif a == 3 then x7
                else
                  bif a == 4 then x7
                  else bif a == 5 then !x7 else x7)
          (bif a == 0 then x8
          else bif a == 1 then !x8 else x8)) ==
      (a !=
        bif decide (k = 0) then 0
        else
          bif decide (k = 1) then 0
          else
            bif decide (k = 2) then 1
            else
              bif decide (k = 3) then 1
              else
                bif decide (k = 4) then 2
                else
                  bif decide (k = 5) then 2
                  else
                    bif decide (k = 6) then 3
                    else
                      bif decide (k = 7) then 3
                      else
                        bif decide (k = 8) then 4
                        else bif decide (k = 9) then 4 else 5) then
  bif
      bif decide (k = 0) then true
      else
        bif decide (k = 1) then true
        else
          bif decide (k = 2) then true
          else
            bif decide (k = 3) then true
            else
              bif decide (k = 4) then true
              else
                bif decide (k = 5) then true
                else
                  bif decide (k = 6) then true
                  else
                    bif decide (k = 7) then true
                    else
                      bif decide (k = 8) then true
                      else
                        bif decide (k = 9) then true
                        else decide (k = 10) then
    some
      (TV.one
        (SV.bool
          (SB.sym
            ((cnd.hd (k) x2 x3 x4 x6 x7 x8 ==
                cnd.hd (k)
                  (bif a == 0 then x2
                  else
                    bif a == 1 then x2
                    else
                      bif a == 2 then x2
                      else bif a == 3 then !x2 else x2)
                  (bif a == 0 then !x3 else x3)
                  (bif a == 0 then x4
                  else
                    bif a == 1 then x4
                    else
                      bif a == 2 then x4
                      else
                        bif a == 3 then x4
                        else bif a == 4 then !x4 else x4)
                  (bif a == 0 then x6
                  else
                    bif a == 1 then x6
                    else bif a == 2 then !x6 else x6)
                  (bif a == 0 then x7
                  else
                    bif a == 1 then x7
                    else
                      bif a == 2 then x7
                      else
                        bif a == 3 then x7
                        else
                          bif a == 4 then x7
                          else bif a == 5 then !x7 else x7)
                  (bif a == 0 then x8
                  else bif a == 1 then !x8 else x8)) ==
              (a !=
                bif decide (k = 0) then 0
                else
                  bif decide (k = 1) then 0
                  else
                    bif decide (k = 2) then 1
                    else
                      bif decide (k = 3) then 1
                      else
                        bif decide (k = 4) then 2
                        else
                          bif decide (k = 5) then 2
                          else
                            bif decide (k = 6) then 3
                            else
                              bif decide (k = 7) then 3
                              else
                                bif decide (k = 8) then 4
                                else
                                  bif decide (k = 9) then 4 else 5)))))
  else none
else
  bif
      (cnd.hd (k) x2 x3 x4 x6 x7 x8 ==
          cnd.hd (k)
            (bif a == 0 then x2
            else
              bif a == 1 then x2
              else
                bif a == 2 then x2
                else bif a == 3 then !x2 else x2)
            (bif a == 0 then !x3 else x3)
            (bif a == 0 then x4
            else
              bif a == 1 then x4
              else
                bif a == 2 then x4
                else
                  bif a == 3 then x4
                  else bif a == 4 then !x4 else x4)
            (bif a == 0 then x6
            else
              bif a == 1 then x6
              else bif a == 2 then !x6 else x6)
            (bif a == 0 then x7
            else
              bif a == 1 then x7
              else
                bif a == 2 then x7
                else
                  bif a == 3 then x7
                  else
                    bif a == 4 then x7
                    else bif a == 5 then !x7 else x7)
            (bif a == 0 then x8
            else bif a == 1 then !x8 else x8)) ==
        (a !=
          bif decide (k = 0) then 0
          else
            bif decide (k = 1) then 0
            else
              bif decide (k = 2) then 1
              else
                bif decide (k = 3) then 1
                else
                  bif decide (k = 4) then 2
                  else
                    bif decide (k = 5) then 2
                    else
                      bif decide (k = 6) then 3
                      else
                        bif decide (k = 7) then 3
                        else
                          bif decide (k = 8) then 4
                          else bif decide (k = 9) then 4 else 5) then
    none
  else
    bif
        bif decide (k = 0) then true
        else
          bif decide (k = 1) then true
          else
            bif decide (k = 2) then true
            else
              bif decide (k = 3) then true
              else
                bif decide (k = 4) then true
                else
                  bif decide (k = 5) then true
                  else
                    bif decide (k = 6) then true
                    else
                      bif decide (k = 7) then true
                      else
                        bif decide (k = 8) then true
                        else
                          bif decide (k = 9) then true
                          else decide (k = 10) then
      some (TV.one (SV.bool (SB.lit false)))
    else none)
theorem nf (x0 x1 : Int) (x2 x3 x4 x5 x6 x7 x8 : Bool) : okTrue (eval Try.prog cnd.G 5 [.one (.int .i64 (.sym x0)), .one (.int .i64 (.sym x1)), .agg [.bool (.sym x2), .bool (.sym x3), .bool (.sym x4), .bool (.sym x5), .bool (.sym x6), .bool (.sym x7), .bool (.sym x8)]]) =
  rhs (IntKind.i64.wrap ((IntKind.u64.wrap x0).tmod 11)) (IntKind.i64.wrap ((IntKind.u64.wrap x1).tmod 7)) x2 x3 x4 x5 x6 x7 x8 := by kernel_rfl
def bools (p : Bool → Bool) : Bool := p true && p false
theorem bools_all {p : Bool → Bool} (h : bools p = true) (b : Bool) : p b = true := all_bool h b
def every (k a : Int) : Bool := bools fun x2 => bools fun x3 => bools fun x4 => bools fun x5 => bools fun x6 => bools fun x7 => bools fun x8 => rhs k a x2 x3 x4 x5 x6 x7 x8
theorem all_every : ((List.range 11).all fun k => (List.range 7).all fun a => every (k : Int) (a : Int)) = true := by kernel_rfl
theorem walk (e : Env) (_ : argsOk e 0 shapes) : okTrue (eval Try.prog cnd.G 5 (argsTV e 0 shapes)) = true := by
  refine (nf (e.n 0) (e.n 1) (e.b 2) (e.b 3) (e.b 4) (e.b 5) (e.b 6) (e.b 7) (e.b 8)).trans ?_
  have h := place_range (e.n 0) 11 (by decide) (by decide)
  have g := place_range (e.n 1) 7 (by decide) (by decide)
  have hw : IntKind.u64.wrap 11 = 11 := by decide
  have gw : IntKind.u64.wrap 7 = 7 := by decide
  rw [hw] at h
  rw [gw] at g
  have h1 := all_upto 11 (p := fun k => (List.range 7).all fun a => every k (a : Int)) all_every h.1 h.2
  have h2 := all_upto 7 (p := fun a => every _ a) h1 g.1 g.2
  exact bools_all (bools_all (bools_all (bools_all (bools_all (bools_all (bools_all h2 _) _) _) _) _) _) _

theorem own : ownKnob Try.prog.godebug = none := by kernel_rfl

theorem lifted (os : Os) (started : os.Started) (H : Type) (enc : TypeId × Value → H) :
    ReturnsInHanded {} Try.checked os 5 .any (Rows.condDependsSpec.pre6 enc Try.prog Try.f5 Rows.condDependsRow.domain false) (Rows.condDependsSpec.post enc Try.prog Try.f5 false true false false) :=
  law_step (C := Try.checked) 3 own started (by kernel_rfl) Try.func5 (by kernel_rfl) (by kernel_rfl) rfl
    (fun ds hd => by
      match ds, hd with
      | [d0, d1, d2], _ => rfl)
    (ChangeSpec.witness6 (enc := enc) (C := Try.checked) false ⟨#[], #[.int .i64 0, .int .i64 0, .agg #[.bool false, .bool false, .bool false, .bool false, .bool false, .bool false, .bool false]], []⟩ 8 (by kernel_rfl) (by kernel_rfl) (by kernel_rfl) (by kernel_rfl))
    (fun W base args hv hl _ _ _ => plain_walk (P := Try.prog) (G := cnd.G) cnd.gok shapes (by kernel_rfl) walk W base args hv hl)

theorem over : Rows.condDependsRow.holds Try.pinned (OpenSpec.ofChange Rows.condDependsSpec) :=
  OpenClaim.holds_of_wide 5 Try.f5 rfl rfl rfl rfl rfl rfl rfl ⟨rfl, rfl, rfl, rfl, rfl⟩ rfl rfl rfl rfl rfl (by kernel_rfl) Try.func5 (by kernel_rfl)
    (of_decide_eq_true (by kernel_rfl)) (by unfold Func.isWrapper; first | (rw [if_pos (by decide +kernel)]; kernel_rfl) | (rw [if_neg (by decide +kernel)]; exact ⟨rfl, rfl⟩))
    (fun os started H enc _ => lifted os started H enc)

theorem proved : Rows.CondDependsSaid := over
#print axioms proved
end Go.Proofs.Ytmpfdmgmacfocaa.condDepends
