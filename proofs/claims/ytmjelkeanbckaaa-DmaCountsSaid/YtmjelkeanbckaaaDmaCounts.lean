/- tstatelaw23.DmaCounts returns true for every input; no condition. -/
import Derived.Test.YtmjelkeanbckaaaRows
import Derived.Test.YtmjelkeanbckaaaLaw
import Derived.Test.YtmjelkeanbckaaaNum
import Derived.Test.YtmjelkeanbckaaaEngK
namespace Go.Proofs.Ytmjelkeanbckaaa.dmaCounts
open Go Go.Sx Go.RowKit
set_option maxRecDepth 100000
noncomputable def body4 : Code := match Try.f4.body with
  | some c => c
  | none => .skip
noncomputable def lb : Code := match body4 with
  | .seq _ (.seq _ (.seq (.seq _ (.block _ (.loop b))) _)) => b
  | _ => .skip
def G (_ : World) : List (Nat × Sx.Spec) := [(11, specF FK)]
theorem knownv (W : World) : eval Try.prog W [] 11 [] = some (.one (.bool (.lit true))) := by kernel_rfl
theorem gok (W : World) : GOk W Try.prog (G W) := gok_cons (known_ok ⟨Try.f11, Try.func11, by kernel_rfl, by kernel_rfl⟩ (knownv W)) (gok_nil W)
structure Pi where
  i : Int
  at_ : Int
  val : Int
  left : Int
def SP (v : Int) (p : Pi) : SL := [(1, .one (.int .u8 (.sym v))), (2, .one (.ptr 0 0)), (5, .one (.ptr 3 0)), (6, .one (.int .i64 (.sym p.i)))]
def BP (x0 x1 x2 : Int) (p : Pi) : List (Nat × BI) := [(0, ⟨24, [.int .u16 (.sym x0), .int .u8 (.sym x1), .int .i64 (.sym x2)], true⟩), (3, ⟨24, [.int .u16 (.sym p.at_), .int .u8 (.sym p.val), .int .i64 (.sym p.left)], true⟩)]
def ks : List (Nat × Bool) := [(1, true), (2, true), (5, true), (6, true)]
def ke : List (Nat × Bool) := [(1, true), (2, true), (5, true)]
def bs : List (Nat × Bool) := [(0, true), (3, true)]


def shapes : List ASh := [.agg [.int .u16, .int .u8, .int .i64], .one (.int .u8)]

def SE (v : Int) : SL := [(1, .one (.int .u8 (.sym v))), (2, .one (.ptr 0 0)), (5, .one (.ptr 3 0))]
def nx (p : Pi) : Pi := ⟨gadd .i64 p.i 1, bif !decide (p.left > 0) then 0 else gadd IntKind.u16 p.at_ 1, bif !decide (p.left > 0) then 0 else p.val, bif !decide (p.left > 0) then 0 else gsub IntKind.i64 p.left 1⟩
theorem body (W : World) (x0 x1 x2 v : Int) (p : Pi) : (runL Try.prog W (G W) 100000 61 .plain lb (SP v p) ⟨[], BP x0 x1 x2 p, 4⟩).slim 4 ks bs ke bs =
    RL.br (decide (p.i < IntKind.i64.wrap v)) (RL.br (bif !!!decide (p.left > 0) then true else bif (bif !decide (p.left > 0) then 0 else p.at_) != gadd IntKind.u16 x0 (IntKind.u16.wrap p.i) then true else (bif !decide (p.left > 0) then 0 else p.val) != x1) (.leaf .ret (.lit true) (SE v) (BP x0 x1 x2 p)) (.leaf .nrm (.lit true) (SP v (nx p)) (BP x0 x1 x2 (nx p)))) (.leaf (.exit 0) (.lit true) (SE v) (BP x0 x1 x2 p)) := by kernel_rfl
def Inv (x0 x1 v : Int) (p : Pi) : Prop := (0 ≤ v ∧ v ≤ 255) ∧ (0 ≤ p.i ∧ p.i ≤ v) ∧ p.at_ = gadd .u16 x0 (IntKind.u16.wrap p.i) ∧ p.val = x1 ∧ p.left = v - p.i
theorem wv {v : Int} (h0 : 0 ≤ v) (h1 : v ≤ 255) : IntKind.i64.wrap v = v := by
  rw [IntKind.wrap_i64]; omega
def pE (x0 x1 v : Int) : Pi := ⟨0, gadd .u16 x0 (IntKind.u16.wrap v), x1, 0⟩
theorem step (W : World) (x0 x1 x2 v : Int) (p : Pi) (h : Inv x0 x1 v p) : ∃ e vc S B, ((runL Try.prog W (G W) 100000 61 .plain lb (SP v p) ⟨[], BP x0 x1 x2 p, 4⟩).slim 4 ks bs ke bs).get = some (e, vc, S, B) ∧ vc.val = true ∧
      ((e = .nrm ∧ ∃ p', Inv x0 x1 v p' ∧ (v - p'.i).toNat < (v - p.i).toNat ∧ S = SP v p' ∧ B = BP x0 x1 x2 p' ∧ ((.exit 0, SE v, BP x0 x1 x2 (pE x0 x1 v)) : Ex × SL × List (Nat × BI)) = (.exit 0, SE v, BP x0 x1 x2 (pE x0 x1 v))) ∨
        (e ≠ .nrm ∧ (∀ v, e ≠ .res v) ∧ ((.exit 0, SE v, BP x0 x1 x2 (pE x0 x1 v)) : Ex × SL × List (Nat × BI)) = (e, S, B))) := by
  obtain ⟨⟨h1, h2⟩, ⟨h3, h4⟩, h5, h6, h7⟩ := h
  rw [body, wv h1 h2]
  have gi : gadd .i64 p.i 1 = p.i + 1 := by unfold gadd; rw [IntKind.wrap_i64]; omega
  by_cases hx : p.i < v
  · have hl : decide (p.left > 0) = true := decide_eq_true (by omega)
    have hb : (bif !!!decide (p.left > 0) then true else bif (bif !decide (p.left > 0) then 0 else p.at_) != gadd IntKind.u16 x0 (IntKind.u16.wrap p.i) then true else (bif !decide (p.left > 0) then 0 else p.val) != x1) = false := by
      rw [hl, h5, h6]
      simp only [Bool.not_true, Bool.not_false, cond_false, bne_self_eq_false]
    refine ⟨.nrm, .lit true, _, _, by rw [RL.get, RL.get, decide_eq_true hx, hb]; rfl, rfl, .inl ⟨rfl, nx p, ⟨⟨h1, h2⟩, ⟨?_, ?_⟩, ?_, ?_, ?_⟩, ?_, rfl, rfl, rfl⟩⟩
    · show 0 ≤ gadd .i64 p.i 1
      omega
    · show gadd .i64 p.i 1 ≤ v
      omega
    · show (bif !decide (p.left > 0) then 0 else gadd IntKind.u16 p.at_ 1) = gadd .u16 x0 (IntKind.u16.wrap (gadd .i64 p.i 1))
      rw [hl, gi, h5]
      unfold gadd
      simp only [Bool.not_true, cond_false, wrap_u16]
      omega
    · show (bif !decide (p.left > 0) then 0 else p.val) = x1
      rw [hl, h6]; rfl
    · show (bif !decide (p.left > 0) then 0 else gsub IntKind.i64 p.left 1) = v - gadd .i64 p.i 1
      rw [hl, gi]
      unfold gsub
      simp only [Bool.not_true, cond_false, IntKind.wrap_i64]
      omega
    · show (v - gadd .i64 p.i 1).toNat < _
      omega
  · refine ⟨.exit 0, .lit true, _, _, by rw [RL.get, decide_eq_false hx]; rfl, rfl, .inr ⟨by simp, by simp, ?_⟩⟩
    have e1 : p.i = v := by omega
    have e2 : p.left = 0 := by omega
    obtain ⟨i, a, l, q⟩ := p
    simp only at e1 e2 h5 h6
    subst e1 e2 h6 h5
    rfl
def p0 (x0 x1 v : Int) : Pi := ⟨0, x0, x1, IntKind.i64.wrap v⟩
def c0 (x0 v : Int) : Bool := (decide (0 ≤ v) && decide (v ≤ 255)) && (decide (0 ≤ x0) && decide (x0 ≤ 65535))
noncomputable def hh (x0 x1 x2 v : Int) : LH := .at_ (c0 x0 v) ks bs 4 (SP v (p0 x0 x1 v)) (BP x0 x1 x2 (p0 x0 x1 v)) (.exit 0) (SE v) (BP x0 x1 x2 (pE x0 x1 v))
theorem loopOk (W : World) (x0 x1 x2 v : Int) : LoopOk W Try.prog 61 lb (hh x0 x1 x2 v) := by
  refine loop_at (gok W) (n := 100000) .plain trivial (Inv x0 x1 v) (fun p => (v - p.i).toNat) (SP v) (BP x0 x1 x2) (fun _ => (.exit 0, SE v, BP x0 x1 x2 (pE x0 x1 v))) ke bs rfl rfl ?_ (step W x0 x1 x2 v)
  intro hc
  unfold c0 at hc
  simp only [Bool.and_eq_true, decide_eq_true_eq] at hc
  obtain ⟨⟨h1, h2⟩, h3, h4⟩ := hc
  refine ⟨p0 x0 x1 v, ⟨⟨h1, h2⟩, ⟨Int.le_refl _, h1⟩, ?_, rfl, ?_⟩, rfl, rfl, rfl⟩
  · show x0 = gadd .u16 x0 (IntKind.u16.wrap 0)
    unfold gadd
    simp only [wrap_u16]
    omega
  · show IntKind.i64.wrap v = v - 0
    rw [wv h1 h2]; omega
noncomputable def tr4 (x0 x1 x2 v : Int) : HT := .seq .plain (.seq .plain (.seq (.seq .plain (.block (.loop (hh x0 x1 x2 v)))) .plain))
theorem fhok (W : World) (x0 x1 x2 v : Int) : FHOk W Try.prog (tr4 x0 x1 x2 v) 4 := by
  intro fn cd h1 h2
  rw [show Try.prog.funcs[4]? = some Try.f4 from Try.func4] at h1
  simp only [Option.some.injEq] at h1
  subst h1
  rw [show Try.f4.body = some body4 by kernel_rfl] at h2
  simp only [Option.some.injEq] at h2
  subst h2
  have e : HOk W Try.prog Try.f4.ntmps (tr4 x0 x1 x2 v) body4 = (True ∧ True ∧ ((True ∧ LoopOk W Try.prog 61 lb (hh x0 x1 x2 v)) ∧ True)) := by kernel_rfl
  rw [e]
  exact ⟨trivial, trivial, ⟨trivial, loopOk W x0 x1 x2 v⟩, trivial⟩
theorem nf (W : World) (x0 x1 x2 v : Int) : evalC Try.prog W (G W) (tr4 x0 x1 x2 v) 4 [.agg [.int .u16 (.sym x0), .int .u8 (.sym x1), .int .i64 (.sym x2)], .one (.int .u8 (.sym v))] =
    bif (c0 x0 v && (sameS (SP v (p0 x0 x1 v)) (SP v (p0 x0 x1 v)) && sameB (BP x0 x1 x2 (p0 x0 x1 v)) (BP x0 x1 x2 (p0 x0 x1 v)))) then
      some (.one (.bool (.sym (bif !decide ((0 : Int) > 0) then gadd .u16 x0 (IntKind.u16.wrap v) == gadd .u16 x0 (IntKind.u16.wrap v) else false)))) else none := by kernel_rfl
theorem calls (W : World) (e : Env) (h : argsOk W e 0 shapes) : Calls Try.prog 4 ((argsTV e 0 shapes).map (TV.den fun _ => 0)).toArray W fun en W' => en = .returned (.bool true) ∧ Below W.heap.size W W' := by
  have h0 : 0 ≤ e.n 0 ∧ e.n 0 ≤ 65535 := rng_u16 h.1.1
  have hv : 0 ≤ e.n 3 ∧ e.n 3 ≤ 255 := rng_u8 h.2.1
  have key : evalC Try.prog W (G W) (tr4 (e.n 0) (e.n 1) (e.n 2) (e.n 3)) 4 [.agg [.int .u16 (.sym (e.n 0)), .int .u8 (.sym (e.n 1)), .int .i64 (.sym (e.n 2))], .one (.int .u8 (.sym (e.n 3)))] = some (.one (.bool (.sym true))) := by
    rw [nf, sameS_refl (by rfl), sameB_refl (by rfl)]
    have hc : c0 (e.n 0) (e.n 3) = true := by
      unfold c0
      rw [decide_eq_true hv.1, decide_eq_true hv.2, decide_eq_true h0.1, decide_eq_true h0.2]; rfl
    rw [hc, beq_self_eq_true]
    rfl
  refine (calls_of_evalC (gok W) (fhok W (e.n 0) (e.n 1) (e.n 2) (e.n 3)) key W (.refl W)).mono fun en w' ⟨⟨f, hf⟩, hbe⟩ => ⟨?_, hbe⟩
  rw [hf]
  rfl

theorem own : ownKnob Try.prog.godebug = none := by kernel_rfl

theorem lifted (os : Os) (started : os.Started) (H : Type) (enc : TypeId × Value → H) :
    ReturnsInHanded {} Try.checked os 4 .any (Rows.dmaCountsSpec.pre6 enc Try.prog Try.f4 Rows.dmaCountsRow.domain false) (Rows.dmaCountsSpec.post enc Try.prog Try.f4 false true false false) :=
  law_step (C := Try.checked) 2 own started (by kernel_rfl) Try.func4 (by kernel_rfl) (by kernel_rfl) rfl
    (fun ds hd => by
      match ds, hd with
      | [d0, d1], _ => rfl)
    (ChangeSpec.witness6 (enc := enc) (C := Try.checked) false ⟨#[], #[.agg #[.int .u16 0, .int .u8 0, .int .i64 0], .int .u8 0], []⟩ 8 (by kernel_rfl) (by kernel_rfl) (by kernel_rfl) (by kernel_rfl))
    (fun W base args hv hl _ _ htr => shape_walk (P := Try.prog) shapes (by kernel_rfl) calls W base args hv hl htr)

theorem over : Rows.dmaCountsRow.holds Try.pinned (OpenSpec.ofChange Rows.dmaCountsSpec) :=
  OpenClaim.holds_of_wide 4 Try.f4 rfl rfl rfl rfl rfl rfl rfl ⟨rfl, rfl, rfl, rfl, rfl⟩ rfl rfl rfl rfl rfl (by kernel_rfl) Try.func4 (by kernel_rfl)
    (of_decide_eq_true (by kernel_rfl)) (by unfold Func.isWrapper; first | (rw [if_pos (by decide +kernel)]; kernel_rfl) | (rw [if_neg (by decide +kernel)]; exact ⟨rfl, rfl⟩))
    (fun os started H enc _ => lifted os started H enc)

theorem proved : Rows.DmaCountsSaid := over
#print axioms proved
end Go.Proofs.Ytmjelkeanbckaaa.dmaCounts
