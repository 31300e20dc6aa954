/- r9.Encode: the least opcode of an instruction. -/
import Derived.Test.YtdglgiaegjkinaaDoorClo
namespace Go.Proofs.YtdglgiaegjkinaaDoor
open Go Go.Sx Go.RowKit
set_option maxRecDepth 100000
noncomputable def G14 : List (Nat × Sx.Spec) := [(15, specV FDecF)]
theorem decF15_ok (W : World) : SpecOk W Tryd.prog 15 (specV FDecF) := by
  refine spec_of ⟨Tryd.f15, Tryd.func15, by kernel_rfl, by kernel_rfl⟩ ?_
  intro args c u f w hF hc hW
  unfold FDecF at hF
  split at hF <;> try contradiction
  rename_i c x
  simp only [Option.some.injEq, Prod.mk.injEq] at hF
  obtain ⟨rfl, rfl⟩ := hF
  rw [SB.val_sym, Bool.and_eq_true, decide_eq_true_eq, decide_eq_true_eq] at hc
  refine ⟨by simp, ?_⟩
  have hx : ((x.val.toNat : Nat) : Int) = x.val := by omega
  have h := dec_calls (g := 15) (fun _ h => dec15 h) w c.val x.val.toNat (by omega)
  rw [hx] at h
  refine h.mono ?_
  rintro en w' ⟨rfl, hb⟩
  refine ⟨?_, hb⟩
  rw [ins_list _ _ (by omega)]
  rfl
theorem g14_ok (W : World) : GOk W Tryd.prog G14 := gok_cons (decF15_ok W) (gok_nil W)
noncomputable def lb14 : Code := match bodyOf Tryd.f14 with
  | .seq _ (.seq (.seq _ (.block _ (.loop b))) _) => b
  | _ => .skip
def c8 (l : List Int) : List SV := [.int .i64 (.sym (l.getD 0 0)), .int .i64 (.sym (l.getD 1 0)), .int .i64 (.sym (l.getD 2 0)), .int .i64 (.sym (l.getD 3 0)), .int .i64 (.sym (l.getD 4 0)), .int .i64 (.sym (l.getD 5 0)), .int .i64 (.sym (l.getD 6 0)), .int .i64 (.sym (l.getD 7 0))]
def SP14 (c v : Int) : SL := [(0, .one (.int .i64 (.sym c))), (3, .one (.ptr 0 0)), (6, .one (.int .i64 (.sym v)))]
def BP14 (l : List Int) : List (Nat × BI) := [(0, ⟨40, c8 l, true⟩)]
def ks14 : List (Nat × Bool) := [(0, false), (3, false), (6, true)]
def ke14 : List (Nat × Bool) := [(4, true), (5, true)]
noncomputable def r14 (W : World) (c : Int) (l : List Int) (v : Int) : RG := (runG Tryd.prog W G14 100000 19 .plain lb14 (SP14 c v) ⟨[], BP14 l, 1⟩ []).slim 1 ks14 [(0, false)] ke14 []
def eq8 (a l : List Int) : Bool := decide (a.getD 0 0 = l.getD 0 0) && (decide (a.getD 1 0 = l.getD 1 0) && (decide (a.getD 2 0 = l.getD 2 0) && (decide (a.getD 3 0 = l.getD 3 0) && (decide (a.getD 4 0 = l.getD 4 0) && (decide (a.getD 5 0 = l.getD 5 0) && (decide (a.getD 6 0 = l.getD 6 0) && decide (a.getD 7 0 = l.getD 7 0)))))))
theorem r14_eq (W : World) (c : Int) (l : List Int) (v : Int) : r14 W c l v = .br (decide (v < 256)) (.br (eq8 (ins (c == 2) (w8 v).toNat) l) (.leaf .ret (.sym (okD v)) [(4, .one (.int .u8 (.sym (w8 v)))), (5, .one (.bool (.sym true)))] ⟨[], [], 1⟩ []) (.leaf .nrm (.sym (okD v)) (SP14 c (gadd .i64 v 1)) ⟨[], BP14 l, 1⟩ []))
   (.leaf (.exit 0) (.lit true) [] ⟨[], [], 1⟩ []) := by kernel_rfl
/-- The first of the last n opcodes that decode so. -/
def enc (k : Bool) (l : List Int) : Nat → Option Nat
  | 0 => none
  | n + 1 => bif eq8 (ins k (255 - n)) l then some (255 - n) else enc k l n
theorem enc_step {k : Bool} {l : List Int} {v : Nat} (hv : v < 256) : enc k l (256 - v) = bif eq8 (ins k v) l then some v else enc k l (256 - (v + 1)) := by
  have e : 256 - v = (255 - v) + 1 := by omega
  rw [e]
  show (bif eq8 (ins k (255 - (255 - v))) l then some (255 - (255 - v)) else enc k l (255 - v)) = _
  rw [show 255 - (255 - v) = v by omega, show 256 - (v + 1) = 255 - v by omega]
def End14 (z : Option Nat) : RG := match z with
  | some u => .leaf .ret (.lit true) [(4, .one (.int .u8 (.sym (u : Int)))), (5, .one (.bool (.sym true)))] ⟨[], [], 1⟩ []
  | none => .leaf (.exit 0) (.lit true) [] ⟨[], [], 1⟩ []
structure Inv14 (c : Int) (l : List Int) (v : Nat) : Prop where
  le : v ≤ 256
  sc : enc (c == 2) l (256 - v) = enc (c == 2) l 256
theorem step14 (W : World) (c : Int) (l : List Int) : StepOk (W : Bs) Tryd.prog G14 100000 19 .plain lb14 1 ks14 [(0, false)] ke14 [] (Inv14 c l) (fun v => 256 - v) (fun v => SP14 c (v : Int)) (fun _ => BP14 l) (fun _ => []) (End14 (enc (c == 2) l 256)) := by
  constructor
  intro v h
  have hr := r14_eq W c l (v : Int)
  unfold r14 at hr
  rw [show (Bs.of W).W = W from rfl, hr]
  obtain ⟨hle, hsc⟩ := h
  constructor
  · intro hv
    have hv : v < 256 := by have := of_decide_eq_true hv; omega
    have hvc : (SB.sym (okD (v : Int))).val = true := by
      rw [SB.val_sym]
      unfold okD
      rw [w8_nat hv, decide_eq_true (show (0 : Int) ≤ (v : Int) by omega), decide_eq_true (show (v : Int) < 256 by omega)]
      rfl
    have hs := enc_step (k := c == 2) (l := l) hv
    rw [w8_nat hv, Int.toNat_natCast]
    constructor
    · intro he
      rw [he, cond_true, hsc] at hs
      refine ⟨hvc, .inr ⟨by simp, fun f a w hst e' he' => ?_⟩⟩
      rw [hs]
      exact ⟨he', f, hst⟩
    · intro he
      rw [he, cond_false] at hs
      refine ⟨hvc, .inl ⟨rfl, v + 1, ⟨by omega, by rw [← hsc, hs]⟩, by omega, ?_, rfl, rfl⟩⟩
      have e : gadd .i64 (v : Int) 1 = ((v + 1 : Nat) : Int) := by
        unfold gadd
        rw [IntKind.wrap_i64]
        omega
      rw [e]
  · intro hv
    have hv := of_decide_eq_false hv
    refine ⟨rfl, .inr ⟨by simp, fun f a w hst e' he' => ?_⟩⟩
    rw [show 256 - v = 0 by omega] at hsc
    rw [← hsc]
    exact ⟨he', f, hst⟩
noncomputable def h14 (c : Int) (l : List Int) : LG := .at_ true ks14 [(0, false)] 1 (SP14 c 0) (BP14 l) [] (End14 (enc (c == 2) l 256))
theorem loop14 {W : World} (c : Int) (l : List Int) : LoopGOk (W : Bs) Tryd.prog 19 lb14 (h14 c l) := by
  refine loopG_step (t := .plain) (g14_ok W) (hgB_ok (W := (W : Bs)) (P := Tryd.prog) (nt := 19) .plain lb14 rfl) rfl rfl (step14 W c l) ?_
  intro _
  exact ⟨0, ⟨by omega, rfl⟩, rfl, rfl, .inl rfl⟩
noncomputable def t14 (h : LG) : HG := .seq .plain (.seq (.seq .plain (.block (.loop h))) .plain)
noncomputable def h14z (c : Int) (l : List Int) (z : Option Nat) : LG := .at_ true ks14 [(0, false)] 1 (SP14 c 0) (BP14 l) [] (End14 z)
noncomputable def x14 (W : World) (c : Int) (l : List Int) (z : Option Nat) : RG := (runG Tryd.prog W G14 100000 19 (t14 (h14z c l z)) (bodyOf Tryd.f14) (argSlots 0 [.one (.int .i64 (.sym c)), .agg (c8 l)]) noMem []).slim 1 [] [] [(4, false), (5, false)] []
noncomputable def v14 (c : Int) (l : List Int) : Bool := true && (sameS (SP14 c 0) (SP14 c 0) && (sameB (BP14 l) (BP14 l) && @decide (([] : Gh) = []) (Classical.propDecidable _)))
theorem x14_eq (W : World) (c : Int) (l : List Int) (u : Nat) : x14 W c l (some u) = .leaf .ret (.sym (v14 c l)) [(4, .one (.int .u8 (.sym (u : Int)))), (5, .one (.bool (.sym true)))] ⟨[], [], 1⟩ [] := by kernel_rfl
theorem enc14 (W : World) (c : Int) (l : List Int) {u : Nat} (hu : enc (c == 2) l 256 = some u) : Calls Tryd.prog 14 #[.int .i64 c, .agg (dens (fun _ => 0) (c8 l))] W fun en w' => en = .returned (.tuple #[.int .u8 (u : Int), .bool true]) ∧ Below W.heap.size W w' := by
  have hcalls := calls_of_runG (g14_ok W) (n := 100000) (g := 14) Tryd.func14 (show Tryd.f14.body = some (bodyOf Tryd.f14) by kernel_rfl) (t := t14 (h14z c l (some u))) (args := [.one (.int .i64 (.sym c)), .agg (c8 l)]) ?_ (by rw [show Tryd.f14.ntmps = 19 by kernel_rfl]; simp)
    (R := fun v _ => v = .tup [(false, [.int .u8 (.sym (u : Int))]), (false, [.bool (.sym true)])]) (N := 1) (ks := []) (bs := []) (ke := [(4, false), (5, false)]) (be := []) rfl rfl ?_
  · refine hcalls.mono ?_
    rintro en w' ⟨v, g, f, rfl, rfl, _, hb⟩
    exact ⟨rfl, hb⟩
  · have e : HGOk (W : Bs) Tryd.prog Tryd.f14.ntmps (t14 (h14z c l (some u))) (bodyOf Tryd.f14) = (True ∧ (True ∧ LoopGOk (W : Bs) Tryd.prog 19 lb14 (h14z c l (some u))) ∧ True) := by kernel_rfl
    rw [e]
    have h := loop14 (W := W) c l
    unfold h14 at h
    rw [hu] at h
    exact ⟨trivial, ⟨trivial, h⟩, trivial⟩
  · have hx := x14_eq W c l u
    unfold x14 at hx
    rw [show Tryd.f14.ntmps = 19 by kernel_rfl, hx]
    refine ⟨?_, .inr rfl, [(false, [.int .u8 (.sym (u : Int))]), (false, [.bool (.sym true)])], _, by kernel_rfl, rfl, rfl⟩
    rw [SB.val_sym]
    unfold v14
    rw [sameS_refl (by rfl), sameB_refl (by rfl), @decide_eq_true _ (Classical.propDecidable _) rfl]
    rfl
def F14 : List TV → Option (SB × TV)
  | [.one (.int .i64 c), .agg [.int .i64 a0, .int .i64 a1, .int .i64 a2, .int .i64 a3, .int .i64 a4, .int .i64 a5, .int .i64 a6, .int .i64 a7]] =>
    some (.sym (enc (c.val == 2) [a0.val, a1.val, a2.val, a3.val, a4.val, a5.val, a6.val, a7.val] 256).isSome, .tup [(false, [.int .u8 (.sym (((enc (c.val == 2) [a0.val, a1.val, a2.val, a3.val, a4.val, a5.val, a6.val, a7.val] 256).getD 0 : Nat) : Int))]), (false, [.bool (.lit true)])])
  | _ => none
theorem spec14 (W : World) : SpecOk W Tryd.prog 14 (specV F14) := by
  refine spec_of ⟨Tryd.f14, Tryd.func14, by kernel_rfl, by kernel_rfl⟩ ?_
  intro args c u f w hF hc hW
  unfold F14 at hF
  split at hF <;> try contradiction
  rename_i c a0 a1 a2 a3 a4 a5 a6 a7
  simp only [Option.some.injEq, Prod.mk.injEq] at hF
  obtain ⟨rfl, rfl⟩ := hF
  rw [SB.val_sym] at hc
  obtain ⟨u, hu⟩ := Option.isSome_iff_exists.1 hc
  refine ⟨by simp, ?_⟩
  have h := enc14 w c.val [a0.val, a1.val, a2.val, a3.val, a4.val, a5.val, a6.val, a7.val] hu
  rw [hu]
  refine h.mono ?_
  rintro en w' ⟨rfl, hb⟩
  exact ⟨rfl, hb⟩
end Go.Proofs.YtdglgiaegjkinaaDoor
