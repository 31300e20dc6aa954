/- tstatelaw24.ScriptDecodes returns true for every input; no condition. -/
import Derived.Test.YtdfplmkaaodblaaRows
import Derived.Test.YtdfplmkaaodblaaScC
namespace Go.Proofs.Ytdfplmkaaodblaa.scriptDecodes
open Go Go.Sx Go.RowKit Go.Proofs.Ytdfplmkaaodblaa.dc Go.Proofs.Ytdfplmkaaodblaa.mk
set_option maxRecDepth 100000
noncomputable def body3 : Code := match Try.f3.body with
  | some c => c
  | none => .skip
noncomputable def opsA3 : Array Oper := match body3 with
  | .seq _ (.seq _ (.seq (.region _ ops _) _)) => ops
  | _ => #[]
noncomputable def opsB3 : Array Oper := match body3 with
  | .seq _ (.seq _ (.seq _ (.seq (.region _ ops _) _))) => ops
  | _ => #[]
noncomputable def G3 (_ : World) : List (Nat × Sx.Spec) := [(8, specF FK)]
theorem gok3 (W : World) : GOk W Try.prog (G3 W) := gok_cons (known_spec W) (gok_nil W)
noncomputable def FA3 (W : World) : SL → Mem → Gh → RG := runCalls Try.prog W (G3 W) 100000 38 opsA3 [⟨2, scrF W 16 (.const (.int .i64 30)) 17⟩] 0
noncomputable def FB3 (W : World) : SL → Mem → Gh → RG := runCalls Try.prog W (G3 W) 100000 38 opsB3 [⟨1, decW W 18 19⟩, ⟨3, decW W 20 21⟩, ⟨4, sameO 1 2 19 21 22⟩, ⟨7, onYes opsB3 (opAt opsB3 7) (decO 0 24 25)⟩, ⟨9, onYes opsB3 (opAt opsB3 9) (decO 0 26 27)⟩, ⟨10, onYes opsB3 (opAt opsB3 10) (sameO 3 4 25 27 28)⟩] 0
noncomputable def t3 (W : World) : HG := .seq .plain (.seq .plain (.seq (.cust (FA3 W)) (.seq (.cust (FB3 W)) .plain)))


def shapes : List ASh := [.ints .u8, .ints .i64]
theorem custA3 (W : World) : CustOk W Try.prog 38 (.region 3 opsA3 false) (FA3 W) := by
  refine calls_cust (W := Bs.of W) (gok3 W) ?_ (by simp)
  intro c hc
  simp only [List.mem_cons, List.not_mem_nil, or_false] at hc
  subst hc
  exact callG_of (o := opAt opsA3 2) (by kernel_rfl) (by kernel_rfl) (scrF_ok (W := Bs.of W) (by kernel_rfl) (by kernel_rfl) (by decide))
theorem custB3 (W : World) : CustOk W Try.prog 38 (.region 4 opsB3 false) (FB3 W) := by
  refine calls_cust (W := Bs.of W) (gok3 W) ?_ (by simp)
  intro c hc
  simp only [List.mem_cons, List.not_mem_nil, or_false] at hc
  rcases hc with rfl | rfl | rfl | rfl | rfl | rfl
  · exact callG_of (o := opAt opsB3 1) (by kernel_rfl) (by kernel_rfl) (decW_ok (W := Bs.of W) (by kernel_rfl) (by kernel_rfl) (by decide) named12 decOk12)
  · exact callG_of (o := opAt opsB3 3) (by kernel_rfl) (by kernel_rfl) (decW_ok (W := Bs.of W) (by kernel_rfl) (by kernel_rfl) (by decide) named13 decOk13)
  · exact callG_of (o := opAt opsB3 4) (by kernel_rfl) (by kernel_rfl) (sameO_ok (by kernel_rfl) (by kernel_rfl) (by decide))
  · exact callG_yes (o := opAt opsB3 7) (by kernel_rfl) (decO_ok (by kernel_rfl) (by kernel_rfl) (by decide) named12 decOk12)
  · exact callG_yes (o := opAt opsB3 9) (by kernel_rfl) (decO_ok (by kernel_rfl) (by kernel_rfl) (by decide) named13 decOk13)
  · exact callG_yes (o := opAt opsB3 10) (by kernel_rfl) (sameO_ok (by kernel_rfl) (by kernel_rfl) (by decide))
noncomputable def c3 (W : World) (a b : Option Addr) (n c k d : Nat) (q : Scr) (a0 : Option Addr) (c0 : Nat) (a1 : Option Addr) (c1 : Nat) (a2 : Option Addr) (c2 : Nat) (a3 : Option Addr) (c3 : Nat) (a4 : Option Addr) (c4 : Nat) : Bool :=
  yes (RowOk W .i64 b k d ∧ (SI.lit 0).val = 0 ∧ 0 ≤ (SI.lit 30).val ∧ (SI.lit 30).val ≤ 900) && (yes (RowOk W .u8 a n c ∧ n ≤ 1000000) && (yes (RowOk W .u8 a n c ∧ n ≤ 1000000) && (yes (OkE (decR' a1 n c1 (byL W a n)) a1 (cnt n) c1 ∧ OkE (decR' a2 n c2 (byL W a n)) a2 (cnt n) c2 ∧ unE (decR' a1 n c1 (byL W a n)).xs = unE (decR' a2 n c2 (byL W a n)).xs) &&
   (yes (OkZ (gZ a0 q.val.2.1 c0 q.val.1) a0 q.val.2.1 c0 ∧ Ctl (unB (gZ a0 q.val.2.1 c0 q.val.1).xs) ∧ q.val.2.1 ≤ 1000000) && (yes (OkZ (gZ a0 q.val.2.1 c0 q.val.1) a0 q.val.2.1 c0 ∧ Ctl (unB (gZ a0 q.val.2.1 c0 q.val.1).xs) ∧ q.val.2.1 ≤ 1000000) &&
    yes (OkE (decR' a3 q.val.2.1 c3 (unB (gZ a0 q.val.2.1 c0 q.val.1).xs)) a3 (cnt q.val.2.1) c3 ∧ OkE (decR' a4 q.val.2.1 c4 (unB (gZ a0 q.val.2.1 c0 q.val.1).xs)) a4 (cnt q.val.2.1) c4 ∧ unE (decR' a3 q.val.2.1 c3 (unB (gZ a0 q.val.2.1 c0 q.val.1).xs)).xs = unE (decR' a4 q.val.2.1 c4 (unB (gZ a0 q.val.2.1 c0 q.val.1).xs)).xs))))))
theorem whole3 (W : World) (a b : Option Addr) (n c k d : Nat) : (runG Try.prog W (G3 W) 100000 38 (t3 W) body3 (argSlots 0 [.one (.sl a n c), .one (.sl b k d)]) noMem []).slim 0 [] [] [(4, false)] [] =
  .br (bif decide ((n : Int) > 400) then true else decide ((k : Int) > 200)) (.leaf .ret (.lit true) [(4, .one (.bool (.lit true)))] ⟨[], [], 0⟩ [])
   (.pick scr0 fun q => .any fun a0 c0 => .any fun a1 c1 => .any fun a2 c2 => .any fun a3 c3' => .any fun a4 c4 => .leaf .ret (.sym (c3 W a b n c k d q a0 c0 a1 c1 a2 c2 a3 c3' a4 c4)) [(4, .one (.bool (.lit true)))] ⟨[], [], 0⟩
     [gZ a0 q.val.2.1 c0 q.val.1, decR' a1 n c1 (byL W a n), decR' a2 n c2 (byL W a n), decR' a3 q.val.2.1 c3' (unB (gZ a0 q.val.2.1 c0 q.val.1).xs), decR' a4 q.val.2.1 c4 (unB (gZ a0 q.val.2.1 c0 q.val.1).xs)]) := by kernel_rfl
theorem calls (W : World) (e : Env) (h : argsOk W e 0 shapes) : Calls Try.prog 3 ((argsTV e 0 shapes).map (TV.den fun _ => 0)).toArray W fun en W' => en = .returned (.bool true) ∧ Below W.heap.size W W' := by
  have hr : RowOk W .u8 (e.a 0) (e.len 0) (e.cap 0) := h.1
  have hr2 : RowOk W .i64 (e.a 1) (e.len 1) (e.cap 1) := h.2.1
  have hcalls := calls_of_runG (gok3 W) (n := 100000) (g := 3) Try.func3 (show Try.f3.body = some body3 by kernel_rfl) (t := t3 W) (args := [.one (.sl (e.a 0) (e.len 0) (e.cap 0)), .one (.sl (e.a 1) (e.len 1) (e.cap 1))]) ?_ (by rw [show Try.f3.ntmps = 38 by kernel_rfl]; simp)
    (R := fun v _ => v = .one (.bool (.lit true))) (N := 0) (ks := []) (bs := []) (ke := [(4, false)]) (be := []) rfl rfl ?_
  · refine hcalls.mono ?_
    rintro en w' ⟨v, g, f, rfl, rfl, _, hbl⟩
    exact ⟨rfl, hbl⟩
  · have e : HGOk W Try.prog Try.f3.ntmps (t3 W) body3 = (True ∧ (True ∧ (CustOk W Try.prog 38 (.region 3 opsA3 false) (FA3 W) ∧ (CustOk W Try.prog 38 (.region 4 opsB3 false) (FB3 W) ∧ True)))) := by kernel_rfl
    rw [e]
    exact ⟨trivial, trivial, custA3 W, custB3 W, trivial⟩
  · rw [show Try.f3.ntmps = 38 by kernel_rfl, whole3]
    refine ⟨fun _ => ⟨rfl, .inr rfl, [(false, [.bool (.lit true)])], .one (.bool (.lit true)), by kernel_rfl, rfl, rfl⟩, fun hb q a0 c0 a1 c1 a2 c2 a3 c3' a4 c4 => ⟨?_, .inr rfl, [(false, [.bool (.lit true)])], .one (.bool (.lit true)), by kernel_rfl, rfl, rfl⟩⟩
    have hn : e.len 0 ≤ 400 := by
      cases hd : decide (((e.len 0 : Nat) : Int) > 400) with
      | true => rw [hd, cond_true] at hb; cases hb
      | false => have := of_decide_eq_false hd; omega
    have hq := q.property
    have hz : OkZ (gZ a0 q.val.2.1 c0 q.val.1) a0 q.val.2.1 c0 ∧ Ctl (unB (gZ a0 q.val.2.1 c0 q.val.1).xs) ∧ q.val.2.1 ≤ 1000000 := by
      refine ⟨okZ_mk, ?_, hq.2⟩
      unfold gZ
      rw [unB_bys]
      exact hq.1
    rw [SB.val_sym]
    unfold c3
    rw [yes_of ⟨hr2, rfl, by decide, by decide⟩, yes_of ⟨hr, by omega⟩, yes_of ⟨okE_dec, okE_dec, rfl⟩, yes_of hz, yes_of ⟨okE_dec, okE_dec, rfl⟩]
    rfl

theorem own : ownKnob Try.prog.godebug = none := by kernel_rfl

theorem lifted (os : Os) (started : os.Started) (H : Type) (enc : TypeId × Value → H) :
    ReturnsInHanded {} Try.checked os 3 .any (Rows.scriptDecodesSpec.pre6 enc Try.prog Try.f3 Rows.scriptDecodesRow.domain false) (Rows.scriptDecodesSpec.post enc Try.prog Try.f3 false true false false) :=
  law_step (C := Try.checked) 2 own started (by kernel_rfl) Try.func3 (by kernel_rfl) (by kernel_rfl) rfl
    (fun ds hd => by
      match ds, hd with
      | [d0, d1], _ => rfl)
    (ChangeSpec.witness6 (enc := enc) (C := Try.checked) false ⟨#[], #[.slice none 0 0, .slice none 0 0], []⟩ 8 (by kernel_rfl) (by kernel_rfl) (by kernel_rfl) (by kernel_rfl))
    (fun W base args hv hl _ _ htr => shape_walk (P := Try.prog) shapes (by kernel_rfl) calls W base args hv hl htr)

theorem over : Rows.scriptDecodesRow.holds Try.pinned (OpenSpec.ofChange Rows.scriptDecodesSpec) :=
  OpenClaim.holds_of_wide 3 Try.f3 rfl rfl rfl rfl rfl rfl rfl ⟨rfl, rfl, rfl, rfl, rfl⟩ rfl rfl rfl rfl rfl (by kernel_rfl) Try.func3 (by kernel_rfl)
    (of_decide_eq_true (by kernel_rfl)) (by unfold Func.isWrapper; first | (rw [if_pos (by decide +kernel)]; kernel_rfl) | (rw [if_neg (by decide +kernel)]; exact ⟨rfl, rfl⟩))
    (fun os started H enc _ => lifted os started H enc)

theorem proved : Rows.ScriptDecodesSaid := over
#print axioms proved
end Go.Proofs.Ytdfplmkaaodblaa.scriptDecodes
