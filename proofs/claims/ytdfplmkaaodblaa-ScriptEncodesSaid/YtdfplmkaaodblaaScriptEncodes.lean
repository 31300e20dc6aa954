/- tstatelaw24.ScriptEncodes returns true for every input; no condition. -/
import Derived.Test.YtdfplmkaaodblaaRows
import Derived.Test.YtdfplmkaaodblaaBag
namespace Go.Proofs.Ytdfplmkaaodblaa.scriptEncodes
open Go Go.Sx Go.RowKit Go.Proofs.Ytdfplmkaaodblaa.dc
set_option maxRecDepth 100000
noncomputable def body4 : Code := match Try.f4.body with
  | some c => c
  | none => .skip
noncomputable def ops4 : Array Oper := match body4 with
  | .seq _ (.seq _ (.seq (.region _ ops _) _)) => ops
  | _ => #[]
noncomputable def o4 (k : Nat) : Oper := match ops4.toList[k]? with
  | some o => o
  | none => { dst := none, op := .assign (.tmp 0), type := 0, pos := "", after := #[], guard := none }
noncomputable def G4 (_ : World) : List (Nat × Sx.Spec) := [(8, specF FK)]
theorem gok4 (W : World) : GOk W Try.prog (G4 W) := gok_cons (known_spec W) (gok_nil W)
noncomputable def F4 (W : World) : SL → Mem → Gh → RG := runCalls Try.prog W (G4 W) 100000 32 ops4 [⟨1, eF W 13 14⟩, ⟨3, eF W 15 16⟩, ⟨4, sF 14 16 17 0 1⟩] 0
theorem cust4 (W : World) : CustOk W Try.prog 32 (.region 3 ops4 false) (F4 W) := by
  refine calls_cust (gok4 W) ?_ (by simp)
  intro c hc
  simp only [List.mem_cons, List.not_mem_nil, or_false] at hc
  rcases hc with rfl | rfl | rfl
  · exact enc_call (o := o4 1) (gf := 17) (by kernel_rfl) (by kernel_rfl) (by kernel_rfl) (by kernel_rfl) (by decide) ⟨Try.f17, Try.func17, by kernel_rfl, by kernel_rfl⟩ enc17
  · exact enc_call (o := o4 3) (gf := 18) (by kernel_rfl) (by kernel_rfl) (by kernel_rfl) (by kernel_rfl) (by decide) ⟨Try.f18, Try.func18, by kernel_rfl, by kernel_rfl⟩ enc18
  · exact same_call (o := o4 4) (by kernel_rfl) (by kernel_rfl) (by kernel_rfl) (by kernel_rfl) (by decide)
noncomputable def t4 (W : World) : HG := .seq .plain (.seq .plain (.seq (.cust (F4 W)) .plain))


def shapes : List ASh := [.rows [.bool, .bool, .bool, .bool, .bool, .bool, .bool, .bool, .int .u8, .int .u8], .one (.int .u8), .one (.int .u8), .one (.int .u8)]
theorem whole4 (W : World) (a : Option Addr) (n c : Nat) (x y z : Int) : (runG Try.prog W (G4 W) 100000 32 (t4 W) body4 (argSlots 0 [.one (.sl a n c), .one (.int .u8 (.sym x)), .one (.int .u8 (.sym y)), .one (.int .u8 (.sym z))]) noMem []).slim 0 [] [] [(8, false)] [] =
    .br (decide ((n : Int) > 100)) (.leaf .ret (.lit true) [(8, .one (.bool (.lit true)))] ⟨[], [], 0⟩ [])
   (.any fun a1 c1 => .any fun a2 c2 => .br (chk x y z == chk x y z) (.leaf .ret (.sym (rowS W a n c && (rowS W a n c && sameC ⟨5, 1, a1, 4 * min n 65536, c1, encL W a (min n 65536)⟩ ⟨5, 1, a2, 4 * min n 65536, c2, encL W a (min n 65536)⟩ a1 (4 * min n 65536) c1 a2 (4 * min n 65536) c2))) [(8, .one (.bool (.lit true)))] ⟨[], [], 0⟩ [⟨5, 1, a1, 4 * min n 65536, c1, encL W a (min n 65536)⟩, ⟨5, 1, a2, 4 * min n 65536, c2, encL W a (min n 65536)⟩])
   (.leaf .ret (.sym (rowS W a n c && (rowS W a n c && sameC ⟨5, 1, a1, 4 * min n 65536, c1, encL W a (min n 65536)⟩ ⟨5, 1, a2, 4 * min n 65536, c2, encL W a (min n 65536)⟩ a1 (4 * min n 65536) c1 a2 (4 * min n 65536) c2))) [(8, .one (.bool (.lit false)))] ⟨[], [], 0⟩ [⟨5, 1, a1, 4 * min n 65536, c1, encL W a (min n 65536)⟩, ⟨5, 1, a2, 4 * min n 65536, c2, encL W a (min n 65536)⟩])) := by kernel_rfl
theorem calls (W : World) (e : Env) (h : argsOk W e 0 shapes) : Calls Try.prog 4 ((argsTV e 0 shapes).map (TV.den fun _ => 0)).toArray W fun en W' => en = .returned (.bool true) ∧ Below W.heap.size W W' := by
  have hr : RowS W (e.a 0) (e.len 0) (e.cap 0) := rows_rowS h.1
  have hcalls := calls_of_runG (gok4 W) (n := 100000) (g := 4) Try.func4 (show Try.f4.body = some body4 by kernel_rfl) (t := t4 W) (args := [.one (.sl (e.a 0) (e.len 0) (e.cap 0)), .one (.int .u8 (.sym (e.n 1))), .one (.int .u8 (.sym (e.n 2))), .one (.int .u8 (.sym (e.n 3)))]) ?_ (by rw [show Try.f4.ntmps = 32 by kernel_rfl]; simp)
    (R := fun v _ => v = .one (.bool (.lit true))) (N := 0) (ks := []) (bs := []) (ke := [(8, false)]) (be := []) rfl rfl ?_
  · refine hcalls.mono ?_
    rintro en w' ⟨v, g, f, rfl, rfl, _, hbl⟩
    exact ⟨rfl, hbl⟩
  · have e : HGOk W Try.prog Try.f4.ntmps (t4 W) body4 = (True ∧ (True ∧ (CustOk W Try.prog 32 (.region 3 ops4 false) (F4 W) ∧ True))) := by kernel_rfl
    rw [e]
    exact ⟨trivial, trivial, cust4 W, trivial⟩
  · rw [show Try.f4.ntmps = 32 by kernel_rfl, whole4]
    refine ⟨fun _ => ⟨rfl, .inr rfl, [(false, [.bool (.lit true)])], .one (.bool (.lit true)), by kernel_rfl, rfl, rfl⟩, fun _ a1 c1 a2 c2 => ⟨fun _ => ⟨?_, .inr rfl, [(false, [.bool (.lit true)])], .one (.bool (.lit true)), by kernel_rfl, rfl, rfl⟩, fun hb => ?_⟩⟩
    · have h1 : rowS W (e.a 0) (e.len 0) (e.cap 0) = true := by unfold rowS; exact @decide_eq_true _ (Classical.propDecidable _) hr
      rw [SB.val_sym, h1]
      unfold sameC
      exact @decide_eq_true _ (Classical.propDecidable _) ⟨⟨rfl, rfl, rfl, rfl, rfl, rfl⟩, rfl, rfl, rfl, rfl, rfl, encL_bytes _ _ _⟩
    · rw [beq_self_eq_true] at hb
      cases hb

theorem own : ownKnob Try.prog.godebug = none := by kernel_rfl

theorem lifted (os : Os) (started : os.Started) (H : Type) (enc : TypeId × Value → H) :
    ReturnsInHanded {} Try.checked os 4 .any (Rows.scriptEncodesSpec.pre6 enc Try.prog Try.f4 Rows.scriptEncodesRow.domain false) (Rows.scriptEncodesSpec.post enc Try.prog Try.f4 false true false false) :=
  law_step (C := Try.checked) 4 own started (by kernel_rfl) Try.func4 (by kernel_rfl) (by kernel_rfl) rfl
    (fun ds hd => by
      match ds, hd with
      | [d0, d1, d2, d3], _ => rfl)
    (ChangeSpec.witness6 (enc := enc) (C := Try.checked) false ⟨#[], #[.slice none 0 0, .int .u8 0, .int .u8 0, .int .u8 0], []⟩ 8 (by kernel_rfl) (by kernel_rfl) (by kernel_rfl) (by kernel_rfl))
    (fun W base args hv hl _ _ htr => shape_walk (P := Try.prog) shapes (by kernel_rfl) calls W base args hv hl htr)

theorem over : Rows.scriptEncodesRow.holds Try.pinned (OpenSpec.ofChange Rows.scriptEncodesSpec) :=
  OpenClaim.holds_of_wide 4 Try.f4 rfl rfl rfl rfl rfl rfl rfl ⟨rfl, rfl, rfl, rfl, rfl⟩ rfl rfl rfl rfl rfl (by kernel_rfl) Try.func4 (by kernel_rfl)
    (of_decide_eq_true (by kernel_rfl)) (by unfold Func.isWrapper; first | (rw [if_pos (by decide +kernel)]; kernel_rfl) | (rw [if_neg (by decide +kernel)]; exact ⟨rfl, rfl⟩))
    (fun os started H enc _ => lifted os started H enc)

theorem proved : Rows.ScriptEncodesSaid := over
#print axioms proved
end Go.Proofs.Ytdfplmkaaodblaa.scriptEncodes
