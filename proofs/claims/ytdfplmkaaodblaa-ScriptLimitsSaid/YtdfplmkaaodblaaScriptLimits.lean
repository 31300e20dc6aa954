/- tstatelaw24.ScriptLimits returns true for every input; no condition. -/
import Derived.Test.YtdfplmkaaodblaaRows
import Derived.Test.YtdfplmkaaodblaaMkS
import Derived.Test.YtdfplmkaaodblaaMakeA
namespace Go.Proofs.Ytdfplmkaaodblaa.scriptLimits
open Go Go.Sx Go.RowKit Go.Proofs.Ytdfplmkaaodblaa.dc Go.Proofs.Ytdfplmkaaodblaa.mk
set_option maxRecDepth 100000
noncomputable def body7 : Code := match Try.f7.body with
  | some c => c
  | none => .skip
noncomputable def opsA7 : Array Oper := match body7 with
  | .seq _ (.seq _ (.seq (.region _ ops _) _)) => ops
  | _ => #[]
noncomputable def opsB7 : Array Oper := match body7 with
  | .seq _ (.seq _ (.seq _ (.seq (.region _ ops _) _))) => ops
  | _ => #[]
noncomputable def opsC7 : Array Oper := match body7 with
  | .seq _ (.seq _ (.seq _ (.seq _ (.seq (.region _ ops _) _)))) => ops
  | _ => #[]
noncomputable def G7 (_ : World) : List (Nat × Sx.Spec) := [(8, specF FK)]
theorem gok7 (W : World) : GOk W Try.prog (G7 W) := gok_cons (known_spec W) (gok_nil W)
noncomputable def FA7 (W : World) : SL → Mem → Gh → RG := runCalls Try.prog W (G7 W) 100000 36 opsA7 [⟨5, mk 5 1 zerosB 14 15⟩] 0
noncomputable def FB7 (W : World) : SL → Mem → Gh → RG := runCalls Try.prog W (G7 W) 100000 36 opsB7 [⟨1, mk 32 10 zerosE 16 17⟩] 0
noncomputable def FC7 (W : World) : SL → Mem → Gh → RG := runCalls Try.prog W (G7 W) 100000 36 opsC7 [⟨1, decO 0 18 19⟩, ⟨5, eqT 20 22 23⟩, ⟨8, onYes opsC7 (opAt opsC7 8) (encO 1 25 26)⟩, ⟨13, onYes opsC7 (opAt opsC7 13) (eqT 27 30 31)⟩] 0
noncomputable def t7 (W : World) : HG := .seq .plain (.seq .plain (.seq (.cust (FA7 W)) (.seq (.cust (FB7 W)) (.seq (.cust (FC7 W)) .plain))))


def shapes : List ASh := [.one (.int .i64), .one (.int .i64)]
theorem custA7 (W : World) : CustOk W Try.prog 36 (.region 2 opsA7 false) (FA7 W) := by
  refine calls_cust (W := Bs.of W) (gok7 W) ?_ (by simp)
  intro c hc
  simp only [List.mem_cons, List.not_mem_nil, or_false] at hc
  subst hc
  exact callG_of (o := opAt opsA7 5) (by kernel_rfl) (by kernel_rfl) (mkB_ok (by kernel_rfl) (by kernel_rfl) (by decide))
theorem custB7 (W : World) : CustOk W Try.prog 36 (.region 3 opsB7 false) (FB7 W) := by
  refine calls_cust (W := Bs.of W) (gok7 W) ?_ (by simp)
  intro c hc
  simp only [List.mem_cons, List.not_mem_nil, or_false] at hc
  subst hc
  exact callG_of (o := opAt opsB7 1) (by kernel_rfl) (by kernel_rfl) (mkE_ok (by kernel_rfl) (by kernel_rfl) (by decide))
theorem custC7 (W : World) : CustOk W Try.prog 36 (.region 4 opsC7 false) (FC7 W) := by
  refine calls_cust (W := Bs.of W) (gok7 W) ?_ (by simp)
  intro c hc
  simp only [List.mem_cons, List.not_mem_nil, or_false] at hc
  rcases hc with rfl | rfl | rfl | rfl
  · exact callG_of (o := opAt opsC7 1) (by kernel_rfl) (by kernel_rfl) (decO_ok (by kernel_rfl) (by kernel_rfl) (by decide) named12 decOk12)
  · exact callG_of (o := opAt opsC7 5) (by kernel_rfl) (by kernel_rfl) (eqT_ok (by kernel_rfl) (by kernel_rfl) (by decide))
  · exact callG_yes (o := opAt opsC7 8) (by kernel_rfl) (encO_ok (by kernel_rfl) (by kernel_rfl) (by decide) named17 enc17)
  · exact callG_yes (o := opAt opsC7 13) (by kernel_rfl) (eqT_ok (by kernel_rfl) (by kernel_rfl) (by decide))
def N7 (x : Int) : Int := gadd .i64 65535 (plc x 3)
def L7 (x y : Int) : Int := gadd .i64 (gmul .i64 4 (N7 x)) (plc y 4)
def A7 (x y : Int) (a : Option Addr) (c : Nat) : Own := ⟨5, 1, a, (L7 x y).toNat, c, zerosB (L7 x y).toNat⟩
def B7 (x : Int) (a : Option Addr) (c : Nat) : Own := ⟨32, 10, a, (N7 x).toNat, c, zerosE (N7 x).toNat⟩
noncomputable def c7 (x y : Int) (a0 : Option Addr) (c0 : Nat) (a1 : Option Addr) (c1 : Nat) : Bool :=
  (decide (0 ≤ L7 x y) && decide (L7 x y ≤ 1000000)) && ((decide (0 ≤ N7 x) && decide (N7 x ≤ 1000000)) && (yes (OkZ (A7 x y a0 c0) a0 (L7 x y).toNat c0 ∧ Ctl (unB (A7 x y a0 c0).xs) ∧ (L7 x y).toNat ≤ 1000000) && (((cnt (L7 x y).toNat : Nat) : Int) == gmin (N7 x) 65536 &&
    (yes (OkE (B7 x a1 c1) a1 (N7 x).toNat c1) && ((4 * min (N7 x).toNat 65536 : Nat) : Int) == gmul .i64 4 (gmin (N7 x) 65536)))))
theorem whole7 (W : World) (x y : Int) : (runG Try.prog W (G7 W) 100000 36 (t7 W) body7 (argSlots 0 [.one (.int .i64 (.sym x)), .one (.int .i64 (.sym y))]) noMem []).slim 0 [] [] [(4, false)] [] =
   .any fun a0 c0 => .any fun a1 c1 => .any fun a2 c2 => .any fun a3 c3 => .leaf .ret (.sym (c7 x y a0 c0 a1 c1)) [(4, .one (.bool (.lit true)))] ⟨[], [], 0⟩
     [A7 x y a0 c0, B7 x a1 c1, decR' a2 (L7 x y).toNat c2 (unB (A7 x y a0 c0).xs), encR' a3 (N7 x).toNat c3 (unE (B7 x a1 c1).xs)] := by kernel_rfl
theorem nums (x y : Int) : (65535 ≤ N7 x ∧ N7 x ≤ 65537) ∧ 4 * N7 x ≤ L7 x y ∧ L7 x y ≤ 4 * N7 x + 3 := by
  have h1 := plc_range x (k := 3) (by decide) (by decide)
  have h2 := plc_range y (k := 4) (by decide) (by decide)
  have e1 : N7 x = 65535 + plc x 3 := by
    unfold N7 gadd
    rw [IntKind.wrap_i64]
    omega
  have e2 : gmul .i64 4 (N7 x) = 4 * N7 x := by
    unfold gmul
    rw [IntKind.wrap_i64]
    omega
  have e3 : L7 x y = 4 * N7 x + plc y 4 := by
    unfold L7
    rw [e2]
    unfold gadd
    rw [IntKind.wrap_i64]
    omega
  omega
theorem ctl_zeros (n : Nat) : Ctl (List.replicate n 0) := by
  intro k z hz
  rw [List.getElem?_replicate] at hz
  split at hz
  · simp only [Option.some.injEq] at hz
    subst hz
    decide
  · cases hz
theorem c7_ok (x y : Int) (a0 : Option Addr) (c0 : Nat) (a1 : Option Addr) (c1 : Nat) : c7 x y a0 c0 a1 c1 = true := by
  obtain ⟨⟨h1, h2⟩, h3, h4⟩ := nums x y
  have hz : OkZ (A7 x y a0 c0) a0 (L7 x y).toNat c0 ∧ Ctl (unB (A7 x y a0 c0).xs) ∧ (L7 x y).toNat ≤ 1000000 := by
    refine ⟨okZ_mk, ?_, by omega⟩
    unfold A7 zerosB
    rw [unB_bys]
    exact ctl_zeros _
  have he : OkE (B7 x a1 c1) a1 (N7 x).toNat c1 := okE_mk
  have e1 : gmin (N7 x) 65536 = ((min (N7 x).toNat 65536 : Nat) : Int) := by
    unfold gmin
    split <;> omega
  have e2 : cnt (L7 x y).toNat = min (N7 x).toNat 65536 := by
    unfold cnt
    omega
  have e3 : gmul .i64 4 ((min (N7 x).toNat 65536 : Nat) : Int) = ((4 * min (N7 x).toNat 65536 : Nat) : Int) := by
    unfold gmul
    rw [IntKind.wrap_i64]
    omega
  unfold c7
  rw [decide_eq_true (show 0 ≤ L7 x y by omega), decide_eq_true (show L7 x y ≤ 1000000 by omega), decide_eq_true (show 0 ≤ N7 x by omega), decide_eq_true (show N7 x ≤ 1000000 by omega), yes_of hz, yes_of he, e1, e2, e3, beq_self_eq_true, beq_self_eq_true]
  rfl
theorem calls (W : World) (e : Env) (_ : argsOk W e 0 shapes) : Calls Try.prog 7 ((argsTV e 0 shapes).map (TV.den fun _ => 0)).toArray W fun en W' => en = .returned (.bool true) ∧ Below W.heap.size W W' := by
  have hcalls := calls_of_runG (gok7 W) (n := 100000) (g := 7) Try.func7 (show Try.f7.body = some body7 by kernel_rfl) (t := t7 W) (args := [.one (.int .i64 (.sym (e.n 0))), .one (.int .i64 (.sym (e.n 1)))]) ?_ (by rw [show Try.f7.ntmps = 36 by kernel_rfl]; simp)
    (R := fun v _ => v = .one (.bool (.lit true))) (N := 0) (ks := []) (bs := []) (ke := [(4, false)]) (be := []) rfl rfl ?_
  · refine hcalls.mono ?_
    rintro en w' ⟨v, g, f, rfl, rfl, _, hbl⟩
    exact ⟨rfl, hbl⟩
  · have e : HGOk W Try.prog Try.f7.ntmps (t7 W) body7 = (True ∧ (True ∧ (CustOk W Try.prog 36 (.region 2 opsA7 false) (FA7 W) ∧ (CustOk W Try.prog 36 (.region 3 opsB7 false) (FB7 W) ∧ (CustOk W Try.prog 36 (.region 4 opsC7 false) (FC7 W) ∧ True))))) := by kernel_rfl
    rw [e]
    exact ⟨trivial, trivial, custA7 W, custB7 W, custC7 W, trivial⟩
  · rw [show Try.f7.ntmps = 36 by kernel_rfl, whole7]
    exact fun a0 c0 a1 c1 a2 c2 a3 c3 => ⟨c7_ok _ _ _ _ _ _, .inr rfl, [(false, [.bool (.lit true)])], .one (.bool (.lit true)), by kernel_rfl, rfl, rfl⟩

theorem own : ownKnob Try.prog.godebug = none := by kernel_rfl

theorem lifted (os : Os) (started : os.Started) (H : Type) (enc : TypeId × Value → H) :
    ReturnsInHanded {} Try.checked os 7 .any (Rows.scriptLimitsSpec.pre6 enc Try.prog Try.f7 Rows.scriptLimitsRow.domain false) (Rows.scriptLimitsSpec.post enc Try.prog Try.f7 false true false false) :=
  law_step (C := Try.checked) 2 own started (by kernel_rfl) Try.func7 (by kernel_rfl) (by kernel_rfl) rfl
    (fun ds hd => by
      match ds, hd with
      | [d0, d1], _ => rfl)
    (ChangeSpec.witness6 (enc := enc) (C := Try.checked) false ⟨#[], #[.int .i64 0, .int .i64 0], []⟩ 8 (by kernel_rfl) (by kernel_rfl) (by kernel_rfl) (by kernel_rfl))
    (fun W base args hv hl _ _ htr => shape_walk (P := Try.prog) shapes (by kernel_rfl) calls W base args hv hl htr)

theorem over : Rows.scriptLimitsRow.holds Try.pinned (OpenSpec.ofChange Rows.scriptLimitsSpec) :=
  OpenClaim.holds_of_wide 7 Try.f7 rfl rfl rfl rfl rfl rfl rfl ⟨rfl, rfl, rfl, rfl, rfl⟩ rfl rfl rfl rfl rfl (by kernel_rfl) Try.func7 (by kernel_rfl)
    (of_decide_eq_true (by kernel_rfl)) (by unfold Func.isWrapper; first | (rw [if_pos (by decide +kernel)]; kernel_rfl) | (rw [if_neg (by decide +kernel)]; exact ⟨rfl, rfl⟩))
    (fun os started H enc _ => lifted os started H enc)

theorem proved : Rows.ScriptLimitsSaid := over
#print axioms proved
end Go.Proofs.Ytdfplmkaaodblaa.scriptLimits
