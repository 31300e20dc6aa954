/- tstatelaw24.ScriptRoundTrips returns true for every input; no condition. -/
import Derived.Test.YtdfplmkaaodblaaRows
import Derived.Test.YtdfplmkaaodblaaMkC
namespace Go.Proofs.Ytdfplmkaaodblaa.scriptRoundTrips
open Go Go.Sx Go.RowKit Go.Proofs.Ytdfplmkaaodblaa.dc Go.Proofs.Ytdfplmkaaodblaa.mk
set_option maxRecDepth 100000
noncomputable def body5 : Code := match Try.f5.body with
  | some c => c
  | none => .skip
noncomputable def opsA5 : Array Oper := match body5 with
  | .seq _ (.seq _ (.seq (.region _ ops _) _)) => ops
  | _ => #[]
noncomputable def opsB5 : Array Oper := match body5 with
  | .seq _ (.seq _ (.seq _ (.seq (.region _ ops _) _))) => ops
  | _ => #[]
def o0 : Oper := { dst := none, op := .assign (.tmp 0), type := 0, pos := "", after := #[], guard := none }
noncomputable def opA5 (k : Nat) : Oper := match opsA5.toList[k]? with
  | some o => o
  | none => o0
noncomputable def opB5 (k : Nat) : Oper := match opsB5.toList[k]? with
  | some o => o
  | none => o0
noncomputable def G5 (_ : World) : List (Nat × Sx.Spec) := [(8, specF FK)]
theorem gok5 (W : World) : GOk W Try.prog (G5 W) := gok_cons (known_spec W) (gok_nil W)
noncomputable def lA5 (W : World) : List CS := [⟨2, inF W 16 (.const (.int .i64 40)) 17⟩]
noncomputable def lB5 (W : World) : List CS := [⟨1, encW W 18 19⟩, ⟨2, decO 1 19 20⟩, ⟨4, sameW W 2 20 21 22⟩, ⟨7, onYes opsB5 (opB5 7) (encO 0 24 25)⟩, ⟨8, onYes opsB5 (opB5 8) (decO 3 25 26)⟩, ⟨10, onYes opsB5 (opB5 10) (sameO 4 0 26 27 28)⟩]
noncomputable def FA5 (W : World) : SL → Mem → Gh → RG := runCalls Try.prog W (G5 W) 100000 33 opsA5 (lA5 W) 0
noncomputable def FB5 (W : World) : SL → Mem → Gh → RG := runCalls Try.prog W (G5 W) 100000 33 opsB5 (lB5 W) 0
noncomputable def t5 (W : World) : HG := .seq .plain (.seq .plain (.seq (.cust (FA5 W)) (.seq (.cust (FB5 W)) .plain)))


def shapes : List ASh := [.rows [.bool, .bool, .bool, .bool, .bool, .bool, .bool, .bool, .int .u8, .int .u8], .ints .i64]
theorem custA5 (W : World) : CustOk W Try.prog 33 (.region 3 opsA5 false) (FA5 W) := by
  refine calls_cust (W := Bs.of W) (gok5 W) ?_ (by simp [lA5])
  intro c hc
  simp only [lA5, List.mem_cons, List.not_mem_nil, or_false] at hc
  subst hc
  exact callG_of (o := opA5 2) (by kernel_rfl) (by kernel_rfl) (inF_ok (by kernel_rfl) (by kernel_rfl) (by decide))
theorem named12 : Named 12 := ⟨Try.f12, Try.func12, by kernel_rfl, by kernel_rfl⟩
theorem named17 : Named 17 := ⟨Try.f17, Try.func17, by kernel_rfl, by kernel_rfl⟩
theorem decOk12 : DecOk 12 := fun hr _ => dec12 hr
theorem custB5 (W : World) : CustOk W Try.prog 33 (.region 4 opsB5 false) (FB5 W) := by
  refine calls_cust (W := Bs.of W) (gok5 W) ?_ (by simp [lB5])
  intro c hc
  simp only [lB5, List.mem_cons, List.not_mem_nil, or_false] at hc
  rcases hc with rfl | rfl | rfl | rfl | rfl | rfl
  · exact callG_of (o := opB5 1) (by kernel_rfl) (by kernel_rfl) (encW_ok (W := Bs.of W) (by kernel_rfl) (by kernel_rfl) (by decide) named17 enc17)
  · exact callG_of (o := opB5 2) (by kernel_rfl) (by kernel_rfl) (decO_ok (by kernel_rfl) (by kernel_rfl) (by decide) named12 decOk12)
  · exact callG_of (o := opB5 4) (by kernel_rfl) (by kernel_rfl) (sameW_ok (W := Bs.of W) (by kernel_rfl) (by kernel_rfl) (by decide))
  · exact callG_yes (o := opB5 7) (by kernel_rfl) (encO_ok (by kernel_rfl) (by kernel_rfl) (by decide) named17 enc17)
  · exact callG_yes (o := opB5 8) (by kernel_rfl) (decO_ok (by kernel_rfl) (by kernel_rfl) (by decide) named12 decOk12)
  · exact callG_yes (o := opB5 10) (by kernel_rfl) (sameO_ok (by kernel_rfl) (by kernel_rfl) (by decide))
noncomputable def c5 (W : World) (a b : Option Addr) (n c k d : Nat) (q : Full (m21 W b k 40)) (a0 : Option Addr) (c0 : Nat) (a1 : Option Addr) (c1 : Nat) (a2 : Option Addr) (c2 : Nat) (a3 : Option Addr) (c3 : Nat) (a4 : Option Addr) (c4 : Nat) : Bool :=
  yes (RowOk W .i64 b k d ∧ (SI.lit 0).val = 0 ∧ 0 ≤ (SI.lit 40).val ∧ (SI.lit 40).val ≤ 900) && (rowS W a n c && (yes (OkZ (encR' a1 n c1 (entL W a n)) a1 (4 * min n 65536) c1 ∧ Ctl (unB (encR' a1 n c1 (entL W a n)).xs) ∧ 4 * min n 65536 ≤ 1000000) && (yes (OkE (decR' a2 (4 * min n 65536) c2 (unB (encR' a1 n c1 (entL W a n)).xs)) a2 (cnt (4 * min n 65536)) c2 ∧ RowS W a n c ∧ unE (decR' a2 (4 * min n 65536) c2 (unB (encR' a1 n c1 (entL W a n)).xs)).xs = entL W a n) &&
   (yes (OkE (gE a0 c0 q.val.1) a0 q.val.1.length c0) && (yes (OkZ (encR' a3 q.val.1.length c3 (unE (gE a0 c0 q.val.1).xs)) a3 (4 * min q.val.1.length 65536) c3 ∧ Ctl (unB (encR' a3 q.val.1.length c3 (unE (gE a0 c0 q.val.1).xs)).xs) ∧ 4 * min q.val.1.length 65536 ≤ 1000000) && yes (OkE (decR' a4 (4 * min q.val.1.length 65536) c4 (unB (encR' a3 q.val.1.length c3 (unE (gE a0 c0 q.val.1).xs)).xs)) a4 (cnt (4 * min q.val.1.length 65536)) c4 ∧ OkE (gE a0 c0 q.val.1) a0 q.val.1.length c0 ∧ unE (decR' a4 (4 * min q.val.1.length 65536) c4 (unB (encR' a3 q.val.1.length c3 (unE (gE a0 c0 q.val.1).xs)).xs)).xs = unE (gE a0 c0 q.val.1).xs))))))
theorem whole5 (W : World) (a b : Option Addr) (n c k d : Nat) : (runG Try.prog W (G5 W) 100000 33 (t5 W) body5 (argSlots 0 [.one (.sl a n c), .one (.sl b k d)]) noMem []).slim 0 [] [] [(4, false)] [] =
  .br (bif decide ((n : Int) > 100) then true else decide ((k : Int) > 200)) (.leaf .ret (.lit true) [(4, .one (.bool (.lit true)))] ⟨[], [], 0⟩ [])
   (.pick (fullD (m21 W b k 40)) fun q => .any fun a0 c0 => .any fun a1 c1 => .any fun a2 c2 => .any fun a3 c3 => .any fun a4 c4 => .leaf .ret (.sym (c5 W a b n c k d q a0 c0 a1 c1 a2 c2 a3 c3 a4 c4)) [(4, .one (.bool (.lit true)))] ⟨[], [], 0⟩
     [gE a0 c0 q.val.1, encR' a1 n c1 (entL W a n), decR' a2 (4 * min n 65536) c2 (unB (encR' a1 n c1 (entL W a n)).xs), encR' a3 q.val.1.length c3 (unE (gE a0 c0 q.val.1).xs), decR' a4 (4 * min q.val.1.length 65536) c4 (unB (encR' a3 q.val.1.length c3 (unE (gE a0 c0 q.val.1).xs)).xs)]) := by kernel_rfl
theorem calls (W : World) (e : Env) (h : argsOk W e 0 shapes) : Calls Try.prog 5 ((argsTV e 0 shapes).map (TV.den fun _ => 0)).toArray W fun en W' => en = .returned (.bool true) ∧ Below W.heap.size W W' := by
  have hr : RowS W (e.a 0) (e.len 0) (e.cap 0) := rows_rowS h.1
  have hr2 : RowOk W .i64 (e.a 1) (e.len 1) (e.cap 1) := h.2.1
  have hcalls := calls_of_runG (gok5 W) (n := 100000) (g := 5) Try.func5 (show Try.f5.body = some body5 by kernel_rfl) (t := t5 W) (args := [.one (.sl (e.a 0) (e.len 0) (e.cap 0)), .one (.sl (e.a 1) (e.len 1) (e.cap 1))]) ?_ (by rw [show Try.f5.ntmps = 33 by kernel_rfl]; simp)
    (R := fun v _ => v = .one (.bool (.lit true))) (N := 0) (ks := []) (bs := []) (ke := [(4, false)]) (be := []) rfl rfl ?_
  · refine hcalls.mono ?_
    rintro en w' ⟨v, g, f, rfl, rfl, _, hbl⟩
    exact ⟨rfl, hbl⟩
  · have e : HGOk W Try.prog Try.f5.ntmps (t5 W) body5 = (True ∧ (True ∧ (CustOk W Try.prog 33 (.region 3 opsA5 false) (FA5 W) ∧ (CustOk W Try.prog 33 (.region 4 opsB5 false) (FB5 W) ∧ True)))) := by kernel_rfl
    rw [e]
    exact ⟨trivial, trivial, custA5 W, custB5 W, trivial⟩
  · rw [show Try.f5.ntmps = 33 by kernel_rfl, whole5]
    refine ⟨fun _ => ⟨rfl, .inr rfl, [(false, [.bool (.lit true)])], .one (.bool (.lit true)), by kernel_rfl, rfl, rfl⟩, fun hb q a0 c0 a1 c1 a2 c2 a3 c3 a4 c4 => ⟨?_, .inr rfl, [(false, [.bool (.lit true)])], .one (.bool (.lit true)), by kernel_rfl, rfl, rfl⟩⟩
    have hn : e.len 0 ≤ 100 := by
      cases hd : decide (((e.len 0 : Nat) : Int) > 100) with
      | true => rw [hd, cond_true] at hb; cases hb
      | false => have := of_decide_eq_false hd; omega
    have hM := nxt_range W (e.a 1) (e.len 1) 0 (k := gadd .i64 40 1) (by decide) (by decide)
    have hg : gadd .i64 40 1 = 41 := by decide
    have hq := q.property.1
    unfold m21 at hq
    rw [SB.val_sym]
    unfold c5
    have h1 : rowS W (e.a 0) (e.len 0) (e.cap 0) = true := by unfold rowS; exact @decide_eq_true _ (Classical.propDecidable _) hr
    have h2 : q.val.1.length ≤ 65536 := by omega
    have h3 : unE (gE a0 c0 q.val.1).xs = q.val.1 := by
      unfold gE
      dsimp only
      rw [unE_ents]
    rw [h1, h3, yes_of ⟨hr2, rfl, by decide, by decide⟩, yes_of okZ_enc, yes_of ⟨okE_dec, hr, rt (entL_length W _ _) (by omega)⟩, yes_of (show OkE (gE a0 c0 q.val.1) a0 q.val.1.length c0 from okE_mk), yes_of okZ_enc, yes_of ⟨okE_dec, okE_mk, rt rfl h2⟩]
    rfl

theorem own : ownKnob Try.prog.godebug = none := by kernel_rfl

theorem lifted (os : Os) (started : os.Started) (H : Type) (enc : TypeId × Value → H) :
    ReturnsInHanded {} Try.checked os 5 .any (Rows.scriptRoundTripsSpec.pre6 enc Try.prog Try.f5 Rows.scriptRoundTripsRow.domain false) (Rows.scriptRoundTripsSpec.post enc Try.prog Try.f5 false true false false) :=
  law_step (C := Try.checked) 2 own started (by kernel_rfl) Try.func5 (by kernel_rfl) (by kernel_rfl) rfl
    (fun ds hd => by
      match ds, hd with
      | [d0, d1], _ => rfl)
    (ChangeSpec.witness6 (enc := enc) (C := Try.checked) false ⟨#[], #[.slice none 0 0, .slice none 0 0], []⟩ 8 (by kernel_rfl) (by kernel_rfl) (by kernel_rfl) (by kernel_rfl))
    (fun W base args hv hl _ _ htr => shape_walk (P := Try.prog) shapes (by kernel_rfl) calls W base args hv hl htr)

theorem over : Rows.scriptRoundTripsRow.holds Try.pinned (OpenSpec.ofChange Rows.scriptRoundTripsSpec) :=
  OpenClaim.holds_of_wide 5 Try.f5 rfl rfl rfl rfl rfl rfl rfl ⟨rfl, rfl, rfl, rfl, rfl⟩ rfl rfl rfl rfl rfl (by kernel_rfl) Try.func5 (by kernel_rfl)
    (of_decide_eq_true (by kernel_rfl)) (by unfold Func.isWrapper; first | (rw [if_pos (by decide +kernel)]; kernel_rfl) | (rw [if_neg (by decide +kernel)]; exact ⟨rfl, rfl⟩))
    (fun os started H enc _ => lifted os started H enc)

theorem proved : Rows.ScriptRoundTripsSaid := over
#print axioms proved
end Go.Proofs.Ytdfplmkaaodblaa.scriptRoundTrips
