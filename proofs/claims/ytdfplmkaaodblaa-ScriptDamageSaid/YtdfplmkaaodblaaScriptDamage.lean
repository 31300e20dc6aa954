/- tstatelaw24.ScriptDamage returns true for every input; no condition. -/
import Derived.Test.YtdfplmkaaodblaaRows
import Derived.Test.YtdfplmkaaodblaaDmg
import Derived.Test.YtdfplmkaaodblaaMkC
namespace Go.Proofs.Ytdfplmkaaodblaa.scriptDamage
open Go Go.Sx Go.RowKit Go.Proofs.Ytdfplmkaaodblaa.dc Go.Proofs.Ytdfplmkaaodblaa.mk
set_option maxRecDepth 100000
noncomputable def body6 : Code := match Try.f6.body with
  | some c => c
  | none => .skip
noncomputable def rest6 : Nat → Code → Code
  | 0, c => c
  | n + 1, .seq _ c => rest6 n c
  | _, c => c
noncomputable def reg6 (n : Nat) : Array Oper := match rest6 n body6 with
  | .seq (.region _ ops _) _ => ops
  | _ => #[]
noncomputable def G6 (_ : World) : List (Nat × Sx.Spec) := [(8, specF FK)]
theorem gok6 (W : World) : GOk W Try.prog (G6 W) := gok_cons (known_spec W) (gok_nil W)
noncomputable def FA6 (W : World) : SL → Mem → Gh → RG := runCalls Try.prog W (G6 W) 100000 68 (reg6 2) [⟨2, inF W 19 (.const (.int .i64 30)) 20⟩] 0
noncomputable def FB6 (W : World) : SL → Mem → Gh → RG := runCalls Try.prog W (G6 W) 100000 68 (reg6 3) [⟨1, encO 0 21 22⟩] 0
noncomputable def FE6 (W : World) : SL → Mem → Gh → RG := runCalls Try.prog W (G6 W) 100000 68 (reg6 6) [⟨2, ixO 1 1 49 50 51⟩, ⟨3, ldB 1 51 50 52⟩, ⟨6, ixO 1 1 49 50 55⟩, ⟨7, stB 1 55 50 54⟩] 0
noncomputable def FF6 (W : World) : SL → Mem → Gh → RG := runCalls Try.prog W (G6 W) 100000 68 (reg6 7) [⟨4, ixO 0 10 56 58 60⟩, ⟨5, stE 0 60 58 59⟩] 0
noncomputable def FG6 (W : World) : SL → Mem → Gh → RG := runCalls Try.prog W (G6 W) 100000 68 (reg6 8) [⟨1, decO 1 61 62⟩, ⟨3, sameO 2 0 62 63 64⟩] 0
noncomputable def t6 (W : World) : HG := .seq .plain (.seq .plain (.seq (.cust (FA6 W)) (.seq (.cust (FB6 W)) (.seq .plain (.seq .plain (.seq (.cust (FE6 W)) (.seq (.cust (FF6 W)) (.seq (.cust (FG6 W)) .plain))))))))


def shapes : List ASh := [.ints .i64, .one (.int .i64), .one (.int .u8)]
theorem custA6 (W : World) : CustOk W Try.prog 68 (.region 3 (reg6 2) false) (FA6 W) := by
  refine calls_cust (W := Bs.of W) (gok6 W) ?_ (by simp)
  intro c hc
  simp only [List.mem_cons, List.not_mem_nil, or_false] at hc
  subst hc
  exact callG_of (o := opAt (reg6 2) 2) (by kernel_rfl) (by kernel_rfl) (inF_ok (by kernel_rfl) (by kernel_rfl) (by decide))
theorem custB6 (W : World) : CustOk W Try.prog 68 (.region 4 (reg6 3) false) (FB6 W) := by
  refine calls_cust (W := Bs.of W) (gok6 W) ?_ (by simp)
  intro c hc
  simp only [List.mem_cons, List.not_mem_nil, or_false] at hc
  subst hc
  exact callG_of (o := opAt (reg6 3) 1) (by kernel_rfl) (by kernel_rfl) (encO_ok (by kernel_rfl) (by kernel_rfl) (by decide) named17 enc17)
theorem custE6 (W : World) : CustOk W Try.prog 68 (.region 8 (reg6 6) false) (FE6 W) := by
  refine calls_cust (W := Bs.of W) (gok6 W) ?_ (by simp)
  intro c hc
  simp only [List.mem_cons, List.not_mem_nil, or_false] at hc
  rcases hc with rfl | rfl | rfl | rfl
  · exact callG_of (o := opAt (reg6 6) 2) (by kernel_rfl) (by kernel_rfl) (ixO_ok (t := 22) (e := 5) (by kernel_rfl) (by kernel_rfl) (by decide) u22 sizeT5)
  · exact callG_of (o := opAt (reg6 6) 3) (by kernel_rfl) (by kernel_rfl) (ldB_ok (by kernel_rfl) (by kernel_rfl) (by decide))
  · exact callG_of (o := opAt (reg6 6) 6) (by kernel_rfl) (by kernel_rfl) (ixO_ok (t := 22) (e := 5) (by kernel_rfl) (by kernel_rfl) (by decide) u22 sizeT5)
  · exact callG_of (o := opAt (reg6 6) 7) (by kernel_rfl) (by kernel_rfl) (stB_ok (by kernel_rfl) (by kernel_rfl) rfl)
theorem custF6 (W : World) : CustOk W Try.prog 68 (.region 9 (reg6 7) false) (FF6 W) := by
  refine calls_cust (W := Bs.of W) (gok6 W) ?_ (by simp)
  intro c hc
  simp only [List.mem_cons, List.not_mem_nil, or_false] at hc
  rcases hc with rfl | rfl
  · exact callG_of (o := opAt (reg6 7) 4) (by kernel_rfl) (by kernel_rfl) (ixO_ok (t := 29) (e := 32) (by kernel_rfl) (by kernel_rfl) (by decide) u29 sizeT32)
  · exact callG_of (o := opAt (reg6 7) 5) (by kernel_rfl) (by kernel_rfl) (stE_ok (by kernel_rfl) (by kernel_rfl) rfl)
theorem custG6 (W : World) : CustOk W Try.prog 68 (.region 10 (reg6 8) false) (FG6 W) := by
  refine calls_cust (W := Bs.of W) (gok6 W) ?_ (by simp)
  intro c hc
  simp only [List.mem_cons, List.not_mem_nil, or_false] at hc
  rcases hc with rfl | rfl
  · exact callG_of (o := opAt (reg6 8) 1) (by kernel_rfl) (by kernel_rfl) (decO_ok (by kernel_rfl) (by kernel_rfl) (by decide) named12 decOk12)
  · exact callG_of (o := opAt (reg6 8) 3) (by kernel_rfl) (by kernel_rfl) (sameO_ok (by kernel_rfl) (by kernel_rfl) (by decide))
def n6 (L : Nat) : Nat := 4 * min L 65536
def k6 (x : Int) (L : Nat) : Int := plc x ((n6 L : Nat) : Int)
def q6 (x : Int) (L : Nat) : Int := gquo .i64 (k6 x L) 4
def E6 (a : Option Addr) (c : Nat) (es : List Ent) : Own := gE a c es
def Z6 (a : Option Addr) (L c : Nat) (es : List Ent) : Own := encR' a L c (unE (ents es))
def v6 (a : Option Addr) (c : Nat) (es : List Ent) (x y : Int) : Int := bits .xor .u8 ((unB (Z6 a es.length c es).xs).getD (k6 x es.length).toNat 0) y
def Z6' (a : Option Addr) (c : Nat) (es : List Ent) (x y : Int) : Own := { Z6 a es.length c es with xs := bys ((unB (Z6 a es.length c es).xs).set (k6 x es.length).toNat (v6 a c es x y)) }
def idl : List SV := [.bool (.lit true), .bool (.lit false), .bool (.lit false), .bool (.lit false), .bool (.lit false), .bool (.lit false), .bool (.lit false), .bool (.lit false), .int .u8 (.lit 0), .int .u8 (.lit 0)]
def E6' (a : Option Addr) (c : Nat) (es : List Ent) (x : Int) : Own := { gE a c es with xs := ents ((unE (gE a c es).xs).set (q6 x es.length).toNat (entOf idl)) }
noncomputable def c6A (W : World) (a : Option Addr) (n c : Nat) (es : List Ent) (a0 : Option Addr) (c0 : Nat) : Bool := yes (RowOk W .i64 a n c ∧ (SI.lit 0).val = 0 ∧ 0 ≤ (SI.lit 30).val ∧ (SI.lit 30).val ≤ 900) && yes (OkE (E6 a0 c0 es) a0 es.length c0)
noncomputable def cE (es : List Ent) (a1 : Option Addr) (c1 : Nat) (x : Int) : Bool :=
  yes (Lies (Z6 a1 es.length c1 es) a1 (n6 es.length) c1 (k6 x es.length)) && (yes (OkZ (Z6 a1 es.length c1 es) a1 (n6 es.length) c1 ∧ Lies (Z6 a1 es.length c1 es) a1 (n6 es.length) c1 (k6 x es.length) ∧ atRow a1 (k6 x es.length) 1 = atRow a1 (k6 x es.length) 1) &&
   (yes (Lies (Z6 a1 es.length c1 es) a1 (n6 es.length) c1 (k6 x es.length)) && yes (OkZ (Z6 a1 es.length c1 es) a1 (n6 es.length) c1 ∧ Lies (Z6 a1 es.length c1 es) a1 (n6 es.length) c1 (k6 x es.length) ∧ atRow a1 (k6 x es.length) 1 = atRow a1 (k6 x es.length) 1)))
noncomputable def cF' (a0 : Option Addr) (c0 : Nat) (es : List Ent) (x : Int) : Bool :=
  yes (Lies (E6 a0 c0 es) a0 es.length c0 (q6 x es.length)) && yes (OkE (E6 a0 c0 es) a0 es.length c0 ∧ Lies (E6 a0 c0 es) a0 es.length c0 (q6 x es.length) ∧ atRow a0 (q6 x es.length) 10 = atRow a0 (q6 x es.length) 10 ∧ allB oneS idl = true ∧ idl.map den0 = (entOf idl).L.map den0)
noncomputable def cG (a0 : Option Addr) (c0 : Nat) (es : List Ent) (a1 : Option Addr) (c1 : Nat) (a2 : Option Addr) (c2 : Nat) (x y : Int) : Bool :=
  yes (OkZ (Z6' a1 c1 es x y) a1 (n6 es.length) c1 ∧ Ctl (unB (Z6' a1 c1 es x y).xs) ∧ n6 es.length ≤ 1000000) && yes (OkE (decR' a2 (n6 es.length) c2 (unB (Z6' a1 c1 es x y).xs)) a2 (cnt (n6 es.length)) c2 ∧ OkE (E6' a0 c0 es x) a0 es.length c0 ∧ unE (decR' a2 (n6 es.length) c2 (unB (Z6' a1 c1 es x y).xs)).xs = unE (E6' a0 c0 es x).xs)
noncomputable def c6B (W : World) (a : Option Addr) (n c : Nat) (es : List Ent) (a0 : Option Addr) (c0 : Nat) (a1 : Option Addr) (c1 : Nat) (a2 : Option Addr) (c2 : Nat) (x y : Int) : Bool :=
  yes (RowOk W .i64 a n c ∧ (SI.lit 0).val = 0 ∧ 0 ≤ (SI.lit 30).val ∧ (SI.lit 30).val ≤ 900) && (yes (OkE (E6 a0 c0 es) a0 es.length c0) && ((!decide (IntKind.u64.wrap ((n6 es.length : Nat) : Int) = 0)) && (cE es a1 c1 x && (cF' a0 c0 es x && cG a0 c0 es a1 c1 a2 c2 x y))))
theorem whole6 (W : World) (a : Option Addr) (n c : Nat) (x y : Int) : (runG Try.prog W (G6 W) 100000 68 (t6 W) body6 (argSlots 0 [.one (.sl a n c), .one (.int .i64 (.sym x)), .one (.int .u8 (.sym y))]) noMem []).slim 0 [] [] [(6, false)] [] =
  .br (bif decide ((n : Int) > 200) then true else (y == 0)) (.leaf .ret (.lit true) [(6, .one (.bool (.lit true)))] ⟨[], [], 0⟩ [])
   (.pick (fullD (m21 W a n 30)) fun q => .any fun a0 c0 => .any fun a1 c1 => .br (bif ((q.val.1.length : Nat) : Int) == 0 then true else ((n6 q.val.1.length : Nat) : Int) != gmul .i64 4 (q.val.1.length : Nat))
     (.leaf .ret (.sym (c6A W a n c q.val.1 a0 c0)) [(6, .one (.bool (.sym (bif ((q.val.1.length : Nat) : Int) == 0 then ((n6 q.val.1.length : Nat) : Int) == 0 else false))))] ⟨[], [], 0⟩ [gE a0 c0 q.val.1, Z6 a1 q.val.1.length c1 q.val.1])
     (.any fun a2 c2 => .leaf .ret (.sym (c6B W a n c q.val.1 a0 c0 a1 c1 a2 c2 x y)) [(6, .one (.bool (.lit true)))] ⟨[], [], 0⟩
       [E6' a0 c0 q.val.1 x, Z6' a1 c1 q.val.1 x y, decR' a2 (n6 q.val.1.length) c2 (unB (Z6' a1 c1 q.val.1 x y).xs)])) := by kernel_rfl
theorem e6_ok {a0 : Option Addr} {c0 : Nat} {es : List Ent} : OkE (E6 a0 c0 es) a0 es.length c0 := okE_mk
theorem z6_ok {a1 : Option Addr} {c1 : Nat} {es : List Ent} : OkZ (Z6 a1 es.length c1 es) a1 (n6 es.length) c1 := okZ_mk
theorem nat6 {es : List Ent} (x : Int) (h0 : 0 < es.length) (h1 : es.length ≤ 100) : n6 es.length = 4 * es.length ∧ (0 ≤ k6 x es.length ∧ k6 x es.length < ((n6 es.length : Nat) : Int)) ∧ (q6 x es.length).toNat = (k6 x es.length).toNat / 4 ∧ 0 ≤ q6 x es.length ∧ q6 x es.length < (es.length : Int) := by
  have e1 : n6 es.length = 4 * es.length := by unfold n6; omega
  have h2 := plc_range x (k := ((n6 es.length : Nat) : Int)) (by omega) (by omega)
  have h3 : q6 x es.length = k6 x es.length / 4 := by
    unfold q6 gquo
    rw [IntKind.wrap_i64, Int.tdiv_eq_ediv_of_nonneg (show 0 ≤ k6 x es.length from h2.1)]
    unfold k6
    omega
  refine ⟨e1, h2, ?_, ?_, ?_⟩
  · rw [h3]
    unfold k6 at *
    omega
  · rw [h3]
    unfold k6 at *
    omega
  · rw [h3]
    unfold k6 at *
    omega
theorem xs6 {a1 : Option Addr} {c1 : Nat} {es : List Ent} (h1 : es.length ≤ 100) : unB (Z6 a1 es.length c1 es).xs = encE es := by
  unfold Z6 encR'
  dsimp only
  rw [unB_bys, unE_ents, List.take_of_length_le (by omega)]
theorem c6B_ok {W : World} {a : Option Addr} {n c : Nat} (hr : RowOk W .i64 a n c) {es : List Ent} (h0 : 0 < es.length) (h1 : es.length ≤ 100) (a0 : Option Addr) (c0 : Nat) (a1 : Option Addr) (c1 : Nat) (a2 : Option Addr) (c2 : Nat) (x : Int) {y : Int} (hy0 : y ≠ 0) (hy : IntKind.u8.min ≤ y ∧ y ≤ IntKind.u8.max) : c6B W a n c es a0 c0 a1 c1 a2 c2 x y = true := by
  obtain ⟨e1, hk, hq, hq0, hq1⟩ := nat6 x h0 h1
  have hl1 : Lies (Z6 a1 es.length c1 es) a1 (n6 es.length) c1 (k6 x es.length) := ⟨rfl, rfl, rfl, hk.1, hk.2⟩
  have hl0 : Lies (E6 a0 c0 es) a0 es.length c0 (q6 x es.length) := ⟨rfl, rfl, rfl, hq0, hq1⟩
  have hx : unB (Z6' a1 c1 es x y).xs = (encE es).set (k6 x es.length).toNat (bits .xor .u8 ((encE es).getD (k6 x es.length).toNat 0) y) := by
    unfold Z6' v6
    dsimp only
    rw [unB_bys, xs6 h1]
  have hz' : OkZ (Z6' a1 c1 es x y) a1 (n6 es.length) c1 := ⟨rfl, rfl, rfl, rfl, rfl, by unfold Z6'; dsimp only; rw [unB_bys]⟩
  have he' : OkE (E6' a0 c0 es x) a0 es.length c0 := ⟨rfl, rfl, rfl, rfl, rfl, by unfold E6'; dsimp only; rw [unE_ents]⟩
  have hw : IntKind.u64.wrap ((n6 es.length : Nat) : Int) = ((n6 es.length : Nat) : Int) := u64_pos (by omega) (by omega)
  have hcn : cnt (n6 es.length) = es.length := by unfold cnt; omega
  have hsame : unE (decR' a2 (n6 es.length) c2 (unB (Z6' a1 c1 es x y).xs)).xs = unE (E6' a0 c0 es x).xs := by
    rw [hx]
    unfold decR' E6' gE
    dsimp only
    rw [unE_ents, unE_ents, unE_ents, hcn, damage hy0 hy es _ (by omega), hq]
    rfl
  have hctl : Ctl (unB (Z6' a1 c1 es x y).xs) := by
    rw [hx]
    exact ctl_dmg (ctl_enc es) _ _ _
  unfold c6B cE cF' cG
  rw [yes_of ⟨hr, rfl, by decide, by decide⟩, yes_of e6_ok, hw, decide_eq_false (show ¬ ((n6 es.length : Nat) : Int) = 0 by omega), yes_of hl1, yes_of ⟨z6_ok, hl1, rfl⟩, yes_of hl0, yes_of ⟨e6_ok, hl0, rfl, rfl, rfl⟩, yes_of ⟨hz', hctl, by omega⟩, yes_of ⟨okE_dec, he', hsame⟩]
  rfl
theorem calls (W : World) (e : Env) (h : argsOk W e 0 shapes) : Calls Try.prog 6 ((argsTV e 0 shapes).map (TV.den fun _ => 0)).toArray W fun en W' => en = .returned (.bool true) ∧ Below W.heap.size W W' := by
  have hr : RowOk W .i64 (e.a 0) (e.len 0) (e.cap 0) := h.1
  have hy : IntKind.u8.min ≤ e.n 2 ∧ e.n 2 ≤ IntKind.u8.max := h.2.2.1
  have hcalls := calls_of_runG (gok6 W) (n := 100000) (g := 6) Try.func6 (show Try.f6.body = some body6 by kernel_rfl) (t := t6 W) (args := [.one (.sl (e.a 0) (e.len 0) (e.cap 0)), .one (.int .i64 (.sym (e.n 1))), .one (.int .u8 (.sym (e.n 2)))]) ?_ (by rw [show Try.f6.ntmps = 68 by kernel_rfl]; simp)
    (R := fun v _ => ∃ b : SB, v = .one (.bool b) ∧ b.val = true) (N := 0) (ks := []) (bs := []) (ke := [(6, false)]) (be := []) rfl rfl ?_
  · refine hcalls.mono ?_
    rintro en w' ⟨v, g, f, ⟨b, rfl, hb⟩, rfl, _, hbl⟩
    refine ⟨?_, hbl⟩
    show Ending.returned (Value.bool b.val) = _
    rw [hb]
  · have e : HGOk W Try.prog Try.f6.ntmps (t6 W) body6 = (True ∧ (True ∧ (CustOk W Try.prog 68 (.region 3 (reg6 2) false) (FA6 W) ∧ (CustOk W Try.prog 68 (.region 4 (reg6 3) false) (FB6 W) ∧ (True ∧ (True ∧ (CustOk W Try.prog 68 (.region 8 (reg6 6) false) (FE6 W) ∧ (CustOk W Try.prog 68 (.region 9 (reg6 7) false) (FF6 W) ∧ (CustOk W Try.prog 68 (.region 10 (reg6 8) false) (FG6 W) ∧ True))))))))) := by kernel_rfl
    rw [e]
    exact ⟨trivial, trivial, custA6 W, custB6 W, trivial, trivial, custE6 W, custF6 W, custG6 W, trivial⟩
  · rw [show Try.f6.ntmps = 68 by kernel_rfl, whole6]
    refine ⟨fun _ => ⟨rfl, .inr rfl, [(false, [.bool (.lit true)])], .one (.bool (.lit true)), by kernel_rfl, rfl, _, rfl, rfl⟩, fun hb q a0 c0 a1 c1 => ?_⟩
    have hM := nxt_range W (e.a 0) (e.len 0) 0 (k := gadd .i64 30 1) (by decide) (by decide)
    have hg : gadd .i64 30 1 = 31 := by decide
    have hq := q.property.1
    unfold m21 at hq
    have hq1 : q.val.1.length ≤ 100 := by omega
    have hy0 : e.n 2 ≠ 0 := by
      intro hy0
      rw [hy0] at hb
      cases hd : decide (((e.len 0 : Nat) : Int) > 200) with
      | true => rw [hd, cond_true] at hb; cases hb
      | false => rw [hd, cond_false] at hb; cases hb
    refine ⟨fun h1 => ⟨?_, .inr rfl, [(false, [.bool (.sym (bif ((q.val.1.length : Nat) : Int) == 0 then ((n6 q.val.1.length : Nat) : Int) == 0 else false))])], _, by kernel_rfl, rfl, _, rfl, ?_⟩, fun h1 a2 c2 => ⟨?_, .inr rfl, [(false, [.bool (.lit true)])], .one (.bool (.lit true)), by kernel_rfl, rfl, _, rfl, rfl⟩⟩
    · rw [SB.val_sym]
      unfold c6A
      rw [yes_of ⟨hr, rfl, by decide, by decide⟩, yes_of e6_ok]
      rfl
    · rw [SB.val_sym]
      by_cases hz : q.val.1.length = 0
      · rw [hz]
        rfl
      · exfalso
        have e1 : gmul .i64 4 (q.val.1.length : Nat) = ((n6 q.val.1.length : Nat) : Int) := by
          unfold gmul n6
          rw [IntKind.wrap_i64]
          omega
        rw [e1, bne_self_eq_false] at h1
        cases hd : (((q.val.1.length : Nat) : Int) == 0) with
        | true => have := eq_of_beq hd; omega
        | false => rw [hd] at h1; cases h1
    · rw [SB.val_sym]
      have hz : 0 < q.val.1.length := by
        rcases Nat.eq_zero_or_pos q.val.1.length with hz | hz
        · rw [hz] at h1
          cases h1
        · exact hz
      exact c6B_ok hr hz hq1 _ _ _ _ _ _ _ hy0 hy

theorem own : ownKnob Try.prog.godebug = none := by kernel_rfl

theorem lifted (os : Os) (started : os.Started) (H : Type) (enc : TypeId × Value → H) :
    ReturnsInHanded {} Try.checked os 6 .any (Rows.scriptDamageSpec.pre6 enc Try.prog Try.f6 Rows.scriptDamageRow.domain false) (Rows.scriptDamageSpec.post enc Try.prog Try.f6 false true false false) :=
  law_step (C := Try.checked) 3 own started (by kernel_rfl) Try.func6 (by kernel_rfl) (by kernel_rfl) rfl
    (fun ds hd => by
      match ds, hd with
      | [d0, d1, d2], _ => rfl)
    (ChangeSpec.witness6 (enc := enc) (C := Try.checked) false ⟨#[], #[.slice none 0 0, .int .i64 0, .int .u8 0], []⟩ 8 (by kernel_rfl) (by kernel_rfl) (by kernel_rfl) (by kernel_rfl))
    (fun W base args hv hl _ _ htr => shape_walk (P := Try.prog) shapes (by kernel_rfl) calls W base args hv hl htr)

theorem over : Rows.scriptDamageRow.holds Try.pinned (OpenSpec.ofChange Rows.scriptDamageSpec) :=
  OpenClaim.holds_of_wide 6 Try.f6 rfl rfl rfl rfl rfl rfl rfl ⟨rfl, rfl, rfl, rfl, rfl⟩ rfl rfl rfl rfl rfl (by kernel_rfl) Try.func6 (by kernel_rfl)
    (of_decide_eq_true (by kernel_rfl)) (by unfold Func.isWrapper; first | (rw [if_pos (by decide +kernel)]; kernel_rfl) | (rw [if_neg (by decide +kernel)]; exact ⟨rfl, rfl⟩))
    (fun os started H enc _ => lifted os started H enc)

theorem proved : Rows.ScriptDamageSaid := over
#print axioms proved
end Go.Proofs.Ytdfplmkaaodblaa.scriptDamage
