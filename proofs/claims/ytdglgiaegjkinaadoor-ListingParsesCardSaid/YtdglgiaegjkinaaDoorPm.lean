/- r9.Encode: the least opcode of an instruction. (Several texts in one.) -/
import Derived.Test.YtdglgiaegjkinaaDoorClo
import Derived.Test.YtdglgiaegjkinaaDoorPl
namespace Go.Proofs.YtdglgiaegjkinaaDoor
open Go Go.Sx Go.RowKit
set_option maxRecDepth 100000
noncomputable def G14 : List (Nat × Sx.Spec) := [(15, specV FDecF)]
theorem decF15_ok (W : World) : SpecOk W Tryd.prog 15 (specV FDecF) := by
  refine spec_of ⟨Tryd.f15, Tryd.func15, by kernel_rfl, by kernel_rfl⟩ ?_
  intro args c u f w hF hc hW
  unfold FDecF at hF
  split at hF <;> try contradiction
  rename_i c x
  simp only [Option.some.injEq, Prod.mk.injEq] at hF
  obtain ⟨rfl, rfl⟩ := hF
  rw [SB.val_sym, Bool.and_eq_true, decide_eq_true_eq, decide_eq_true_eq] at hc
  refine ⟨by simp, ?_⟩
  have hx : ((x.val.toNat : Nat) : Int) = x.val := by omega
  have h := dec_calls (g := 15) (fun _ h => dec15 h) w c.val x.val.toNat (by omega)
  rw [hx] at h
  refine h.mono ?_
  rintro en w' ⟨rfl, hb⟩
  refine ⟨?_, hb⟩
  rw [ins_list _ _ (by omega)]
  rfl
theorem g14_ok (W : World) : GOk W Tryd.prog G14 := gok_cons (decF15_ok W) (gok_nil W)
noncomputable def lb14 : Code := match bodyOf Tryd.f14 with
  | .seq _ (.seq (.seq _ (.block _ (.loop b))) _) => b
  | _ => .skip
def c8 (l : List Int) : List SV := [.int .i64 (.sym (l.getD 0 0)), .int .i64 (.sym (l.getD 1 0)), .int .i64 (.sym (l.getD 2 0)), .int .i64 (.sym (l.getD 3 0)), .int .i64 (.sym (l.getD 4 0)), .int .i64 (.sym (l.getD 5 0)), .int .i64 (.sym (l.getD 6 0)), .int .i64 (.sym (l.getD 7 0))]
def SP14 (c v : Int) : SL := [(0, .one (.int .i64 (.sym c))), (3, .one (.ptr 0 0)), (6, .one (.int .i64 (.sym v)))]
def BP14 (l : List Int) : List (Nat × BI) := [(0, ⟨40, c8 l, true⟩)]
def ks14 : List (Nat × Bool) := [(0, false), (3, false), (6, true)]
def ke14 : List (Nat × Bool) := [(4, true), (5, true)]
noncomputable def r14 (W : World) (c : Int) (l : List Int) (v : Int) : RG := (runG Tryd.prog W G14 100000 19 .plain lb14 (SP14 c v) ⟨[], BP14 l, 1⟩ []).slim 1 ks14 [(0, false)] ke14 []
def eq8 (a l : List Int) : Bool := decide (a.getD 0 0 = l.getD 0 0) && (decide (a.getD 1 0 = l.getD 1 0) && (decide (a.getD 2 0 = l.getD 2 0) && (decide (a.getD 3 0 = l.getD 3 0) && (decide (a.getD 4 0 = l.getD 4 0) && (decide (a.getD 5 0 = l.getD 5 0) && (decide (a.getD 6 0 = l.getD 6 0) && decide (a.getD 7 0 = l.getD 7 0)))))))
theorem r14_eq (W : World) (c : Int) (l : List Int) (v : Int) : r14 W c l v = .br (decide (v < 256)) (.br (eq8 (ins (c == 2) (w8 v).toNat) l) (.leaf .ret (.sym (okD v)) [(4, .one (.int .u8 (.sym (w8 v)))), (5, .one (.bool (.sym true)))] ⟨[], [], 1⟩ []) (.leaf .nrm (.sym (okD v)) (SP14 c (gadd .i64 v 1)) ⟨[], BP14 l, 1⟩ []))
   (.leaf (.exit 0) (.lit true) [] ⟨[], [], 1⟩ []) := by kernel_rfl
/-- The first of the last n opcodes that decode so. -/
def enc (k : Bool) (l : List Int) : Nat → Option Nat
  | 0 => none
  | n + 1 => bif eq8 (ins k (255 - n)) l then some (255 - n) else enc k l n
theorem enc_step {k : Bool} {l : List Int} {v : Nat} (hv : v < 256) : enc k l (256 - v) = bif eq8 (ins k v) l then some v else enc k l (256 - (v + 1)) := by
  have e : 256 - v = (255 - v) + 1 := by omega
  rw [e]
  show (bif eq8 (ins k (255 - (255 - v))) l then some (255 - (255 - v)) else enc k l (255 - v)) = _
  rw [show 255 - (255 - v) = v by omega, show 256 - (v + 1) = 255 - v by omega]
def End14 (z : Option Nat) : RG := match z with
  | some u => .leaf .ret (.lit true) [(4, .one (.int .u8 (.sym (u : Int)))), (5, .one (.bool (.sym true)))] ⟨[], [], 1⟩ []
  | none => .leaf (.exit 0) (.lit true) [] ⟨[], [], 1⟩ []
structure Inv14 (c : Int) (l : List Int) (v : Nat) : Prop where
  le : v ≤ 256
  sc : enc (c == 2) l (256 - v) = enc (c == 2) l 256
theorem step14 (W : World) (c : Int) (l : List Int) : StepOk (W : Bs) Tryd.prog G14 100000 19 .plain lb14 1 ks14 [(0, false)] ke14 [] (Inv14 c l) (fun v => 256 - v) (fun v => SP14 c (v : Int)) (fun _ => BP14 l) (fun _ => []) (End14 (enc (c == 2) l 256)) := by
  constructor
  intro v h
  have hr := r14_eq W c l (v : Int)
  unfold r14 at hr
  rw [show (Bs.of W).W = W from rfl, hr]
  obtain ⟨hle, hsc⟩ := h
  constructor
  · intro hv
    have hv : v < 256 := by have := of_decide_eq_true hv; omega
    have hvc : (SB.sym (okD (v : Int))).val = true := by
      rw [SB.val_sym]
      unfold okD
      rw [w8_nat hv, decide_eq_true (show (0 : Int) ≤ (v : Int) by omega), decide_eq_true (show (v : Int) < 256 by omega)]
      rfl
    have hs := enc_step (k := c == 2) (l := l) hv
    rw [w8_nat hv, Int.toNat_natCast]
    constructor
    · intro he
      rw [he, cond_true, hsc] at hs
      refine ⟨hvc, .inr ⟨by simp, fun f a w hst e' he' => ?_⟩⟩
      rw [hs]
      exact ⟨he', f, hst⟩
    · intro he
      rw [he, cond_false] at hs
      refine ⟨hvc, .inl ⟨rfl, v + 1, ⟨by omega, by rw [← hsc, hs]⟩, by omega, ?_, rfl, rfl⟩⟩
      have e : gadd .i64 (v : Int) 1 = ((v + 1 : Nat) : Int) := by
        unfold gadd
        rw [IntKind.wrap_i64]
        omega
      rw [e]
  · intro hv
    have hv := of_decide_eq_false hv
    refine ⟨rfl, .inr ⟨by simp, fun f a w hst e' he' => ?_⟩⟩
    rw [show 256 - v = 0 by omega] at hsc
    rw [← hsc]
    exact ⟨he', f, hst⟩
noncomputable def h14 (c : Int) (l : List Int) : LG := .at_ true ks14 [(0, false)] 1 (SP14 c 0) (BP14 l) [] (End14 (enc (c == 2) l 256))
theorem loop14 {W : World} (c : Int) (l : List Int) : LoopGOk (W : Bs) Tryd.prog 19 lb14 (h14 c l) := by
  refine loopG_step (t := .plain) (g14_ok W) (hgB_ok (W := (W : Bs)) (P := Tryd.prog) (nt := 19) .plain lb14 rfl) rfl rfl (step14 W c l) ?_
  intro _
  exact ⟨0, ⟨by omega, rfl⟩, rfl, rfl, .inl rfl⟩
noncomputable def t14 (h : LG) : HG := .seq .plain (.seq (.seq .plain (.block (.loop h))) .plain)
noncomputable def h14z (c : Int) (l : List Int) (z : Option Nat) : LG := .at_ true ks14 [(0, false)] 1 (SP14 c 0) (BP14 l) [] (End14 z)
noncomputable def x14 (W : World) (c : Int) (l : List Int) (z : Option Nat) : RG := (runG Tryd.prog W G14 100000 19 (t14 (h14z c l z)) (bodyOf Tryd.f14) (argSlots 0 [.one (.int .i64 (.sym c)), .agg (c8 l)]) noMem []).slim 1 [] [] [(4, false), (5, false)] []
noncomputable def v14 (c : Int) (l : List Int) : Bool := true && (sameS (SP14 c 0) (SP14 c 0) && (sameB (BP14 l) (BP14 l) && @decide (([] : Gh) = []) (Classical.propDecidable _)))
theorem x14_eq (W : World) (c : Int) (l : List Int) (u : Nat) : x14 W c l (some u) = .leaf .ret (.sym (v14 c l)) [(4, .one (.int .u8 (.sym (u : Int)))), (5, .one (.bool (.sym true)))] ⟨[], [], 1⟩ [] := by kernel_rfl
theorem enc14 (W : World) (c : Int) (l : List Int) {u : Nat} (hu : enc (c == 2) l 256 = some u) : Calls Tryd.prog 14 #[.int .i64 c, .agg (dens (fun _ => 0) (c8 l))] W fun en w' => en = .returned (.tuple #[.int .u8 (u : Int), .bool true]) ∧ Below W.heap.size W w' := by
  have hcalls := calls_of_runG (g14_ok W) (n := 100000) (g := 14) Tryd.func14 (show Tryd.f14.body = some (bodyOf Tryd.f14) by kernel_rfl) (t := t14 (h14z c l (some u))) (args := [.one (.int .i64 (.sym c)), .agg (c8 l)]) ?_ (by rw [show Tryd.f14.ntmps = 19 by kernel_rfl]; simp)
    (R := fun v _ => v = .tup [(false, [.int .u8 (.sym (u : Int))]), (false, [.bool (.sym true)])]) (N := 1) (ks := []) (bs := []) (ke := [(4, false), (5, false)]) (be := []) rfl rfl ?_
  · refine hcalls.mono ?_
    rintro en w' ⟨v, g, f, rfl, rfl, _, hb⟩
    exact ⟨rfl, hb⟩
  · have e : HGOk (W : Bs) Tryd.prog Tryd.f14.ntmps (t14 (h14z c l (some u))) (bodyOf Tryd.f14) = (True ∧ (True ∧ LoopGOk (W : Bs) Tryd.prog 19 lb14 (h14z c l (some u))) ∧ True) := by kernel_rfl
    rw [e]
    have h := loop14 (W := W) c l
    unfold h14 at h
    rw [hu] at h
    exact ⟨trivial, ⟨trivial, h⟩, trivial⟩
  · have hx := x14_eq W c l u
    unfold x14 at hx
    rw [show Tryd.f14.ntmps = 19 by kernel_rfl, hx]
    refine ⟨?_, .inr rfl, [(false, [.int .u8 (.sym (u : Int))]), (false, [.bool (.sym true)])], _, by kernel_rfl, rfl, rfl⟩
    rw [SB.val_sym]
    unfold v14
    rw [sameS_refl (by rfl), sameB_refl (by rfl), @decide_eq_true _ (Classical.propDecidable _) rfl]
    rfl
def F14 : List TV → Option (SB × TV)
  | [.one (.int .i64 c), .agg [.int .i64 a0, .int .i64 a1, .int .i64 a2, .int .i64 a3, .int .i64 a4, .int .i64 a5, .int .i64 a6, .int .i64 a7]] =>
    some (.sym (enc (c.val == 2) [a0.val, a1.val, a2.val, a3.val, a4.val, a5.val, a6.val, a7.val] 256).isSome, .tup [(false, [.int .u8 (.sym (((enc (c.val == 2) [a0.val, a1.val, a2.val, a3.val, a4.val, a5.val, a6.val, a7.val] 256).getD 0 : Nat) : Int))]), (false, [.bool (.lit true)])])
  | _ => none
theorem spec14 (W : World) : SpecOk W Tryd.prog 14 (specV F14) := by
  refine spec_of ⟨Tryd.f14, Tryd.func14, by kernel_rfl, by kernel_rfl⟩ ?_
  intro args c u f w hF hc hW
  unfold F14 at hF
  split at hF <;> try contradiction
  rename_i c a0 a1 a2 a3 a4 a5 a6 a7
  simp only [Option.some.injEq, Prod.mk.injEq] at hF
  obtain ⟨rfl, rfl⟩ := hF
  rw [SB.val_sym] at hc
  obtain ⟨u, hu⟩ := Option.isSome_iff_exists.1 hc
  refine ⟨by simp, ?_⟩
  have h := enc14 w c.val [a0.val, a1.val, a2.val, a3.val, a4.val, a5.val, a6.val, a7.val] hu
  rw [hu]
  refine h.mono ?_
  rintro en w' ⟨rfl, hb⟩
  exact ⟨rfl, hb⟩
end Go.Proofs.YtdglgiaegjkinaaDoor

/- What Parse finds at the text of an instruction, plainly. -/

namespace Go.Proofs.YtdglgiaegjkinaaDoor
open Go Go.Sx Go.RowKit
set_option maxRecDepth 100000
theorem fmt_val {k : Bool} {v n : Nat} {f : Nat → Int} (hv : v < 256) (h0 : f 0 = (v : Int)) (hn : n = (tabK k v).1) : fmtR k n f = (txt (tabK k v).1 (tabK k v).2 (f 1) (f 2), ((tabK k v).1 : Int), 0) := by
  have hL := lens k v hv
  obtain ⟨n', hn'⟩ : ∃ n', n = n' + 1 := ⟨n - 1, by omega⟩
  unfold fmtR
  rw [hn', h0, Int.toNat_natCast]
  show (match Nat.blt (n' + 1) (tabK k v).1 with | true => (strB [], (0 : Int), (1 : Int)) | false => (txt (tabK k v).1 (tabK k v).2 (f 1) (f 2), ((tabK k v).1 : Int), 0)) = _
  rw [← hn', hn]
  have : Nat.blt (tabK k v).1 (tabK k v).1 = false := by
    rcases hL with h | h | h <;> rw [h] <;> rfl
  rw [this]
def tk (v : Nat) (x y : Int) (L : Nat) : List Int := [(v : Int), x, y].take L
theorem hit_some {k : Bool} {s t : ByteArray} {v : Nat} {l : List Int} (hv : v < 256) (h : hit k s t v = some l) : ∃ x y, (0 ≤ x ∧ x ≤ 255) ∧ (0 ≤ y ∧ y ≤ 255) ∧ s = txt (tabK k v).1 (tabK k v).2 x y ∧ l = tk v x y (tabK k v).1 := by
  unfold hit at h
  cases hb : bytes11 v (tail11 k t v) with
  | none => rw [hb] at h; cases h
  | some m =>
    rw [hb] at h
    dsimp only at h
    cases he : eqT (fmtR k m.length fun j => m.getD j 0).1 s with
    | false => rw [he] at h; cases h
    | true =>
      rw [he, cond_true, Option.some.injEq] at h
      subst h
      have hs := eqT_iff.1 he
      have hlen := len_tab k v hv
      rcases len_cases k v hv with h1 | h1 | h1
      · have hL : (tabK k v).1 = 1 := by omega
        have ht : tail11 k t v = none := by unfold tail11; rw [h1]; rfl
        rw [ht] at hb
        simp only [bytes11, Option.some.injEq] at hb
        subst hb
        rw [fmt_val (k := k) (n := [(v : Int)].length) (f := fun j => [(v : Int)].getD j 0) hv rfl hL.symm] at hs
        refine ⟨0, 0, by omega, by omega, ?_, by rw [hL]; rfl⟩
        rw [← hs, hL]
        exact txt_one (tabK k v).2 ([(v : Int)].getD 1 0) 0 ([(v : Int)].getD 2 0) 0
      · have hL : (tabK k v).1 = 2 := by omega
        have ht : tail11 k t v = some (valS t 1) := by unfold tail11; rw [h1]; rfl
        rw [ht] at hb
        cases hval : valS t 1 with
        | none => rw [hval] at hb; cases hb
        | some q =>
          rw [hval] at hb
          simp only [bytes11, Option.some.injEq] at hb
          subst hb
          rcases valS_len (.inl rfl) hval with ⟨_, x, rfl, hx⟩ | ⟨h', _⟩
          · rw [fmt_val (k := k) (n := [(v : Int), x].length) (f := fun j => [(v : Int), x].getD j 0) hv rfl hL.symm] at hs
            refine ⟨x, 0, hx, by omega, ?_, by rw [hL]; rfl⟩
            rw [← hs, hL]
            exact txt_two (tabK k v).2 ([(v : Int), x].getD 1 0) 0 ([(v : Int), x].getD 2 0)
          · omega
      · have hL : (tabK k v).1 = 3 := by omega
        have ht : tail11 k t v = some (valS t 2) := by unfold tail11; rw [h1]; rfl
        rw [ht] at hb
        cases hval : valS t 2 with
        | none => rw [hval] at hb; cases hb
        | some q =>
          rw [hval] at hb
          simp only [bytes11, Option.some.injEq] at hb
          subst hb
          rcases valS_len (.inr rfl) hval with ⟨h', _⟩ | ⟨_, x, y, rfl, hx, hy⟩
          · omega
          · rw [fmt_val (k := k) (n := [(v : Int), x, y].length) (f := fun j => [(v : Int), x, y].getD j 0) hv rfl hL.symm] at hs
            exact ⟨x, y, hx, hy, hs.symm, by rw [hL]; rfl⟩
theorem bsL_get (l : List Int) : ∀ b ∈ bsL l, ∃ n ∈ l, b = UInt8.ofNat n.toNat := by
  intro b hb
  unfold bsL at hb
  rw [List.mem_map] at hb
  obtain ⟨n, hn, rfl⟩ := hb
  exact ⟨n, hn, rfl⟩
theorem dig_ok {n : Int} (h : isDig n = true) : isSep ((UInt8.ofNat n.toNat).toNat : Int) = false := by
  unfold isDig at h
  rw [Bool.and_eq_true, Bool.and_eq_true, decide_eq_true_eq, decide_eq_true_eq, Bool.not_eq_true'] at h
  rw [UInt8.toNat_ofNat', show ((n.toNat % 2 ^ 8 : Nat) : Int) = n by omega]
  exact h.2.2
theorem dig_all {L : Nat} {x y : Int} (hx : 0 ≤ x ∧ x ≤ 255) (hy : 0 ≤ y ∧ y ≤ 255) : ∀ n ∈ dig L x y, isDig n = true := by
  intro n hn
  unfold dig at hn
  have h48 : isDig 48 = true := by kernel_rfl
  have h120 : isDig 120 = true := by kernel_rfl
  split at hn
  · cases hn
  · simp only [List.mem_cons, List.not_mem_nil, or_false] at hn
    rcases hn with rfl | rfl | rfl | rfl
    · exact h48
    · exact h120
    · exact hi4_ok hx
    · exact lo4_ok hx
  · simp only [List.mem_cons, List.not_mem_nil, or_false] at hn
    rcases hn with rfl | rfl | rfl | rfl | rfl | rfl
    · exact h48
    · exact h120
    · exact hi4_ok hy
    · exact lo4_ok hy
    · exact hi4_ok hx
    · exact lo4_ok hx
theorem dig_len (L : Nat) (x y : Int) : (dig L x y).length ≤ 6 := by
  unfold dig
  split <;> simp
theorem txt_size {k : Bool} {v : Nat} (hv : v < 256) (x y : Int) : (txt (tabK k v).1 (tabK k v).2 x y).size ≤ 106 ∧ (txt (tabK k v).1 (tabK k v).2 x y).data.toList = bsL (nats (tabK k v).2) ++ bsL (dig (tabK k v).1 x y) := by
  have he := List.all_eq_true.1 (ent_all k) _ (tab_mem k v hv)
  have hl : (txt (tabK k v).1 (tabK k v).2 x y).data.toList = bsL (nats (tabK k v).2) ++ bsL (dig (tabK k v).1 x y) := by
    rw [txt_eq, strB_list, bsL_app]
  refine ⟨?_, hl⟩
  rw [size_list, hl, List.length_append]
  unfold ent1 at he
  rw [Bool.and_eq_true, Bool.and_eq_true, Nat.blt_eq] at he
  have := dig_len (tabK k v).1 x y
  unfold bsL nats
  simp only [List.length_map]
  omega
theorem lastS_txt {k : Bool} {v : Nat} (hv : v < 256) {x y : Int} (hx : 0 ≤ x ∧ x ≤ 255) (hy : 0 ≤ y ∧ y ≤ 255) (hL : (tabK k v).1 ≠ 1) : lastS (txt (tabK k v).1 (tabK k v).2 x y) = strB (dig (tabK k v).1 x y) := by
  have he := List.all_eq_true.1 (ent_all k) _ (tab_mem k v hv)
  obtain ⟨hsz, hl⟩ := txt_size (k := k) hv x y
  unfold ent1 at he
  rw [Bool.and_eq_true, Bool.and_eq_true, Bool.or_eq_true, Nat.beq_eq] at he
  obtain ⟨h1, h2, h3⟩ := he
  rcases h3 with h3 | h3
  · exact absurd h3 hL
  cases hz : (tabK k v).2.getLast? with
  | none => rw [hz] at h3; cases h3
  | some z =>
    rw [hz] at h3
    simp only [Bool.or_eq_true, Nat.beq_eq] at h3
    have hp : (tabK k v).2 = (tabK k v).2.dropLast ++ [z] := by
      have hne : (tabK k v).2 ≠ [] := by intro h0; rw [h0] at hz; cases hz
      rw [List.getLast?_eq_some_getLast hne, Option.some.injEq] at hz
      rw [← hz]
      exact (List.dropLast_concat_getLast hne).symm
    have hsep : isSep ((UInt8.ofNat z).toNat : Int) = true := by
      rcases h3 with rfl | rfl <;> kernel_rfl
    have hn : noSep (bsL (dig (tabK k v).1 x y)) = true := by
      unfold noSep
      rw [List.all_eq_true]
      intro b hb
      obtain ⟨n, hn, rfl⟩ := bsL_get _ b hb
      rw [dig_ok (dig_all hx hy n hn)]
      rfl
    have hsplit : (txt (tabK k v).1 (tabK k v).2 x y).data.toList = (bsL (nats (tabK k v).2.dropLast) ++ [UInt8.ofNat z]) ++ bsL (dig (tabK k v).1 x y) := by
      rw [hl]
      congr 1
      rw [bsL_nats, bsL_nats]
      conv => lhs; rw [hp]
      rw [List.map_append]
      rfl
    rw [last_of hsplit hsep hn (by omega)]
    apply ba_eq
    rw [strB_list]
theorem tail_of {k : Bool} {v : Nat} (hv : v < 256) {x y : Int} (hx : 0 ≤ x ∧ x ≤ 255) (hy : 0 ≤ y ∧ y ≤ 255) : bytes11 v (tail11 k (lastS (txt (tabK k v).1 (tabK k v).2 x y)) v) = some (tk v x y (tabK k v).1) := by
  have hlen := len_tab k v hv
  rcases len_cases k v hv with h1 | h1 | h1
  · have hL : (tabK k v).1 = 1 := by omega
    have ht : ∀ t, tail11 k t v = none := fun t => by unfold tail11; rw [h1]; rfl
    rw [ht, hL]
    rfl
  · have hL : (tabK k v).1 = 2 := by omega
    have ht : ∀ t, tail11 k t v = some (valS t 1) := fun t => by unfold tail11; rw [h1]; rfl
    rw [ht, lastS_txt hv hx hy (by omega), hL, show dig 2 x y = [48, 120, hi4 x, lo4 x] from rfl, val2 hx]
    rfl
  · have hL : (tabK k v).1 = 3 := by omega
    have ht : ∀ t, tail11 k t v = some (valS t 2) := fun t => by unfold tail11; rw [h1]; rfl
    rw [ht, lastS_txt hv hx hy (by omega), hL, show dig 3 x y = [48, 120, hi4 y, lo4 y, hi4 x, lo4 x] from rfl, val3 hx hy]
    rfl
theorem tk_fmt {k : Bool} {v : Nat} (hv : v < 256) (x y : Int) : fmtR k (tk v x y (tabK k v).1).length (fun j => (tk v x y (tabK k v).1).getD j 0) = (txt (tabK k v).1 (tabK k v).2 x y, ((tabK k v).1 : Int), 0) := by
  have hL := lens k v hv
  rw [fmt_val (v := v) hv]
  · rcases hL with h | h | h
    · rw [h]
      simp only [tk]
      rw [txt_one _ x y _ _]
    · rw [h]
      show (txt 2 _ x _, _, _) = _
      rw [txt_two _ x _ y]
    · rw [h]
      rfl
  · rcases hL with h | h | h <;> rw [h] <;> rfl
  · rcases hL with h | h | h <;> rw [h] <;> rfl
theorem hit_of {k : Bool} {v : Nat} (hv : v < 256) {x y : Int} (hx : 0 ≤ x ∧ x ≤ 255) (hy : 0 ≤ y ∧ y ≤ 255) {s : ByteArray} (hs : s = txt (tabK k v).1 (tabK k v).2 x y) : hit k s (lastS s) v = some (tk v x y (tabK k v).1) := by
  subst hs
  rw [eq_hit (tail_of hv hx hy), tk_fmt hv]
  dsimp only
  rw [eqT_iff.2 rfl]
  rfl
def sameQ (q r : Nat × List Nat) : Bool := Nat.beq q.1 r.1 && sameN q.2 r.2
theorem sameQ_iff {q r : Nat × List Nat} : sameQ q r = true ↔ q = r := by
  unfold sameQ
  rw [Bool.and_eq_true, Nat.beq_eq]
  constructor
  · exact fun h => Prod.ext h.1 (sameN_eq h.2)
  · intro h
    rw [h]
    exact ⟨rfl, sameN_refl _⟩
/-- The first opcode, of the last n, that has the same text. -/
def frst (k : Bool) (q : Nat × List Nat) : Nat → Option Nat
  | 0 => none
  | n + 1 => bif sameQ (tabK k (255 - n)) q then some (255 - n) else frst k q n
theorem scan_txt {k : Bool} {v0 : Nat} (h0 : v0 < 256) {x y : Int} (hx : 0 ≤ x ∧ x ≤ 255) (hy : 0 ≤ y ∧ y ≤ 255) {s : ByteArray} (hs : s = txt (tabK k v0).1 (tabK k v0).2 x y) : ∀ n, n ≤ 256 → scan k s (lastS s) n = (frst k (tabK k v0) n).map fun v => tk v x y (tabK k v0).1
  | 0, _ => rfl
  | n + 1, hn => by
    have hv : 255 - n < 256 := by omega
    unfold scan frst
    cases hq : sameQ (tabK k (255 - n)) (tabK k v0) with
    | true =>
      have he := sameQ_iff.1 hq
      rw [hit_of (k := k) hv hx hy (by rw [he]; exact hs), he]
      rfl
    | false =>
      have hh : hit k s (lastS s) (255 - n) = none := by
        cases hz : hit k s (lastS s) (255 - n) with
        | none => rfl
        | some l =>
          obtain ⟨x', y', hx', hy', hs', _⟩ := hit_some hv hz
          rw [hs] at hs'
          have := (txt_inj h0 hv hx hy hx' hy' hs').1
          rw [sameQ_iff.2 this.symm] at hq
          cases hq
      rw [hh]
      exact scan_txt h0 hx hy hs n (by omega)
/-- It is the opcode itself on the 8085, the least one that decodes so on the 8080. -/
theorem frst85 : ((List.range 256).all fun v => match frst true (tabK true v) 256 with | some u => Nat.beq u v | none => false) = true := by kernel_rfl
theorem frst80 : ((List.range 256).all fun v => match frst false (tabK false v) 256, enc false (ins false v) 256 with | some u, some w => Nat.beq u w | _, _ => false) = true := by kernel_rfl
end Go.Proofs.YtdglgiaegjkinaaDoor
