/- listing.Parse: what it hands back. -/
import Derived.Test.YtdglgiaegjkinaaDoorSm
import Derived.Test.YtdglgiaegjkinaaDoorLb
namespace Go.Proofs.YtdglgiaegjkinaaDoor
open Go Go.Sx Go.RowKit
set_option maxRecDepth 100000
def okLA (s : ByteArray) : Prop := s.size ≠ 1 ∧ s.size ≤ 1000000 ∧ (8 < s.size ∨ asc s)
noncomputable def body11 : Code := match Tryd.f11.body with
  | some c => c
  | none => .skip
noncomputable def lb11 : Code := match body11 with
  | .seq _ (.seq _ (.seq _ (.seq (.seq _ (.block _ (.loop b))) _))) => b
  | _ => .skip
/-- The pieces of a round. -/
noncomputable def blk11 : Code := match lb11 with
  | .seq _ (.seq _ (.seq (.block _ c) _)) => c
  | _ => .skip
noncomputable def inc11 : Code := match lb11 with
  | .seq _ (.seq _ (.seq _ c)) => c
  | _ => .skip
noncomputable def bld11 : Code := match blk11 with
  | .seq _ (.seq _ (.seq c _)) => c
  | _ => .skip
noncomputable def cv11 : Code := match blk11 with
  | .seq _ (.seq _ (.seq _ (.seq (.seq _ (.cond _ (.seq c _) _)) _))) => c
  | _ => .skip
noncomputable def yes11 : Code := match blk11 with
  | .seq _ (.seq _ (.seq _ (.seq (.seq _ (.cond _ c _)) _))) => c
  | _ => .skip
noncomputable def fm11 : Code := match blk11 with
  | .seq _ (.seq _ (.seq _ (.seq _ (.seq c _)))) => c
  | _ => .skip
noncomputable def opsOf : Code → Array Oper
  | .region _ ops _ => ops
  | _ => #[]
noncomputable def idOf : Code → Nat
  | .region id _ _ => id
  | _ => 0
/-- Decode, by its eight numbers; how long an instruction is. -/
def lenF (k : Bool) (v : Nat) : Int := (ins k v).getD 1 0
def FDecF : List TV → Option (SB × TV)
  | [.one (.int .i64 c), .one (.int .u8 x)] => some (.sym (decide (0 ≤ x.val) && decide (x.val < 256)), .agg [.int .i64 (.sym ((ins (c.val == 2) x.val.toNat).getD 0 0)), .int .i64 (.sym (lenF (c.val == 2) x.val.toNat)), .int .i64 (.sym ((ins (c.val == 2) x.val.toNat).getD 2 0)), .int .i64 (.sym ((ins (c.val == 2) x.val.toNat).getD 3 0)), .int .i64 (.sym ((ins (c.val == 2) x.val.toNat).getD 4 0)), .int .i64 (.sym ((ins (c.val == 2) x.val.toNat).getD 5 0)), .int .i64 (.sym ((ins (c.val == 2) x.val.toNat).getD 6 0)), .int .i64 (.sym ((ins (c.val == 2) x.val.toNat).getD 7 0))])
  | _ => none
noncomputable def F22 : List TV → Option (SB × TV)
  | [.one (.str s), .one (.str t)] => some (.sym (yes (t = sep ∧ okLA s)), .one (.int .i64 (.sym (LA s))))
  | _ => none
noncomputable def G11 : List (Nat × Sx.Spec) := [(16, specV FDecF), (22, specV F22)]
noncomputable def gA11 : GapSp := ⟨2, 48, 49, 50, 22, 5, 1, 1, 0⟩
noncomputable def rcG (W : World) (c : Code) (l : List CS) : HG := .cust (runCalls Tryd.prog W G11 100000 63 (opsOf c) l 0)
/-- How a round goes: the value of the last part, if it is asked for and there; the bytes. -/
noncomputable def yesG (W : World) : Option (Option (List Int)) → HG
  | none => failG
  | some none => .seq (rcG W cv11 [⟨4, valN 39 42 43⟩]) (.seq .plain (.gap gA11))
  | some (some l) => .seq (rcG W cv11 [⟨4, valY 39 42 43 l⟩]) (.seq .plain (.gap gA11))
noncomputable def tP (W : World) (z : Option (Option (List Int))) (l : List Int) : HG :=
  .seq .plain (.seq .plain (.seq (.block (.seq .plain (.seq .plain (.seq (rcG W bld11 [⟨2, bld1 5 33 34⟩]) (.seq (.seq .plain (.cond (yesG W z) .plain)) (.seq (rcG W fm11 [⟨2, fmtO 0 52 53 54 l⟩]) .plain)))))) (.cust (plain0 Tryd.prog W G11 100000 63 inc11))))
def SP11 (c : Int) (s t : ByteArray) (v : Int) : SL := [(0, .one (.int .i64 (.sym c))), (1, .one (.str s)), (6, .one (.str t)), (25, .one (.int .i64 (.sym v)))]
def ks11 : List (Nat × Bool) := [(0, false), (1, false), (6, false), (25, true)]
def ke11 : List (Nat × Bool) := [(4, false), (5, false)]
noncomputable def r11 (W : World) (z : Option (Option (List Int))) (l : List Int) (c : Int) (s t : ByteArray) (v : Int) : RG := (runG Tryd.prog W G11 100000 63 (tP W z l) lb11 (SP11 c s t v) ⟨[], [], 0⟩ []).slim 0 ks11 [] ke11 []
def w8 (v : Int) : Int := IntKind.u8.wrap v
def o1 (a : Option Addr) (c : Nat) (v : Int) : Sx.Own := ⟨5, 1, a, 1, c, [.int .u8 (.sym (w8 v))]⟩
def okD (v : Int) : Bool := decide (0 ≤ w8 v) && decide (w8 v < 256)
noncomputable def leaf1 (vc : SB) (a : Option Addr) (n k : Nat) (o : Sx.Own) : RG := .leaf .ret vc [(4, .one (.sl a n k)), (5, .one (.int .i64 (.lit 0)))] ⟨[], [], 0⟩ [o]
noncomputable def leaf2 (vc : SB) (c : Int) (s t : ByteArray) (v : Int) : RG := .leaf .nrm vc (SP11 c s t (gadd .i64 v 1)) ⟨[], [], 0⟩ []
def ft (c : Int) (n : Nat) (l : List Int) : ByteArray := (fmtR (c == 2) n fun j => l.getD j 0).1
theorem rN (W : World) (l : List Int) (c : Int) (s t : ByteArray) (v : Int) : r11 W none l c s t v = .br (decide (v < 256)) (.any fun a k => .br (decide (lenF (c == 2) (w8 v).toNat > 1)) .fail
   (.br (eqT (ft c 1 l) s) (leaf1 (.sym (okD v && yes (OkZ (o1 a k v) a 1 k l ∧ BytL l))) a 1 k (o1 a k v)) (leaf2 (.sym (okD v && yes (OkZ (o1 a k v) a 1 k l ∧ BytL l))) c s t v))) (.leaf (.exit 0) (.lit true) [] ⟨[], [], 0⟩ []) := by kernel_rfl
def okK (v : Int) (a : Option Addr) (k : Nat) (l : List Int) : Prop := OkZ (o1 a k v) a 1 k l ∧ BytL l
def lm1 (c v : Int) : Int := gsub .i64 (lenF (c == 2) (w8 v).toNat) 1
def okN (c : Int) (t : ByteArray) (v : Int) (z : Option (List Int)) : Prop := ∃ k : Nat, lm1 c v = k ∧ (k = 1 ∨ k = 2) ∧ valS t k = z
noncomputable def junk (l : List Int) (c : Int) (s t : ByteArray) (v : Int) (a : Option Addr) (k : Nat) : RG := .br (eqT (ft c 1 l) s) (leaf1 (.sym (okD v && yes (okK v a k l))) a 1 k (o1 a k v)) (leaf2 (.sym (okD v && yes (okK v a k l))) c s t v)
theorem rF (W : World) (l : List Int) (c : Int) (s t : ByteArray) (v : Int) : r11 W (some none) l c s t v = .br (decide (v < 256)) (.any fun a k => .br (decide (lenF (c == 2) (w8 v).toNat > 1)) (leaf2 (.sym (okD v && yes (okN c t v none))) c s t v)
   (junk l c s t v a k)) (.leaf (.exit 0) (.lit true) [] ⟨[], [], 0⟩ []) := by kernel_rfl
def o2 (a : Option Addr) (c : Nat) (v : Int) (l : List Int) : Sx.Own := ⟨5, 1, a, 1 + l.length, c, .int .u8 (.sym (w8 v)) :: zs l⟩
noncomputable def okY (c : Int) (t : ByteArray) (v : Int) (l1 l : List Int) (a : Option Addr) (k : Nat) (a2 : Option Addr) (k2 : Nat) : Bool :=
  okD v && (((yes (okN c t v (some l1)) && (true && true)) && ((decide (a = a) && (decide (1 = 1) && decide (k = k))) && (decide (1 + l1.length ≤ maxLen) && decide ((1 + l1.length) * 1 ≤ 140737488355328)))) && yes (OkZ (o2 a2 k2 v l1) a2 (1 + l1.length) k2 l ∧ BytL l))
noncomputable def good (l l1 : List Int) (c : Int) (s t : ByteArray) (v : Int) (a : Option Addr) (k : Nat) (a2 : Option Addr) (k2 : Nat) : RG := .br (eqT (ft c (1 + l1.length) l) s) (leaf1 (.sym (okY c t v l1 l a k a2 k2)) a2 (1 + l1.length) k2 (o2 a2 k2 v l1)) (leaf2 (.sym (okY c t v l1 l a k a2 k2)) c s t v)
theorem rY1 (W : World) (l : List Int) (c : Int) (s t : ByteArray) (v x : Int) : r11 W (some (some [x])) l c s t v = .br (decide (v < 256)) (.any fun a k => .br (decide (lenF (c == 2) (w8 v).toNat > 1)) (.any fun a2 k2 => good l [x] c s t v a k a2 k2)
   (junk l c s t v a k)) (.leaf (.exit 0) (.lit true) [] ⟨[], [], 0⟩ []) := by kernel_rfl
theorem rY2 (W : World) (l : List Int) (c : Int) (s t : ByteArray) (v x y : Int) : r11 W (some (some [x, y])) l c s t v = .br (decide (v < 256)) (.any fun a k => .br (decide (lenF (c == 2) (w8 v).toNat > 1)) (.any fun a2 k2 => good l [x, y] c s t v a k a2 k2)
   (junk l c s t v a k)) (.leaf (.exit 0) (.lit true) [] ⟨[], [], 0⟩ []) := by kernel_rfl
noncomputable def End11 (z : Option (List Int)) : RG := match z with
  | some l => .any fun a k => .leaf .ret (.lit true) [(4, .one (.sl a l.length k)), (5, .one (.int .i64 (.lit 0)))] ⟨[], [], 0⟩ [⟨5, 1, a, l.length, k, zs l⟩]
  | none => .leaf (.exit 0) (.lit true) [] ⟨[], [], 0⟩ []
def lastS (s : ByteArray) : ByteArray := bif decide (LA s ≥ 0) then s.extract (gadd .i64 (LA s) 1).toNat s.size else s
noncomputable def h11 (b : Bool) (c : Int) (s t : ByteArray) (z : Option (List Int)) : LG := .at_ b ks11 [] 0 (SP11 c s t 0) [] [] (End11 z)
noncomputable def t11 (b : Bool) (c : Int) (s t : ByteArray) (z : Option (List Int)) : HG := .seq .plain (.seq .plain (.seq .plain (.seq (.seq .plain (.block (.loop (h11 b c s t z)))) .plain)))
noncomputable def x11 (W : World) (b : Bool) (c : Int) (s t : ByteArray) (z : Option (List Int)) : RG := (runG Tryd.prog W G11 100000 63 (t11 b c s t z) body11 (argSlots 0 [.one (.int .i64 (.sym c)), .one (.str s)]) noMem []).slim 0 [] [] ke11 []
noncomputable def vW (s : ByteArray) : Bool := yes (sep = sep ∧ okLA s) && (bif decide (0 ≤ LA s) then decide (0 ≤ gadd .i64 (LA s) 1) && decide (gadd .i64 (LA s) 1 ≤ (s.size : Int)) else true)
noncomputable def kW (b : Bool) (c : Int) (s t : ByteArray) : Bool := b && (sameS (SP11 c s (lastS s) 0) (SP11 c s t 0) && (sameB [] [] && @decide (([] : Gh) = []) (Classical.propDecidable _)))
theorem wN (W : World) (b : Bool) (c : Int) (s t : ByteArray) : x11 W b c s t none = .leaf .ret (.sym (vW s && kW b c s t)) [(4, .one (.sl none 0 0)), (5, .one (.int .i64 (.lit 2)))] ⟨[], [], 0⟩ [] := by kernel_rfl
theorem wY (W : World) (b : Bool) (c : Int) (s t : ByteArray) (l : List Int) : x11 W b c s t (some l) = .any fun a k => .leaf .ret (.sym (vW s && kW b c s t)) [(4, .one (.sl a l.length k)), (5, .one (.int .i64 (.lit 0)))] ⟨[], [], 0⟩ [⟨5, 1, a, l.length, k, zs l⟩] := by kernel_rfl
/-! ### The contracts -/
theorem ins_list (k : Bool) (v : Nat) (hv : v < 256) : (ins k v).map (Value.int .i64) = [(ins k v).getD 0 0, lenF k v, (ins k v).getD 2 0, (ins k v).getD 3 0, (ins k v).getD 4 0, (ins k v).getD 5 0, (ins k v).getD 6 0, (ins k v).getD 7 0].map (Value.int .i64) := by
  have h := ins_len v hv
  have h8 : (ins k v).length = 8 := by
    cases k
    · exact h.2
    · exact h.1
  unfold lenF
  generalize ins k v = l at h8
  match l, h8 with
  | [a, b, c, d, e, f, g, i], _ => rfl
theorem decF_ok (W : World) : SpecOk W Tryd.prog 16 (specV FDecF) := by
  refine spec_of ⟨Tryd.f16, Tryd.func16, by kernel_rfl, by kernel_rfl⟩ ?_
  intro args c u f w hF hc hW
  unfold FDecF at hF
  split at hF <;> try contradiction
  rename_i c x
  simp only [Option.some.injEq, Prod.mk.injEq] at hF
  obtain ⟨rfl, rfl⟩ := hF
  rw [SB.val_sym, Bool.and_eq_true, decide_eq_true_eq, decide_eq_true_eq] at hc
  refine ⟨by simp, ?_⟩
  have hx : ((x.val.toNat : Nat) : Int) = x.val := by omega
  have h := dec_calls (g := 16) (fun _ h => dec16 h) w c.val x.val.toNat (by omega)
  rw [hx] at h
  refine h.mono ?_
  rintro en w' ⟨rfl, hb⟩
  refine ⟨?_, hb⟩
  rw [ins_list _ _ (by omega)]
  rfl
theorem Tabs.old {W w : World} (h : Tabs W) (ho : Old W w) : Tabs w := fun _ h2 => h _ ⟨fun hc => h2.cell (ho.cell hc)⟩
theorem f22_ok {W : World} (hT : Tabs W) : SpecOk W Tryd.prog 22 (specV F22) := by
  refine spec_of ⟨Tryd.f22, Tryd.func22, by kernel_rfl, by kernel_rfl⟩ ?_
  intro args c u f w hF hc hW
  unfold F22 at hF
  split at hF <;> try contradiction
  rename_i s t
  simp only [Option.some.injEq, Prod.mk.injEq] at hF
  obtain ⟨rfl, rfl⟩ := hF
  obtain ⟨rfl, h1, h2, h3⟩ := of_yes hc
  exact ⟨by simp, la_big (hT.old hW) h1 h2 h3⟩
theorem g11_ok {W : World} (hT : Tabs W) : GOk W Tryd.prog G11 := gok_cons (decF_ok W) (gok_cons (f22_ok hT) (gok_nil W))
/-! ### What is computed -/
def tail11 (k : Bool) (t : ByteArray) (v : Nat) : Option (Option (List Int)) := bif decide (lenF k v > 1) then some (valS t (lenF k v - 1).toNat) else none
def bytes11 (v : Nat) : Option (Option (List Int)) → Option (List Int)
  | none => some [(v : Int)]
  | some none => none
  | some (some l) => some ((v : Int) :: l)
def hit (k : Bool) (s t : ByteArray) (v : Nat) : Option (List Int) := match bytes11 v (tail11 k t v) with
  | some l => bif eqT (fmtR k l.length fun j => l.getD j 0).1 s then some l else none
  | none => none
/-- The first opcode, of the last n, that has the text. -/
def scan (k : Bool) (s t : ByteArray) : Nat → Option (List Int)
  | 0 => none
  | n + 1 => match hit k s t (255 - n) with
    | some l => some l
    | none => scan k s t n
theorem scan_step {k : Bool} {s t : ByteArray} {v : Nat} (hv : v < 256) : scan k s t (256 - v) = match hit k s t v with | some l => some l | none => scan k s t (256 - (v + 1)) := by
  have e : 256 - v = (255 - v) + 1 := by omega
  rw [e]
  show (match hit k s t (255 - (255 - v)) with | some l => some l | none => scan k s t (255 - v)) = _
  rw [show 255 - (255 - v) = v by omega, show 256 - (v + 1) = 255 - v by omega]
theorem len_tab (k : Bool) (v : Nat) (hv : v < 256) : lenF k v = ((tabK k v).1 : Int) := by
  have h : (List.range 256).all (fun v => decide (lenF true v = ((tabK true v).1 : Int)) && decide (lenF false v = ((tabK false v).1 : Int))) = true := by kernel_rfl
  have h1 := List.all_eq_true.1 h v (List.mem_range.2 hv)
  rw [Bool.and_eq_true, decide_eq_true_eq, decide_eq_true_eq] at h1
  cases k
  · exact h1.2
  · exact h1.1
theorem len_cases (k : Bool) (v : Nat) (hv : v < 256) : lenF k v = 1 ∨ lenF k v = 2 ∨ lenF k v = 3 := by
  rw [len_tab k v hv]
  have := lens k v hv
  omega
theorem byt2_rng (x y : Int) : 0 ≤ byt2 x y ∧ byt2 x y ≤ 255 := by
  unfold byt2
  rw [IntKind.wrap_u8]
  omega
theorem valS_len {t : ByteArray} {n : Nat} {l : List Int} (hn : n = 1 ∨ n = 2) (h : valS t n = some l) : (n = 1 ∧ ∃ x, l = [x] ∧ 0 ≤ x ∧ x ≤ 255) ∨ (n = 2 ∧ ∃ x y, l = [x, y] ∧ (0 ≤ x ∧ x ≤ 255) ∧ 0 ≤ y ∧ y ≤ 255) := by
  rcases hn with rfl | rfl
  · unfold valS at h
    left
    cases h1 : c1 t 1 <;> rw [h1] at h
    · cases h2 : c2 (cutS t hx0) 0 <;> rw [h2] at h
      · simp only [cond_false, Option.some.injEq] at h
        exact ⟨rfl, _, h.symm, byt2_rng _ _⟩
      · cases h
    · cases h
  · unfold valS at h
    right
    cases h1 : c1 t 2 <;> rw [h1] at h
    · cases h2 : c2 (cutS t hx0) 0 <;> rw [h2] at h
      · cases h3 : c2 (cutS t hx0) 1 <;> rw [h3] at h
        · simp only [cond_false, Option.some.injEq] at h
          exact ⟨rfl, _, _, h.symm, byt2_rng _ _, byt2_rng _ _⟩
        · cases h
      · cases h
    · cases h
theorem w8_nat {v : Nat} (hv : v < 256) : w8 (v : Int) = (v : Int) := by
  unfold w8
  rw [IntKind.wrap_u8]
  omega
end Go.Proofs.YtdglgiaegjkinaaDoor
