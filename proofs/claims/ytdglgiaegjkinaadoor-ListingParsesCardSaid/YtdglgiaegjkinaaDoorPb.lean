/- listing.Parse: what it hands back. (Several texts in one.) -/
import Derived.Test.YtdglgiaegjkinaaDoorSm
import Derived.Test.YtdglgiaegjkinaaDoorLc
namespace Go.Proofs.YtdglgiaegjkinaaDoor
open Go Go.Sx Go.RowKit
set_option maxRecDepth 100000
def okLA (s : ByteArray) : Prop := True ∧ s.size ≤ 1000000 ∧ True
noncomputable def body11 : Code := match Tryd.f11.body with
  | some c => c
  | none => .skip
noncomputable def lb11 : Code := match body11 with
  | .seq _ (.seq _ (.seq _ (.seq (.seq _ (.block _ (.loop b))) _))) => b
  | _ => .skip
/-- The pieces of a round. -/
noncomputable def blk11 : Code := match lb11 with
  | .seq _ (.seq _ (.seq (.block _ c) _)) => c
  | _ => .skip
noncomputable def inc11 : Code := match lb11 with
  | .seq _ (.seq _ (.seq _ c)) => c
  | _ => .skip
noncomputable def bld11 : Code := match blk11 with
  | .seq _ (.seq _ (.seq c _)) => c
  | _ => .skip
noncomputable def cv11 : Code := match blk11 with
  | .seq _ (.seq _ (.seq _ (.seq (.seq _ (.cond _ (.seq c _) _)) _))) => c
  | _ => .skip
noncomputable def yes11 : Code := match blk11 with
  | .seq _ (.seq _ (.seq _ (.seq (.seq _ (.cond _ c _)) _))) => c
  | _ => .skip
noncomputable def fm11 : Code := match blk11 with
  | .seq _ (.seq _ (.seq _ (.seq _ (.seq c _)))) => c
  | _ => .skip
noncomputable def opsOf : Code → Array Oper
  | .region _ ops _ => ops
  | _ => #[]
noncomputable def idOf : Code → Nat
  | .region id _ _ => id
  | _ => 0
/-- Decode, by its eight numbers; how long an instruction is. -/
def lenF (k : Bool) (v : Nat) : Int := (ins k v).getD 1 0
def FDecF : List TV → Option (SB × TV)
  | [.one (.int .i64 c), .one (.int .u8 x)] => some (.sym (decide (0 ≤ x.val) && decide (x.val < 256)), .agg [.int .i64 (.sym ((ins (c.val == 2) x.val.toNat).getD 0 0)), .int .i64 (.sym (lenF (c.val == 2) x.val.toNat)), .int .i64 (.sym ((ins (c.val == 2) x.val.toNat).getD 2 0)), .int .i64 (.sym ((ins (c.val == 2) x.val.toNat).getD 3 0)), .int .i64 (.sym ((ins (c.val == 2) x.val.toNat).getD 4 0)), .int .i64 (.sym ((ins (c.val == 2) x.val.toNat).getD 5 0)), .int .i64 (.sym ((ins (c.val == 2) x.val.toNat).getD 6 0)), .int .i64 (.sym ((ins (c.val == 2) x.val.toNat).getD 7 0))])
  | _ => none
noncomputable def F22 : List TV → Option (SB × TV)
  | [.one (.str s), .one (.str t)] => some (.sym (yes (t = sep ∧ okLA s)), .one (.int .i64 (.sym (LA s))))
  | _ => none
noncomputable def G11 : List (Nat × Sx.Spec) := [(16, specV FDecF), (22, specV F22)]
noncomputable def gA11 : GapSp := ⟨2, 48, 49, 50, 22, 5, 1, 1, 0⟩
noncomputable def rcG (W : World) (c : Code) (l : List CS) : HG := .cust (runCalls Tryd.prog W G11 100000 63 (opsOf c) l 0)
/-- How a round goes: the value of the last part, if it is asked for and there; the bytes. -/
noncomputable def yesG (W : World) : Option (Option (List Int)) → HG
  | none => failG
  | some none => .seq (rcG W cv11 [⟨4, valN 39 42 43⟩]) (.seq .plain (.gap gA11))
  | some (some l) => .seq (rcG W cv11 [⟨4, valY 39 42 43 l⟩]) (.seq .plain (.gap gA11))
noncomputable def tP (W : World) (z : Option (Option (List Int))) (l : List Int) : HG :=
  .seq .plain (.seq .plain (.seq (.block (.seq .plain (.seq .plain (.seq (rcG W bld11 [⟨2, bld1 5 33 34⟩]) (.seq (.seq .plain (.cond (yesG W z) .plain)) (.seq (rcG W fm11 [⟨2, fmtO 0 52 53 54 l⟩]) .plain)))))) (.cust (plain0 Tryd.prog W G11 100000 63 inc11))))
def SP11 (c : Int) (s t : ByteArray) (v : Int) : SL := [(0, .one (.int .i64 (.sym c))), (1, .one (.str s)), (6, .one (.str t)), (25, .one (.int .i64 (.sym v)))]
def ks11 : List (Nat × Bool) := [(0, false), (1, false), (6, false), (25, true)]
def ke11 : List (Nat × Bool) := [(4, false), (5, false)]
noncomputable def r11 (W : World) (z : Option (Option (List Int))) (l : List Int) (c : Int) (s t : ByteArray) (v : Int) : RG := (runG Tryd.prog W G11 100000 63 (tP W z l) lb11 (SP11 c s t v) ⟨[], [], 0⟩ []).slim 0 ks11 [] ke11 []
def w8 (v : Int) : Int := IntKind.u8.wrap v
def o1 (a : Option Addr) (c : Nat) (v : Int) : Sx.Own := ⟨5, 1, a, 1, c, [.int .u8 (.sym (w8 v))]⟩
def okD (v : Int) : Bool := decide (0 ≤ w8 v) && decide (w8 v < 256)
noncomputable def leaf1 (vc : SB) (a : Option Addr) (n k : Nat) (o : Sx.Own) : RG := .leaf .ret vc [(4, .one (.sl a n k)), (5, .one (.int .i64 (.lit 0)))] ⟨[], [], 0⟩ [o]
noncomputable def leaf2 (vc : SB) (c : Int) (s t : ByteArray) (v : Int) : RG := .leaf .nrm vc (SP11 c s t (gadd .i64 v 1)) ⟨[], [], 0⟩ []
def ft (c : Int) (n : Nat) (l : List Int) : ByteArray := (fmtR (c == 2) n fun j => l.getD j 0).1
theorem rN (W : World) (l : List Int) (c : Int) (s t : ByteArray) (v : Int) : r11 W none l c s t v = .br (decide (v < 256)) (.any fun a k => .br (decide (lenF (c == 2) (w8 v).toNat > 1)) .fail
   (.br (eqT (ft c 1 l) s) (leaf1 (.sym (okD v && yes (OkZ (o1 a k v) a 1 k l ∧ BytL l))) a 1 k (o1 a k v)) (leaf2 (.sym (okD v && yes (OkZ (o1 a k v) a 1 k l ∧ BytL l))) c s t v))) (.leaf (.exit 0) (.lit true) [] ⟨[], [], 0⟩ []) := by kernel_rfl
def okK (v : Int) (a : Option Addr) (k : Nat) (l : List Int) : Prop := OkZ (o1 a k v) a 1 k l ∧ BytL l
def lm1 (c v : Int) : Int := gsub .i64 (lenF (c == 2) (w8 v).toNat) 1
def okN (c : Int) (t : ByteArray) (v : Int) (z : Option (List Int)) : Prop := ∃ k : Nat, lm1 c v = k ∧ (k = 1 ∨ k = 2) ∧ valS t k = z
noncomputable def junk (l : List Int) (c : Int) (s t : ByteArray) (v : Int) (a : Option Addr) (k : Nat) : RG := .br (eqT (ft c 1 l) s) (leaf1 (.sym (okD v && yes (okK v a k l))) a 1 k (o1 a k v)) (leaf2 (.sym (okD v && yes (okK v a k l))) c s t v)
theorem rF (W : World) (l : List Int) (c : Int) (s t : ByteArray) (v : Int) : r11 W (some none) l c s t v = .br (decide (v < 256)) (.any fun a k => .br (decide (lenF (c == 2) (w8 v).toNat > 1)) (leaf2 (.sym (okD v && yes (okN c t v none))) c s t v)
   (junk l c s t v a k)) (.leaf (.exit 0) (.lit true) [] ⟨[], [], 0⟩ []) := by kernel_rfl
def o2 (a : Option Addr) (c : Nat) (v : Int) (l : List Int) : Sx.Own := ⟨5, 1, a, 1 + l.length, c, .int .u8 (.sym (w8 v)) :: zs l⟩
noncomputable def okY (c : Int) (t : ByteArray) (v : Int) (l1 l : List Int) (a : Option Addr) (k : Nat) (a2 : Option Addr) (k2 : Nat) : Bool :=
  okD v && (((yes (okN c t v (some l1)) && (true && true)) && ((decide (a = a) && (decide (1 = 1) && decide (k = k))) && (decide (1 + l1.length ≤ maxLen) && decide ((1 + l1.length) * 1 ≤ 140737488355328)))) && yes (OkZ (o2 a2 k2 v l1) a2 (1 + l1.length) k2 l ∧ BytL l))
noncomputable def good (l l1 : List Int) (c : Int) (s t : ByteArray) (v : Int) (a : Option Addr) (k : Nat) (a2 : Option Addr) (k2 : Nat) : RG := .br (eqT (ft c (1 + l1.length) l) s) (leaf1 (.sym (okY c t v l1 l a k a2 k2)) a2 (1 + l1.length) k2 (o2 a2 k2 v l1)) (leaf2 (.sym (okY c t v l1 l a k a2 k2)) c s t v)
theorem rY1 (W : World) (l : List Int) (c : Int) (s t : ByteArray) (v x : Int) : r11 W (some (some [x])) l c s t v = .br (decide (v < 256)) (.any fun a k => .br (decide (lenF (c == 2) (w8 v).toNat > 1)) (.any fun a2 k2 => good l [x] c s t v a k a2 k2)
   (junk l c s t v a k)) (.leaf (.exit 0) (.lit true) [] ⟨[], [], 0⟩ []) := by kernel_rfl
theorem rY2 (W : World) (l : List Int) (c : Int) (s t : ByteArray) (v x y : Int) : r11 W (some (some [x, y])) l c s t v = .br (decide (v < 256)) (.any fun a k => .br (decide (lenF (c == 2) (w8 v).toNat > 1)) (.any fun a2 k2 => good l [x, y] c s t v a k a2 k2)
   (junk l c s t v a k)) (.leaf (.exit 0) (.lit true) [] ⟨[], [], 0⟩ []) := by kernel_rfl
noncomputable def End11 (z : Option (List Int)) : RG := match z with
  | some l => .any fun a k => .leaf .ret (.lit true) [(4, .one (.sl a l.length k)), (5, .one (.int .i64 (.lit 0)))] ⟨[], [], 0⟩ [⟨5, 1, a, l.length, k, zs l⟩]
  | none => .leaf (.exit 0) (.lit true) [] ⟨[], [], 0⟩ []
def lastS (s : ByteArray) : ByteArray := bif decide (LA s ≥ 0) then s.extract (gadd .i64 (LA s) 1).toNat s.size else s
noncomputable def h11 (b : Bool) (c : Int) (s t : ByteArray) (z : Option (List Int)) : LG := .at_ b ks11 [] 0 (SP11 c s t 0) [] [] (End11 z)
noncomputable def t11 (b : Bool) (c : Int) (s t : ByteArray) (z : Option (List Int)) : HG := .seq .plain (.seq .plain (.seq .plain (.seq (.seq .plain (.block (.loop (h11 b c s t z)))) .plain)))
noncomputable def x11 (W : World) (b : Bool) (c : Int) (s t : ByteArray) (z : Option (List Int)) : RG := (runG Tryd.prog W G11 100000 63 (t11 b c s t z) body11 (argSlots 0 [.one (.int .i64 (.sym c)), .one (.str s)]) noMem []).slim 0 [] [] ke11 []
noncomputable def vW (s : ByteArray) : Bool := yes (sep = sep ∧ okLA s) && (bif decide (0 ≤ LA s) then decide (0 ≤ gadd .i64 (LA s) 1) && decide (gadd .i64 (LA s) 1 ≤ (s.size : Int)) else true)
noncomputable def kW (b : Bool) (c : Int) (s t : ByteArray) : Bool := b && (sameS (SP11 c s (lastS s) 0) (SP11 c s t 0) && (sameB [] [] && @decide (([] : Gh) = []) (Classical.propDecidable _)))
theorem wN (W : World) (b : Bool) (c : Int) (s t : ByteArray) : x11 W b c s t none = .leaf .ret (.sym (vW s && kW b c s t)) [(4, .one (.sl none 0 0)), (5, .one (.int .i64 (.lit 2)))] ⟨[], [], 0⟩ [] := by kernel_rfl
theorem wY (W : World) (b : Bool) (c : Int) (s t : ByteArray) (l : List Int) : x11 W b c s t (some l) = .any fun a k => .leaf .ret (.sym (vW s && kW b c s t)) [(4, .one (.sl a l.length k)), (5, .one (.int .i64 (.lit 0)))] ⟨[], [], 0⟩ [⟨5, 1, a, l.length, k, zs l⟩] := by kernel_rfl
/-! ### The contracts -/
theorem ins_list (k : Bool) (v : Nat) (hv : v < 256) : (ins k v).map (Value.int .i64) = [(ins k v).getD 0 0, lenF k v, (ins k v).getD 2 0, (ins k v).getD 3 0, (ins k v).getD 4 0, (ins k v).getD 5 0, (ins k v).getD 6 0, (ins k v).getD 7 0].map (Value.int .i64) := by
  have h := ins_len v hv
  have h8 : (ins k v).length = 8 := by
    cases k
    · exact h.2
    · exact h.1
  unfold lenF
  generalize ins k v = l at h8
  match l, h8 with
  | [a, b, c, d, e, f, g, i], _ => rfl
theorem decF_ok (W : World) : SpecOk W Tryd.prog 16 (specV FDecF) := by
  refine spec_of ⟨Tryd.f16, Tryd.func16, by kernel_rfl, by kernel_rfl⟩ ?_
  intro args c u f w hF hc hW
  unfold FDecF at hF
  split at hF <;> try contradiction
  rename_i c x
  simp only [Option.some.injEq, Prod.mk.injEq] at hF
  obtain ⟨rfl, rfl⟩ := hF
  rw [SB.val_sym, Bool.and_eq_true, decide_eq_true_eq, decide_eq_true_eq] at hc
  refine ⟨by simp, ?_⟩
  have hx : ((x.val.toNat : Nat) : Int) = x.val := by omega
  have h := dec_calls (g := 16) (fun _ h => dec16 h) w c.val x.val.toNat (by omega)
  rw [hx] at h
  refine h.mono ?_
  rintro en w' ⟨rfl, hb⟩
  refine ⟨?_, hb⟩
  rw [ins_list _ _ (by omega)]
  rfl
theorem Tabs.old {W w : World} (h : Tabs W) (ho : Old W w) : Tabs w := fun _ h2 => h _ ⟨fun hc => h2.cell (ho.cell hc)⟩
theorem f22_ok {W : World} (hT : Tabs W) : SpecOk W Tryd.prog 22 (specV F22) := by
  refine spec_of ⟨Tryd.f22, Tryd.func22, by kernel_rfl, by kernel_rfl⟩ ?_
  intro args c u f w hF hc hW
  unfold F22 at hF
  split at hF <;> try contradiction
  rename_i s t
  simp only [Option.some.injEq, Prod.mk.injEq] at hF
  obtain ⟨rfl, rfl⟩ := hF
  obtain ⟨rfl, -, h2, -⟩ := of_yes hc
  exact ⟨by simp, la_all (hT.old hW) h2⟩
theorem g11_ok {W : World} (hT : Tabs W) : GOk W Tryd.prog G11 := gok_cons (decF_ok W) (gok_cons (f22_ok hT) (gok_nil W))
/-! ### What is computed -/
def tail11 (k : Bool) (t : ByteArray) (v : Nat) : Option (Option (List Int)) := bif decide (lenF k v > 1) then some (valS t (lenF k v - 1).toNat) else none
def bytes11 (v : Nat) : Option (Option (List Int)) → Option (List Int)
  | none => some [(v : Int)]
  | some none => none
  | some (some l) => some ((v : Int) :: l)
def hit (k : Bool) (s t : ByteArray) (v : Nat) : Option (List Int) := match bytes11 v (tail11 k t v) with
  | some l => bif eqT (fmtR k l.length fun j => l.getD j 0).1 s then some l else none
  | none => none
/-- The first opcode, of the last n, that has the text. -/
def scan (k : Bool) (s t : ByteArray) : Nat → Option (List Int)
  | 0 => none
  | n + 1 => match hit k s t (255 - n) with
    | some l => some l
    | none => scan k s t n
theorem scan_step {k : Bool} {s t : ByteArray} {v : Nat} (hv : v < 256) : scan k s t (256 - v) = match hit k s t v with | some l => some l | none => scan k s t (256 - (v + 1)) := by
  have e : 256 - v = (255 - v) + 1 := by omega
  rw [e]
  show (match hit k s t (255 - (255 - v)) with | some l => some l | none => scan k s t (255 - v)) = _
  rw [show 255 - (255 - v) = v by omega, show 256 - (v + 1) = 255 - v by omega]
theorem len_tab (k : Bool) (v : Nat) (hv : v < 256) : lenF k v = ((tabK k v).1 : Int) := by
  have h : (List.range 256).all (fun v => decide (lenF true v = ((tabK true v).1 : Int)) && decide (lenF false v = ((tabK false v).1 : Int))) = true := by kernel_rfl
  have h1 := List.all_eq_true.1 h v (List.mem_range.2 hv)
  rw [Bool.and_eq_true, decide_eq_true_eq, decide_eq_true_eq] at h1
  cases k
  · exact h1.2
  · exact h1.1
theorem len_cases (k : Bool) (v : Nat) (hv : v < 256) : lenF k v = 1 ∨ lenF k v = 2 ∨ lenF k v = 3 := by
  rw [len_tab k v hv]
  have := lens k v hv
  omega
theorem byt2_rng (x y : Int) : 0 ≤ byt2 x y ∧ byt2 x y ≤ 255 := by
  unfold byt2
  rw [IntKind.wrap_u8]
  omega
theorem valS_len {t : ByteArray} {n : Nat} {l : List Int} (hn : n = 1 ∨ n = 2) (h : valS t n = some l) : (n = 1 ∧ ∃ x, l = [x] ∧ 0 ≤ x ∧ x ≤ 255) ∨ (n = 2 ∧ ∃ x y, l = [x, y] ∧ (0 ≤ x ∧ x ≤ 255) ∧ 0 ≤ y ∧ y ≤ 255) := by
  rcases hn with rfl | rfl
  · unfold valS at h
    left
    cases h1 : c1 t 1 <;> rw [h1] at h
    · cases h2 : c2 (cutS t hx0) 0 <;> rw [h2] at h
      · simp only [cond_false, Option.some.injEq] at h
        exact ⟨rfl, _, h.symm, byt2_rng _ _⟩
      · cases h
    · cases h
  · unfold valS at h
    right
    cases h1 : c1 t 2 <;> rw [h1] at h
    · cases h2 : c2 (cutS t hx0) 0 <;> rw [h2] at h
      · cases h3 : c2 (cutS t hx0) 1 <;> rw [h3] at h
        · simp only [cond_false, Option.some.injEq] at h
          exact ⟨rfl, _, _, h.symm, byt2_rng _ _, byt2_rng _ _⟩
        · cases h
      · cases h
    · cases h
theorem w8_nat {v : Nat} (hv : v < 256) : w8 (v : Int) = (v : Int) := by
  unfold w8
  rw [IntKind.wrap_u8]
  omega
end Go.Proofs.YtdglgiaegjkinaaDoor

/- listing.Parse: its loop, the whole. -/

namespace Go.Proofs.YtdglgiaegjkinaaDoor
open Go Go.Sx Go.RowKit
set_option maxRecDepth 100000
def zP (c : Int) (t : ByteArray) (v : Nat) : Option (Option (List Int)) := tail11 (c == 2) t v
def lP (c : Int) (t : ByteArray) (v : Nat) : List Int := (bytes11 v (zP c t v)).getD [(v : Int)]
structure Inv11 (c : Int) (s t : ByteArray) (v : Nat) : Prop where
  le : v ≤ 256
  sc : scan (c == 2) s t (256 - v) = scan (c == 2) s t 256
theorem toBytes {a : Option Addr} {k : Nat} {v : Nat} (hv : v < 256) : OkZ (o1 a k (v : Int)) a 1 k [(v : Int)] := ⟨rfl, rfl, rfl, rfl, rfl, by unfold o1; rw [w8_nat hv]; rfl⟩
theorem byt_nil {v : Nat} (hv : v < 256) : BytL [(v : Int)] := by
  intro j
  rcases j with _ | j
  · exact ⟨by show (0 : Int) ≤ (v : Int); omega, by show (v : Int) ≤ 255; omega⟩
  · exact ⟨by simp, by simp⟩
theorem byt_cons {x : Int} {l : List Int} (hx : 0 ≤ x ∧ x ≤ 255) (hl : BytL l) : BytL (x :: l) := by
  intro j
  rcases j with _ | j
  · exact hx
  · exact hl j
theorem byt_e : BytL [] := fun j => ⟨by simp, by simp⟩
theorem okD_nat {v : Nat} (hv : v < 256) : okD (v : Int) = true := by
  unfold okD
  rw [w8_nat hv, decide_eq_true (show (0 : Int) ≤ (v : Int) by omega), decide_eq_true (show (v : Int) < 256 by omega)]
  rfl
theorem eq_hit {k : Bool} {s t : ByteArray} {v : Nat} {l : List Int} (h : bytes11 v (tail11 k t v) = some l) : hit k s t v = bif eqT (fmtR k l.length fun j => l.getD j 0).1 s then some l else none := by
  unfold hit
  rw [h]
theorem no_hit {k : Bool} {s t : ByteArray} {v : Nat} (h : bytes11 v (tail11 k t v) = none) : hit k s t v = none := by
  unfold hit
  rw [h]
section
variable {W : World} {c : Int} {s t : ByteArray} {v : Nat}
/-- What a round may come to. -/
def RoundP (W : World) (c : Int) (s t : ByteArray) (v : Nat) (e : Ex) (vc : SB) (S : SL) (m : Mem) (g : Gh) : Prop := vc.val = true ∧
      ((e = .nrm ∧ ∃ p' : Nat, Inv11 c s t p' ∧ 256 - p' < 256 - v ∧ S = SP11 c s t p' ∧ m = ⟨[], [], 0⟩ ∧ g = []) ∨ (e ≠ .nrm ∧ ∀ f a w, GSt (W : Bs) 63 S m g f a w → ∀ e', exOf e = some e' → GPost (W : Bs) 63 (End11 (scan (c == 2) s t 256)) e' a w))
theorem leaf2_ok {vc : SB} (hvc : vc.val = true) (hv : v < 256) (h : Inv11 c s t v) (hh : hit (c == 2) s t v = none) : (leaf2 vc c s t (v : Int)).All (RoundP W c s t v) := by
  refine ⟨hvc, .inl ⟨rfl, v + 1, ⟨by omega, ?_⟩, by omega, ?_, rfl, rfl⟩⟩
  · have := scan_step (k := c == 2) (s := s) (t := t) hv
    rw [hh] at this
    rw [← h.sc, this]
  · have e : gadd .i64 (v : Int) 1 = ((v + 1 : Nat) : Int) := by
      unfold gadd
      rw [IntKind.wrap_i64]
      omega
    rw [e]
theorem leaf1_ok {vc : SB} (hvc : vc.val = true) (hv : v < 256) (h : Inv11 c s t v) {l : List Int} (hh : hit (c == 2) s t v = some l) {a : Option Addr} {k : Nat} {o : Sx.Own} (ho : OkZ o a l.length k l) : (leaf1 vc a l.length k o).All (RoundP W c s t v) := by
  refine ⟨hvc, .inr ⟨by simp, fun f ac w hst e' he' => ?_⟩⟩
  have h1 := scan_step (k := c == 2) (s := s) (t := t) hv
  rw [hh, h.sc] at h1
  rw [h1]
  refine ⟨a, k, he', f, ?_⟩
  exact GSt.vals hst ⟨ho.e.symm, ho.size.symm, ho.a, ho.n, ho.c, ho.xs.symm⟩
theorem end_ok (h : Inv11 c s t v) (hv : ¬ v < 256) : (RG.leaf (.exit 0) (.lit true) [] ⟨[], [], 0⟩ []).All (RoundP W c s t v) := by
  refine ⟨rfl, .inr ⟨by simp, fun f ac w hst e' he' => ?_⟩⟩
  have h1 := h.sc
  have h2 := h.le
  rw [show 256 - v = 0 by omega] at h1
  rw [← h1]
  exact ⟨he', f, hst⟩
theorem tail_none (h : lenF (c == 2) v = 1) : zP c t v = none := by
  unfold zP tail11
  rw [h]
  rfl
theorem tail_some {n : Nat} (h : lenF (c == 2) v = (n : Int) + 1) (hn : 1 ≤ n) : zP c t v = some (valS t n) := by
  unfold zP tail11
  rw [h, decide_eq_true (by omega), cond_true, show ((n : Int) + 1 - 1).toNat = n by omega]
theorem okN_ok {n : Nat} (hv : v < 256) (h : lenF (c == 2) v = (n : Int) + 1) (hn : n = 1 ∨ n = 2) : okN c t (v : Int) (valS t n) := by
  refine ⟨n, ?_, hn, rfl⟩
  unfold lm1 gsub
  rw [w8_nat hv, Int.toNat_natCast, h, IntKind.wrap_i64]
  omega
theorem good_ok (hv : v < 256) (h : Inv11 c s t v) {n : Nat} (hl : lenF (c == 2) v = (n : Int) + 1) (hn : n = 1 ∨ n = 2) {l : List Int} (hval : valS t n = some l) (hlen : l.length ≤ 2) (hb : BytL l) {a : Option Addr} {k : Nat} {a2 : Option Addr} {k2 : Nat} :
    (good ((v : Int) :: l) l c s t (v : Int) a k a2 k2).All (RoundP W c s t v) := by
  have hz : OkZ (o2 a2 k2 (v : Int) l) a2 (1 + l.length) k2 ((v : Int) :: l) := ⟨rfl, rfl, rfl, rfl, rfl, by unfold o2; rw [w8_nat hv]; rfl⟩
  have hbl : BytL ((v : Int) :: l) := byt_cons ⟨by omega, by omega⟩ hb
  have hvc : (SB.sym (okY c t (v : Int) l ((v : Int) :: l) a k a2 k2)).val = true := by
    rw [SB.val_sym]
    unfold okY
    have hm : maxLen = 9223372036854775807 := by decide
    rw [okD_nat hv, yes_of (show okN c t (v : Int) (some l) from hval ▸ okN_ok hv hl hn), yes_of ⟨hz, hbl⟩, decide_eq_true (show 1 + l.length ≤ maxLen by rw [hm]; omega), decide_eq_true (show (1 + l.length) * 1 ≤ 140737488355328 by omega), decide_eq_true (rfl : a = a), decide_eq_true (rfl : k = k)]
    rfl
  have hbyt : bytes11 v (tail11 (c == 2) t v) = some ((v : Int) :: l) := by
    have := tail_some (t := t) hl (by omega)
    unfold zP at this
    rw [this, hval]
    rfl
  have hhit := eq_hit (s := s) hbyt
  have elen : ((v : Int) :: l).length = 1 + l.length := by rw [List.length_cons]; omega
  rw [elen] at hhit
  refine ⟨fun he => ?_, fun he => ?_⟩
  · unfold ft at he
    rw [he, cond_true] at hhit
    have := leaf1_ok (W := W) hvc hv h hhit (a := a2) (k := k2) (o := o2 a2 k2 (v : Int) l) (by rw [elen]; exact hz)
    rw [elen] at this
    exact this
  · unfold ft at he
    rw [he, cond_false] at hhit
    exact leaf2_ok hvc hv h hhit
end
theorem step11 (W : World) (c : Int) (s t : ByteArray) : StepOkT (W : Bs) Tryd.prog G11 100000 63 lb11 0 ks11 [] ke11 [] (fun v => tP W (zP c t v) (lP c t v)) (Inv11 c s t) (fun v => 256 - v) (fun v => SP11 c s t (v : Int)) (fun _ => []) (fun _ => []) (End11 (scan (c == 2) s t 256)) := by
  constructor
  intro v h
  show ((runG Tryd.prog W G11 100000 63 (tP W (zP c t v) (lP c t v)) lb11 (SP11 c s t (v : Int)) ⟨[], [], 0⟩ []).slim 0 ks11 [] ke11 []).All (RoundP W c s t v)
  have hx : ∀ z l, r11 W z l c s t (v : Int) = (runG Tryd.prog W G11 100000 63 (tP W z l) lb11 (SP11 c s t (v : Int)) ⟨[], [], 0⟩ []).slim 0 ks11 [] ke11 [] := fun _ _ => rfl
  rw [← hx]
  rcases Nat.lt_or_ge v 256 with hv | hv
  · rcases len_cases (c == 2) v hv with h1 | h1
    · have hz := tail_none (t := t) h1
      have hl : lP c t v = [(v : Int)] := by unfold lP; rw [hz]; rfl
      rw [hz, hl, rN]
      refine ⟨fun _ a k => ⟨fun hc => ?_, fun _ => ?_⟩, fun hc => absurd (of_decide_eq_false hc) (by omega)⟩
      · rw [w8_nat hv, Int.toNat_natCast, h1] at hc
        cases hc
      · have hz1 := toBytes (a := a) (k := k) hv
        have hvc : (SB.sym (okD (v : Int) && yes (OkZ (o1 a k (v : Int)) a 1 k [(v : Int)] ∧ BytL [(v : Int)]))).val = true := by
          rw [SB.val_sym, okD_nat hv, yes_of ⟨hz1, byt_nil hv⟩]
          rfl
        unfold zP at hz
        have hhit := eq_hit (s := s) (show bytes11 v (tail11 (c == 2) t v) = some [(v : Int)] by rw [hz]; rfl)
        refine ⟨fun he => ?_, fun he => ?_⟩
        · rw [show eqT (fmtR (c == 2) [(v : Int)].length fun j => [(v : Int)].getD j 0).1 s = true from he, cond_true] at hhit
          exact leaf1_ok hvc hv h hhit hz1
        · rw [show eqT (fmtR (c == 2) [(v : Int)].length fun j => [(v : Int)].getD j 0).1 s = false from he, cond_false] at hhit
          exact leaf2_ok hvc hv h hhit
    · obtain ⟨n, hn, hln⟩ : ∃ n : Nat, (n = 1 ∨ n = 2) ∧ lenF (c == 2) v = (n : Int) + 1 := by
        rcases h1 with h1 | h1
        · exact ⟨1, .inl rfl, by rw [h1]; rfl⟩
        · exact ⟨2, .inr rfl, by rw [h1]; rfl⟩
      have hz := tail_some (t := t) hln (by omega)
      have hgt : ∀ {P Q : Prop}, (decide (lenF (c == 2) (w8 (v : Int)).toNat > 1) = false → P) ↔ True := by
        intro P Q
        rw [w8_nat hv, Int.toNat_natCast, hln]
        refine ⟨fun _ => trivial, fun _ hc => absurd (of_decide_eq_false hc) (by omega)⟩
      cases hval : valS t n with
      | none =>
        rw [hval] at hz
        have hhit : hit (c == 2) s t v = none := no_hit (by unfold zP at hz; rw [hz]; rfl)
        rw [hz, rF]
        refine ⟨fun _ a k => ⟨fun _ => ?_, hgt (Q := True) |>.2 trivial⟩, fun hc => absurd (of_decide_eq_false hc) (by omega)⟩
        refine leaf2_ok ?_ hv h hhit
        rw [SB.val_sym, okD_nat hv, yes_of (show okN c t (v : Int) none from hval ▸ okN_ok hv hln hn)]
        rfl
      | some l =>
        have hb := valS_len hn hval
        have hl : lP c t v = (v : Int) :: l := by unfold lP; rw [hz, hval]; rfl
        rw [hl, hz, hval]
        rcases hb with ⟨rfl, x, rfl, hx1⟩ | ⟨rfl, x, y, rfl, hx1, hy1⟩
        · rw [rY1]
          exact ⟨fun _ a k => ⟨fun _ a2 k2 => good_ok hv h hln hn hval (by simp) (byt_cons hx1 byt_e), hgt (Q := True) |>.2 trivial⟩, fun hc => absurd (of_decide_eq_false hc) (by omega)⟩
        · rw [rY2]
          exact ⟨fun _ a k => ⟨fun _ a2 k2 => good_ok hv h hln hn hval (by simp) (byt_cons hx1 (byt_cons hy1 byt_e)), hgt (Q := True) |>.2 trivial⟩, fun hc => absurd (of_decide_eq_false hc) (by omega)⟩
  · have hz : zP c t v = none := by
      have hle := h.le
      obtain rfl : v = 256 := by omega
      unfold zP tail11
      have : lenF (c == 2) 256 = 0 := by
        cases (c == 2)
        · kernel_rfl
        · kernel_rfl
      rw [this]
      rfl
    rw [hz, rN]
    exact ⟨fun hc => absurd (of_decide_eq_true hc) (by omega), fun _ => end_ok h (by omega)⟩
/-! ### The pieces with calls -/
noncomputable def opIn (c : Code) (k : Nat) : Option Oper := (opsOf c).toList[k]?
def gNone (o : Oper) : Bool := match o.guard with
  | none => true
  | some _ => false
theorem call_ok {W : World} {c : Code} {k : Nat} {F : SL → Mem → Gh → RG} {d : Nat} {x : Operand} {ys : List Operand} (he : (opIn c k).map (fun o => (gNone o, o.dst, callOf o)) = some (true, some d, some (x, ys)))
    (hF : ∀ o : Oper, o.dst = some d → callOf o = some (x, ys) → CallOk (W : Bs) Tryd.prog 63 o F) : CallGOk (W : Bs) Tryd.prog 63 (opsOf c) ⟨k, F⟩ := by
  unfold opIn at he
  cases ho : (opsOf c).toList[k]? with
  | none => rw [ho] at he; cases he
  | some o =>
    rw [ho] at he
    simp only [Option.map_some, Option.some.injEq, Prod.mk.injEq] at he
    obtain ⟨h1, h2, h3⟩ := he
    refine callG_of ho ?_ (hF o h2 h3)
    unfold gNone at h1
    split at h1
    · assumption
    · cases h1
theorem cust_one {W : World} (hT : Tabs W) {c : Code} (hc : c = .region (idOf c) (opsOf c) false) {s : CS} (h : CallGOk (W : Bs) Tryd.prog 63 (opsOf c) s) : CustOk (W : Bs) Tryd.prog 63 c (runCalls Tryd.prog W G11 100000 63 (opsOf c) [s] 0) := by
  have := calls_cust (W := (W : Bs)) (G := G11) (N := 100000) (nt := 63) (id := idOf c) (g11_ok hT) (l := [s]) (by intro d hd; rw [List.mem_singleton] at hd; rw [hd]; exact h) (by simp)
  rw [← hc] at this
  exact this
theorem drop_ok {W : World} (hT : Tabs W) {c : Code} : CustOk (W : Bs) Tryd.prog 63 c (plain0 Tryd.prog W G11 100000 63 c) := by
  intro s m g f a w hg hst
  have h2 := runG_sound (W := (W : Bs)) (g11_ok hT) (N := 100000) (nt := 63) .plain c s m [] f a w trivial hg (GSt.drop hst)
  exact h2
/-- The slice that a round builds. -/
noncomputable def S33 (k : IntKind) (n : SI) (t : Nat) : Option TV := match Nat.beq t 33 with
  | true => some (.one (.int k n))
  | false => none
theorem bldE (W : World) (k : IntKind) (n : SI) : (opIn bld11 2).map (fun o => (prim Tryd.prog W o 0 (S33 k n) (fun _ _ => none) (fun _ => none)).get) = some (some ⟨.lit true, .one (.row 0 0 1 1), [], some (5, [.int k n])⟩) := by kernel_rfl
theorem bldO : (opIn bld11 2).map (fun o => (gNone o, o.dst)) = some (true, some 34) := by kernel_rfl
theorem bldP : ∃ o, opIn bld11 2 = some o ∧ ∃ t l a, o.op = .buildSlice t l a := by
  have h : (opIn bld11 2).map (fun o => match o.op with | .buildSlice .. => true | _ => false) = some true := by kernel_rfl
  cases ho : opIn bld11 2 with
  | none => rw [ho] at h; cases h
  | some o =>
    rw [ho] at h
    simp only [Option.map_some, Option.some.injEq] at h
    refine ⟨o, rfl, ?_⟩
    split at h
    · rename_i t l a he
      exact ⟨t, l, a, he⟩
    · cases h
theorem bld_call {W : World} : CallGOk (W : Bs) Tryd.prog 63 (opsOf bld11) ⟨2, bld1 5 33 34⟩ := by
  obtain ⟨o, ho, t, l, ar, hop⟩ := bldP
  have h2 := bldO
  rw [ho] at h2
  simp only [Option.map_some, Option.some.injEq, Prod.mk.injEq] at h2
  have hg : o.guard = none := by
    have h1 := h2.1
    unfold gNone at h1
    split at h1
    · assumption
    · cases h1
  refine callG_of ho hg ?_
  intro s m g f a w Q hgood h
  unfold bld1 at hgood ⊢
  split at hgood <;> try exact hgood.elim
  rename_i k n hx
  have h3 := bldE W k n
  rw [ho] at h3
  simp only [Option.map_some, Option.some.injEq] at h3
  have hS : SRel f (S33 k n) a := by
    intro t v hv hne
    unfold S33 at hv
    split at hv
    · rename_i ht
      rw [Nat.beq_eq] at ht
      subst ht
      simp only [Option.some.injEq] at hv
      subst hv
      exact h.slots 33 _ hx (by simp)
    · cases hv
  obtain ⟨r, q, hrun, hr, hval, _, _⟩ := prim_buildSlice (w := w) (f := f) (nid := 0) (a := a) hop h3 hS
  have hq : q = .slice (some ⟨w.heap.size, 0, none⟩) 1 1 := by
    rcases hval with hval | hval
    · cases hval
    · rw [hval]
      simp [TV.den, SV.den, updF]
  have hr' : r = .value (.slice (some ⟨w.heap.size, 0, none⟩) 1 1) := by
    rcases hr with rfl | ⟨_, h2⟩
    · rw [hq]
    · rw [hq] at h2
      cases h2
  subst hr'
  have hw : effW f ⟨.lit true, .one (.row 0 0 1 1), [], some (5, [.int k n])⟩ w = w.alloc (.cells #[.int k n.val] 5) := rfl
  rw [hw] at hrun
  unfold Oper.wp
  rw [hrun, Oper.upon_value]
  refine ⟨some ⟨w.heap.size, 0, none⟩, 1, rfl, f, ?_⟩
  rw [h2.2]
  refine h.callOwn (below_alloc w _) (by decide) (o := ⟨5, 1, some ⟨w.heap.size, 0, none⟩, 1, 1, [.int k n]⟩) ⟨rfl, .inr ⟨w.heap.size, 1, #[.int k n.val], rfl, Nat.le_refl _, heap_alloc_at, Nat.le_refl _, by decide, rfl, rfl⟩⟩
theorem named7 : Named 7 := ⟨Tryd.f7, Tryd.func7, by kernel_rfl, by kernel_rfl⟩
theorem named23 : Named 23 := ⟨Tryd.f23, Tryd.func23, by kernel_rfl, by kernel_rfl⟩
noncomputable def rest11 : Code := match yes11 with
  | .seq _ c => c
  | _ => .skip
theorem hg11 {W : World} (hT : Tabs W) (z : Option (Option (List Int))) (l : List Int) : HGOk (W : Bs) Tryd.prog 63 (tP W z l) lb11 := by
  have hb : CustOk (W : Bs) Tryd.prog 63 bld11 (runCalls Tryd.prog W G11 100000 63 (opsOf bld11) [⟨2, bld1 5 33 34⟩] 0) := cust_one hT (by kernel_rfl) bld_call
  have hf : CustOk (W : Bs) Tryd.prog 63 fm11 (runCalls Tryd.prog W G11 100000 63 (opsOf fm11) [⟨2, fmtO 0 52 53 54 l⟩] 0) := cust_one hT (by kernel_rfl) (call_ok (d := 54) (x := .func 7) (ys := [.tmp 52, .tmp 53]) (by kernel_rfl) fun o h1 h2 => fmtO_ok h1 h2 (by decide) named7 fmt7)
  have hi : CustOk (W : Bs) Tryd.prog 63 inc11 (plain0 Tryd.prog W G11 100000 63 inc11) := drop_ok hT
  have key : ∀ (Y : HG), HGOk (W : Bs) Tryd.prog 63 Y yes11 → HGOk (W : Bs) Tryd.prog 63 (.seq .plain (.seq .plain (.seq (.block (.seq .plain (.seq .plain (.seq (rcG W bld11 [⟨2, bld1 5 33 34⟩]) (.seq (.seq .plain (.cond Y .plain)) (.seq (rcG W fm11 [⟨2, fmtO 0 52 53 54 l⟩]) .plain)))))) (.cust (plain0 Tryd.prog W G11 100000 63 inc11))))) lb11 := by
    intro Y hY
    have e : HGOk (W : Bs) Tryd.prog 63 (.seq .plain (.seq .plain (.seq (.block (.seq .plain (.seq .plain (.seq (rcG W bld11 [⟨2, bld1 5 33 34⟩]) (.seq (.seq .plain (.cond Y .plain)) (.seq (rcG W fm11 [⟨2, fmtO 0 52 53 54 l⟩]) .plain)))))) (.cust (plain0 Tryd.prog W G11 100000 63 inc11))))) lb11 =
      (True ∧ True ∧ (True ∧ True ∧ CustOk (W : Bs) Tryd.prog 63 bld11 (runCalls Tryd.prog W G11 100000 63 (opsOf bld11) [⟨2, bld1 5 33 34⟩] 0) ∧ (True ∧ HGOk (W : Bs) Tryd.prog 63 Y yes11 ∧ True) ∧ CustOk (W : Bs) Tryd.prog 63 fm11 (runCalls Tryd.prog W G11 100000 63 (opsOf fm11) [⟨2, fmtO 0 52 53 54 l⟩] 0) ∧ True) ∧ CustOk (W : Bs) Tryd.prog 63 inc11 (plain0 Tryd.prog W G11 100000 63 inc11)) := by kernel_rfl
    rw [e]
    exact ⟨trivial, trivial, ⟨trivial, trivial, hb, ⟨trivial, hY, trivial⟩, hf, trivial⟩, hi⟩
  refine key _ ?_
  have eg : HGOk (W : Bs) Tryd.prog 63 (.seq .plain (.gap gA11)) rest11 := hgB_ok (W := (W : Bs)) _ _ (by kernel_rfl)
  match z with
  | none => exact failOk (W := (W : Bs)) (P := Tryd.prog) (nt := 63) (c := yes11)
  | some none =>
    have hv : CustOk (W : Bs) Tryd.prog 63 cv11 (runCalls Tryd.prog W G11 100000 63 (opsOf cv11) [⟨4, valN 39 42 43⟩] 0) := cust_one hT (by kernel_rfl) (call_ok (d := 43) (x := .func 23) (ys := [.tmp 39, .tmp 42]) (by kernel_rfl) fun o h1 h2 => valN_ok h1 h2 (by decide) named23 val_calls)
    have e : HGOk (W : Bs) Tryd.prog 63 (yesG W (some none)) yes11 = (CustOk (W : Bs) Tryd.prog 63 cv11 (runCalls Tryd.prog W G11 100000 63 (opsOf cv11) [⟨4, valN 39 42 43⟩] 0) ∧ HGOk (W : Bs) Tryd.prog 63 (.seq .plain (.gap gA11)) rest11) := by kernel_rfl
    rw [e]
    exact ⟨hv, eg⟩
  | some (some l1) =>
    have hv : CustOk (W : Bs) Tryd.prog 63 cv11 (runCalls Tryd.prog W G11 100000 63 (opsOf cv11) [⟨4, valY 39 42 43 l1⟩] 0) := cust_one hT (by kernel_rfl) (call_ok (d := 43) (x := .func 23) (ys := [.tmp 39, .tmp 42]) (by kernel_rfl) fun o h1 h2 => valY_ok h1 h2 (by decide) named23 val_calls)
    have e : HGOk (W : Bs) Tryd.prog 63 (yesG W (some (some l1))) yes11 = (CustOk (W : Bs) Tryd.prog 63 cv11 (runCalls Tryd.prog W G11 100000 63 (opsOf cv11) [⟨4, valY 39 42 43 l1⟩] 0) ∧ HGOk (W : Bs) Tryd.prog 63 (.seq .plain (.gap gA11)) rest11) := by kernel_rfl
    rw [e]
    exact ⟨hv, eg⟩
theorem loop11 {W : World} (hT : Tabs W) (c : Int) (s t : ByteArray) : LoopGOk (W : Bs) Tryd.prog 63 lb11 (h11 true c s t (scan (c == 2) s t 256)) := by
  refine loopG_stepT (W := (W : Bs)) (g11_ok hT) (fun v _ => hg11 hT (zP c t v) (lP c t v)) rfl rfl (step11 W c s t) ?_
  intro _
  exact ⟨0, ⟨by omega, rfl⟩, rfl, rfl, .inl rfl⟩
theorem LA_le (s : ByteArray) : -1 ≤ LA s ∧ LA s < s.size := by
  have := la_rng s s.size
  unfold LA
  omega
theorem vW_ok {s : ByteArray} (h : okLA s) : vW s = true := by
  unfold vW
  rw [yes_of ⟨rfl, h⟩]
  have h1 := LA_le s
  have h2 := h.2.1
  have e : gadd .i64 (LA s) 1 = LA s + 1 := by
    unfold gadd
    rw [IntKind.wrap_i64]
    omega
  rw [e]
  cases h3 : decide (0 ≤ LA s)
  · rfl
  · have := of_decide_eq_true h3
    rw [cond_true, decide_eq_true (show 0 ≤ LA s + 1 by omega), decide_eq_true (show LA s + 1 ≤ (s.size : Int) by omega)]
    rfl
theorem kW_ok (c : Int) (s : ByteArray) : kW true c s (lastS s) = true := by
  unfold kW
  rw [sameS_refl (by rfl), sameB_refl (by rfl), @decide_eq_true _ (Classical.propDecidable _) rfl]
  rfl
/-- listing.Parse. -/
theorem par11 {W : World} (hT : Tabs W) (c : Int) {s : ByteArray} (hs : okLA s) : Calls Tryd.prog 11 #[.int .i64 c, .string s] W fun en w' => Below W.heap.size W w' ∧ match scan (c == 2) s (lastS s) 256 with
    | some l => ∃ a k, en = .returned (.tuple #[.slice a l.length k, .int .i64 0]) ∧ w'.ownsRow W.heap.size 5 1 (.slice a l.length k) l.length ((zs l).map den0)
    | none => en = .returned (.tuple #[.slice none 0 0, .int .i64 2]) := by
  have hv : (SB.sym (vW s && kW true c s (lastS s))).val = true := by rw [SB.val_sym, vW_ok hs, kW_ok]; rfl
  have hcalls := calls_of_runG (g11_ok hT) (n := 100000) (g := 11) Tryd.func11 (show Tryd.f11.body = some body11 by kernel_rfl) (t := t11 true c s (lastS s) (scan (c == 2) s (lastS s) 256)) (args := [.one (.int .i64 (.sym c)), .one (.str s)]) ?_ (by rw [show Tryd.f11.ntmps = 63 by kernel_rfl]; simp)
    (R := fun v g => match scan (c == 2) s (lastS s) 256 with
      | some l => ∃ a k, v = .tup [(false, [.sl a l.length k]), (false, [.int .i64 (.lit 0)])] ∧ g = [⟨5, 1, a, l.length, k, zs l⟩]
      | none => v = .tup [(false, [.sl none 0 0]), (false, [.int .i64 (.lit 2)])]) (N := 0) (ks := []) (bs := []) (ke := ke11) (be := []) rfl rfl ?_
  · refine hcalls.mono ?_
    rintro en w' ⟨v, g, f, hR, rfl, hown, hb⟩
    refine ⟨hb, ?_⟩
    cases hz : scan (c == 2) s (lastS s) 256 with
    | none =>
      rw [hz] at hR
      subst hR
      rfl
    | some l =>
      rw [hz] at hR
      obtain ⟨a, k, rfl, rfl⟩ := hR
      exact ⟨a, k, rfl, hown 0 _ rfl⟩
  · have e : HGOk (W : Bs) Tryd.prog Tryd.f11.ntmps (t11 true c s (lastS s) (scan (c == 2) s (lastS s) 256)) body11 = (True ∧ True ∧ True ∧ (True ∧ LoopGOk (W : Bs) Tryd.prog 63 lb11 (h11 true c s (lastS s) (scan (c == 2) s (lastS s) 256))) ∧ True) := by kernel_rfl
    rw [e]
    exact ⟨trivial, trivial, trivial, ⟨trivial, loop11 hT c s (lastS s)⟩, trivial⟩
  · rw [show Tryd.f11.ntmps = 63 by kernel_rfl]
    show (x11 W true c s (lastS s) (scan (c == 2) s (lastS s) 256)).All _
    cases hz : scan (c == 2) s (lastS s) 256 with
    | none =>
      rw [wN]
      exact ⟨hv, .inr rfl, [(false, [.sl none 0 0]), (false, [.int .i64 (.lit 2)])], _, by kernel_rfl, rfl, rfl⟩
    | some l =>
      rw [wY]
      intro a k
      exact ⟨hv, .inr rfl, [(false, [.sl a l.length k]), (false, [.int .i64 (.lit 0)])], _, by kernel_rfl, rfl, a, k, rfl, rfl⟩
end Go.Proofs.YtdglgiaegjkinaaDoor
