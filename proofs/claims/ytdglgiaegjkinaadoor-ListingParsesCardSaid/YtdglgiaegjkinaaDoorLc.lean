/- strings.LastIndexAny of " ,". (Several texts in one.) -/
import Derived.Test.YtdglgiaegjkinaaDoorVal
import Derived.LoopN
import Derived.Laws.Strings3
import Derived.Shelf.RegionOpenPlain
import Derived.WalkMore
import Derived.Laws.RangeString
import Derived.Laws.Runes
import Derived.Lib.TrimUEq
namespace Go.Proofs.YtdglgiaegjkinaaDoor
open Go Go.Sx Go.RowKit
set_option maxRecDepth 100000
def sep : ByteArray := { data := #[32, 44] }
def isSep (x : Int) : Bool := decide (0 ≤ ixB sep x)
def la (s : ByteArray) : Nat → Int
  | 0 => -1
  | n + 1 => bif isSep (byteAt s (n : Int)) then (n : Int) else la s n
def LA (s : ByteArray) : Int := la s s.size
/-- All letters below 128. -/
def asc (s : ByteArray) : Prop := ∀ n : Nat, n < s.size → byteAt s (n : Int) < 128
def F46 : List TV → Option (SB × TV)
  | [.one (.str s), .one (.int .i32 x)] => some (.sym (decide (0 ≤ x.val) && decide (x.val < 128)), .one (.int .i64 (.sym (ixB s x.val))))
  | _ => none
theorem s46 (W : World) : SpecOk W Tryd.prog 46 (specV F46) := by
  refine spec_of ⟨Tryd.f46, Tryd.func46, by kernel_rfl, by kernel_rfl⟩ ?_
  intro args c v f w hF hc hW
  unfold F46 at hF
  split at hF
  · simp only [Option.some.injEq, Prod.mk.injEq] at hF
    obtain ⟨rfl, rfl⟩ := hF
    rw [SB.val_sym, Bool.and_eq_true, decide_eq_true_eq, decide_eq_true_eq] at hc
    refine ⟨nofun, (Tryd.strings_IndexRune_ascii _ _ w hc.1 hc.2).mono ?_⟩
    rintro en w' ⟨rfl, rfl⟩
    exact ⟨rfl, Below.refl _ _⟩
  · cases hF
def F47 : List TV → Option (SB × TV)
  | [.one (.int .i64 x)] => some (.lit true, .one (.bool (.sym (decide (8 < x.val)))))
  | _ => none
theorem s47 (W : World) : SpecOk W Tryd.prog 47 (specV F47) := by
  refine spec_of ⟨Tryd.f47, Tryd.func47, by kernel_rfl, by kernel_rfl⟩ ?_
  intro args c v f w hF hc hW
  unfold F47 at hF
  split at hF
  · simp only [Option.some.injEq, Prod.mk.injEq] at hF
    obtain ⟨rfl, rfl⟩ := hF
    refine ⟨nofun, (Tryd.strings_shouldUseASCIISet _ w).mono ?_⟩
    rintro en w' ⟨rfl, rfl⟩
    exact ⟨rfl, Below.refl _ _⟩
  · cases hF
def setB (i : Nat) : Bool := Nat.beq i 32 || Nat.beq i 44
def setL : List SV := (List.range 256).map fun i => .bool (.lit (setB i))
def setT : TV := .tup [(true, setL), (false, [.bool (.lit true)])]
def F48 : List TV → Option (SB × TV)
  | [.one (.str s)] => some (.sym (decide (s = sep)), setT)
  | _ => none
theorem set_den (f : Nat → Nat) : dens f setL = Lib.setCells [32, 44] := by
  have h : dens (fun _ => 0) setL = Lib.setCells [32, 44] := by kernel_rfl
  rw [← h]
  unfold dens setL
  rw [List.map_map, List.map_map]
  rfl
theorem zero85 (w : World) : (zeroValue 85).run Tryd.prog w = .ok (.agg (Array.replicate 256 (.bool false))) w := by kernel_rfl
theorem s48 (W : World) : SpecOk W Tryd.prog 48 (specV F48) := by
  refine spec_of ⟨Tryd.f48, Tryd.func48, by kernel_rfl, by kernel_rfl⟩ ?_
  intro args c v f w hF hc hW
  unfold F48 at hF
  split at hF
  · simp only [Option.some.injEq, Prod.mk.injEq] at hF
    obtain ⟨rfl, rfl⟩ := hF
    rw [SB.val_sym, decide_eq_true_eq] at hc
    subst hc
    refine ⟨nofun, (Tryd.strings_makeASCIISet zero85 sep w (by decide) ?_).mono ?_⟩
    · intro j b hj
      have h : ∀ b ∈ sep.data.toList, b.toNat < 128 := by decide
      exact h b (List.mem_of_getElem? hj)
    · rintro en w' ⟨rfl, rfl⟩
      refine ⟨?_, below_alloc w _⟩
      show Ending.returned (.tuple #[.agg (Lib.setCells [32, 44]), .bool true]) = Ending.returned (.tuple #[.agg (dens f setL), .bool true])
      rw [set_den]
  · cases hF
def isSet : Nat → List SV → Bool
  | _, [] => true
  | i, .bool (.lit b) :: r => (b == setB i) && isSet (i + 1) r
  | _, _ => false
theorem isSet_get : ∀ {l : List SV} {i j : Nat} {v : SV}, isSet i l = true → l[j]? = some v → v = .bool (.lit (setB (i + j)))
  | [], i, j, v, _, h => by simp at h
  | x :: r, i, j, v, hs, h => by
    unfold isSet at hs
    split at hs
    · rename_i heq; cases heq
    · rename_i heq
      simp only [List.cons.injEq] at heq
      obtain ⟨rfl, rfl⟩ := heq
      rw [Bool.and_eq_true, beq_iff_eq] at hs
      cases j with
      | zero =>
        simp only [List.getElem?_cons_zero, Option.some.injEq] at h
        rw [← h, hs.1]
        rfl
      | succ j =>
        rw [List.getElem?_cons_succ] at h
        rw [isSet_get hs.2 h]
        congr 3
        omega
    · cases hs
def sp49 : Sx.Spec := ⟨fun
    | [.one (.ptr b 0), _] => [(b, 0, 256)]
    | _ => [], fun _ => [], fun args C _ => match args with
    | [.one (.ptr b 0), .one (.int .u8 x)] => match rangeC C b 0 256 with
      | some l => match isSet 0 l with
        | true => some ⟨.sym (decide (0 ≤ x.val) && decide (x.val ≤ 255)), .one (.bool (.sym (isSep x.val))), [], none⟩
        | false => none
      | none => none
    | _ => none⟩
theorem sep_set {x : Int} (h : 0 ≤ x ∧ x ≤ 255) : isSep x = setB x.toNat := by
  have := Sx.all_u8 (p := fun x => isSep x == setB x.toNat) (by kernel_rfl) h
  exact beq_iff_eq.1 this
theorem s49 (W : World) : SpecOk W Tryd.prog 49 sp49 := by
  refine ⟨⟨Tryd.f49, Tryd.func49, by kernel_rfl, by kernel_rfl⟩, ?_⟩
  intro args C K e f w he _ hvc hC _ _ _
  simp only [sp49] at he
  split at he <;> try contradiction
  rename_i b x
  split at he <;> try contradiction
  rename_i l hl
  split at he <;> try contradiction
  rename_i hs
  simp only [Option.some.injEq] at he
  subst he
  rw [SB.val_sym, Bool.and_eq_true, decide_eq_true_eq, decide_eq_true_eq] at hvc
  obtain ⟨hlen, hget⟩ := rangeC_get hl
  have hx : x.val.toNat < l.length := by omega
  have hc := hC b x.val.toNat (.bool (.lit (setB x.val.toNat))) (by
    have h1 := hget x.val.toNat _ (List.getElem?_eq_getElem hx)
    rw [isSet_get hs (List.getElem?_eq_getElem hx), Nat.zero_add] at h1
    exact h1)
  have hu : (UInt8.ofNat x.val.toNat).toNat = x.val.toNat := by
    rw [UInt8.toNat_ofNat']
    omega
  have key := Tryd.asciiSet_contains (f b) (UInt8.ofNat x.val.toNat) (setB x.val.toNat) w (by rw [hu]; exact hc)
  rw [hu, show ((x.val.toNat : Nat) : Int) = x.val by omega] at key
  refine ⟨nofun, fun p hp => (List.not_mem_nil hp).elim, key.mono ?_⟩
  rintro en w' ⟨rfl, rfl⟩
  refine ⟨?_, ⟨rfl, rfl, rfl, Nat.le_refl _, fun _ _ => rfl⟩⟩
  show Ending.returned (.bool _) = Ending.returned (.bool (isSep x.val))
  rw [sep_set hvc]
/-- DecodeLastRuneInString where the last letter is below 128. -/
def lastB (s : ByteArray) : Int := byteAt s ((s.size : Int) - 1)
def F50 : List TV → Option (SB × TV)
  | [.one (.str s)] => some (.sym (decide (0 < s.size) && (decide (s.size ≤ 1000000) && decide (lastB s < 128))), .tup [(false, [.int .i32 (.sym (lastB s))]), (false, [.int .i64 (.lit 1)])])
  | _ => none
def Tabs (W : World) : Prop := ∀ w, Old W w → Lib.Utf8Tabs 1 2 w
theorem last_list {s : ByteArray} (h : 0 < s.size) : lastB s = ((s.data.toList.getD (s.data.toList.length - 1) 0).toNat : Int) := by
  unfold lastB byteAt
  rw [ba_len, show ((s.size : Int) - 1).toNat = s.size - 1 by omega, List.getD_eq_getElem?_getD]
  have hlt : s.size - 1 < s.data.toList.length := by rw [ba_len]; omega
  rw [List.getElem?_eq_getElem hlt]
  rfl
theorem s50 {W : World} (hT : Tabs W) : SpecOk W Tryd.prog 50 (specV F50) := by
  refine spec_of ⟨Tryd.f50, Tryd.func50, by kernel_rfl, by kernel_rfl⟩ ?_
  intro args c v f w hF hc hW
  unfold F50 at hF
  split at hF
  · rename_i s
    simp only [Option.some.injEq, Prod.mk.injEq] at hF
    obtain ⟨rfl, rfl⟩ := hF
    rw [SB.val_sym, Bool.and_eq_true, Bool.and_eq_true, decide_eq_true_eq, decide_eq_true_eq, decide_eq_true_eq] at hc
    refine ⟨nofun, (Tryd.utf8_DecodeLastRuneInString s w (by omega) (hT w hW)).mono ?_⟩
    rintro en w' ⟨rfl, hb⟩
    refine ⟨?_, hb⟩
    have hl := last_list hc.1
    have hne : s.data.toList ≠ [] := by
      intro h
      have := ba_len s
      rw [h] at this
      simp at this
      omega
    have hd : Lib.decodeLastL s.data.toList = ((s.data.toList.getD (s.data.toList.length - 1) 0).toNat, 1) := by
      unfold Lib.decodeLastL
      rw [if_neg hne, if_pos (by have := hc.2.2; omega)]
    rw [hd]
    show Ending.returned (.tuple #[.int .i32 _, .int .i64 1]) = Ending.returned (.tuple #[.int .i32 (lastB s), .int .i64 1])
    rw [hl]
  · cases hF
noncomputable def G22 : List (Nat × Sx.Spec) := [(46, specV F46), (47, specV F47), (48, specV F48), (49, sp49), (50, specV F50)]
theorem g22_ok {W : World} (hT : Tabs W) : GOk W Tryd.prog G22 := gok_cons (s46 W) (gok_cons (s47 W) (gok_cons (s48 W) (gok_cons (s49 W) (gok_cons (s50 hT) (gok_nil W)))))
noncomputable def body22 : Code := match Tryd.f22.body with
  | some c => c
  | none => .skip
noncomputable def bodyB : Code := match body22 with
  | .seq _ (.seq _ (.seq _ (.seq (.seq _ (.cond _ (.seq _ (.seq _ (.cond _ (.seq (.seq _ (.block _ (.loop c))) _) _))) _)) _))) => c
  | _ => .skip
noncomputable def bodyM : Code := match body22 with
  | .seq _ (.seq _ (.seq _ (.seq _ (.seq (.seq _ (.cond _ (.seq _ (.seq _ (.seq (.seq _ (.block _ (.loop c))) _))) _)) _)))) => c
  | _ => .skip
noncomputable def bodyC : Code := match body22 with
  | .seq _ (.seq _ (.seq _ (.seq _ (.seq _ (.seq (.seq _ (.block _ (.loop c))) _))))) => c
  | _ => .skip
def t22 (hB hM hC : LG) : HG := (.seq .plain (.seq .plain (.seq .plain (.seq (.seq .plain (.cond (.seq .plain (.seq .plain (.cond (.seq (.seq .plain (.block (.loop hB))) .plain) .plain))) .plain)) (.seq (.seq .plain (.cond (.seq .plain (.seq .plain (.seq (.seq .plain (.block (.loop hM))) .plain))) .plain)) (.seq (.seq .plain (.block (.loop hC))) .plain))))))
def SB22 (s : ByteArray) (x : Int) : SL := [(0, .one (.str s)), (6, .one (.ptr 0 0)), (8, .one (.int .i64 (.sym x)))]
def BB22 : List (Nat × BI) := [(0, ⟨85, setL, true⟩)]
def SC22 (s : ByteArray) (x : Int) : SL := [(0, .one (.str s)), (1, .one (.str sep)), (13, .one (.int .i64 (.sym x)))]
noncomputable def rB (W : World) (s : ByteArray) (x : Int) : RG := (runG Tryd.prog W G22 100000 96 .plain bodyB (SB22 s x) ⟨[], BB22, 1⟩ []).slim 1 [(0, false), (6, false), (8, true)] [(0, false)] [(4, false)] []
noncomputable def rC (W : World) (s : ByteArray) (x : Int) : RG := (runG Tryd.prog W G22 100000 96 .plain bodyC (SC22 s x) ⟨[], [], 0⟩ []).slim 0 [(0, false), (1, false), (13, true)] [] [(4, false)] []
end Go.Proofs.YtdglgiaegjkinaaDoor

/- strings.LastIndexAny of " ,": its loops, the whole. -/

namespace Go.Proofs.YtdglgiaegjkinaaDoor
open Go Go.Sx Go.RowKit
set_option maxRecDepth 100000
def ex (s : ByteArray) (x : Int) : ByteArray := s.extract 0 x.toNat
def vB (s : ByteArray) (x : Int) : Bool := inStr s x && (decide (0 ≤ byteAt s x) && decide (byteAt s x ≤ 255))
def vC (s : ByteArray) (x : Int) : Bool := decide (0 ≤ x) && decide (x ≤ (s.size : Int))
def vD (t : ByteArray) : Bool := decide (0 < t.size) && (decide (t.size ≤ 1000000) && decide (lastB t < 128))
def vE (t : ByteArray) : Bool := decide (0 ≤ lastB t) && decide (lastB t < 128)
theorem rB_eq (W : World) (s : ByteArray) (x : Int) : rB W s x = .br (decide (0 ≤ x)) (.br (isSep (byteAt s x)) (.leaf .ret (.sym (vB s x)) [(4, .one (.int .i64 (.sym x)))] ⟨[], [], 1⟩ []) (.leaf .nrm (.sym (vB s x)) (SB22 s (gsub .i64 x 1)) ⟨[], BB22, 1⟩ [])) (.leaf (.exit 0) (.lit true) [] ⟨[], [], 1⟩ []) := by kernel_rfl
theorem rC_eq (W : World) (s : ByteArray) (x : Int) : rC W s x = .br (decide (0 < x)) (.br (decide (0 ≤ ixB sep (lastB (ex s x)))) (.leaf .ret (.sym ((vC s x && vD (ex s x)) && vE (ex s x))) [(4, .one (.int .i64 (.sym (gsub .i64 x 1))))] ⟨[], [], 0⟩ []) (.leaf .nrm (.sym ((vC s x && vD (ex s x)) && vE (ex s x))) (SC22 s (gsub .i64 x 1)) ⟨[], [], 0⟩ [])) (.leaf (.exit 4) (.lit true) [] ⟨[], [], 0⟩ []) := by kernel_rfl
def EndB (s : ByteArray) : RG := .br (decide (0 ≤ LA s)) (.leaf .ret (.lit true) [(4, .one (.int .i64 (.sym (LA s))))] ⟨[], [], 1⟩ []) (.leaf (.exit 0) (.lit true) [] ⟨[], [], 1⟩ [])
def EndC (s : ByteArray) : RG := .br (decide (0 ≤ LA s)) (.leaf .ret (.lit true) [(4, .one (.int .i64 (.sym (LA s))))] ⟨[], [], 0⟩ []) (.leaf (.exit 4) (.lit true) [] ⟨[], [], 0⟩ [])
noncomputable def hB22 (s : ByteArray) : LG := .at_ (decide (8 < s.size) && decide (s.size ≤ 1000000)) [(0, false), (6, false), (8, true)] [(0, false)] 1 (SB22 s (gsub .i64 (s.size : Int) 1)) BB22 [] (EndB s)
noncomputable def hC22 (c : Bool) (s : ByteArray) : LG := .at_ c [(0, false), (1, false), (13, true)] [] 0 (SC22 s (s.size : Int)) [] [] (EndC s)
noncomputable def failG : HG := .cust fun _ _ _ => .fail
noncomputable def t22x (hB hC : LG) : HG := (.seq .plain (.seq .plain (.seq (.seq .plain (.cond failG .plain)) (.seq (.seq .plain (.cond (.seq .plain (.seq .plain (.cond (.seq (.seq .plain (.block (.loop hB))) .plain) .plain))) .plain)) (.seq (.seq .plain (.cond failG .plain)) (.seq (.seq .plain (.block (.loop hC))) .plain))))))
noncomputable def x22 (W : World) (c : Bool) (s : ByteArray) : RG := (runG Tryd.prog W G22 100000 96 (t22x (hB22 s) (hC22 c s)) body22 (argSlots 0 [.one (.str s), .one (.str sep)]) noMem []).slim 0 [] [] [(4, false)] []
noncomputable def okB22 (s : ByteArray) : Bool := decide (sep = sep) && ((decide (8 < s.size) && decide (s.size ≤ 1000000)) && (sameS (SB22 s (gsub .i64 (s.size : Int) 1)) (SB22 s (gsub .i64 (s.size : Int) 1)) && (sameB BB22 BB22 && @decide (([] : Gh) = []) (Classical.propDecidable _))))
noncomputable def okC22 (c : Bool) (s : ByteArray) : Bool := c && (sameS (SC22 s (s.size : Int)) (SC22 s (s.size : Int)) && (sameB [] [] && @decide (([] : Gh) = []) (Classical.propDecidable _)))
theorem x22_eq (W : World) (c : Bool) (s : ByteArray) : x22 W c s = .br (decide (sep = ({ data := #[] } : ByteArray))) (.leaf .ret (.lit true) [(4, .one (.int .i64 (.lit (-1))))] ⟨[], [], 0⟩ []) (.br (decide ((s.size : Int) = 1)) .fail
   (.br (decide (8 < (s.size : Int))) (.br (decide (0 ≤ LA s)) (.leaf .ret (.sym (okB22 s)) [(4, .one (.int .i64 (.sym (LA s))))] ⟨[], [], 0⟩ []) (.leaf .ret (.sym (okB22 s)) [(4, .one (.int .i64 (.lit (-1))))] ⟨[], [], 0⟩ []))
     (.br (decide ((sep.size : Int) = 1)) .fail (.br (decide (0 ≤ LA s)) (.leaf .ret (.sym (okC22 c s)) [(4, .one (.int .i64 (.sym (LA s))))] ⟨[], [], 0⟩ []) (.leaf .ret (.sym (okC22 c s)) [(4, .one (.int .i64 (.lit (-1))))] ⟨[], [], 0⟩ []))))) := by kernel_rfl
theorem byteAt_rng {s : ByteArray} (x : Int) : 0 ≤ byteAt s x ∧ byteAt s x ≤ 255 := by
  unfold byteAt
  split
  · rename_i b _
    have := UInt8.toNat_lt b
    omega
  · omega
theorem la_succ (s : ByteArray) (n : Nat) : la s (n + 1) = bif isSep (byteAt s (n : Int)) then (n : Int) else la s n := rfl
theorem la_rng (s : ByteArray) : ∀ n, -1 ≤ la s n ∧ la s n < n
  | 0 => ⟨by simp [la], by simp [la]⟩
  | n + 1 => by
    have := la_rng s n
    rw [la_succ]
    cases isSep (byteAt s (n : Int)) <;> simp only [cond_true, cond_false] <;> omega
theorem gsub_one {x : Int} (h : -1000001 ≤ x) (h' : x ≤ 1000001) : gsub .i64 x 1 = x - 1 := by
  unfold gsub
  rw [IntKind.wrap_i64]
  omega
structure Inv22 (s : ByteArray) (x y : Int) : Prop where
  lo : -1 ≤ x
  hi : x < s.size
  big : s.size ≤ 1000000
  la : la s y.toNat = LA s
  y : y = x + 1
theorem end_ret {W : World} {s : ByteArray} {m : Mem} {i N : Nat} {x : Int} (hx : x = LA s) (h0 : 0 ≤ x) {f : Nat → Nat} {a : Act} {w : World} (hst : GSt (W : Bs) 96 [(4, .one (.int .i64 (.sym x)))] m [] f a w) (e : Exit) (he : exOf .ret = some e) :
    GPost (W : Bs) 96 (.br (decide (0 ≤ LA s)) (.leaf .ret (.lit true) [(4, .one (.int .i64 (.sym (LA s))))] m []) (.leaf (.exit i) (.lit true) [] ⟨[], [], N⟩ [])) e a w := by
  subst hx
  refine ⟨fun _ => ⟨he, f, hst⟩, fun h => ?_⟩
  exact absurd h0 (of_decide_eq_false h)
theorem end_exit {W : World} {s : ByteArray} {i N : Nat} (hx : LA s = -1) {f : Nat → Nat} {a : Act} {w : World} (hst : GSt (W : Bs) 96 [] ⟨[], [], N⟩ [] f a w) (e : Exit) (he : exOf (.exit i) = some e) {m : Mem} :
    GPost (W : Bs) 96 (.br (decide (0 ≤ LA s)) (.leaf .ret (.lit true) [(4, .one (.int .i64 (.sym (LA s))))] m []) (.leaf (.exit i) (.lit true) [] ⟨[], [], N⟩ [])) e a w := by
  refine ⟨fun h => ?_, fun _ => ⟨he, f, hst⟩⟩
  have := of_decide_eq_true h
  omega
theorem stepB {W : World} (s : ByteArray) : StepOk (W : Bs) Tryd.prog G22 100000 96 .plain bodyB 1 [(0, false), (6, false), (8, true)] [(0, false)] [(4, false)] [] (fun x : Int => Inv22 s x (x + 1)) (fun x => (x + 1).toNat) (SB22 s) (fun _ => BB22) (fun _ => []) (EndB s) := by
  constructor
  intro x h
  have hr := rB_eq W s x
  unfold rB at hr
  rw [show (Bs.of W).W = W from rfl, hr]
  obtain ⟨h1, h2, h3, h4, -⟩ := h
  have hb := byteAt_rng (s := s) x
  constructor
  · intro hx
    have hx := of_decide_eq_true hx
    have e1 : (x + 1).toNat = x.toNat + 1 := by omega
    have e2 : ((x.toNat : Nat) : Int) = x := by omega
    rw [e1, la_succ, e2] at h4
    have hv : (SB.sym (vB s x)).val = true := by
      rw [SB.val_sym]
      unfold vB inStr
      rw [decide_eq_true hx, decide_eq_true h2, decide_eq_true hb.1, decide_eq_true hb.2]
      rfl
    constructor
    · intro hs
      rw [hs, cond_true] at h4
      exact ⟨hv, .inr ⟨by simp, fun f a w hst e' he' => end_ret h4 hx hst e' he'⟩⟩
    · intro hs
      rw [hs, cond_false] at h4
      refine ⟨hv, .inl ⟨rfl, gsub .i64 x 1, ?_, ?_, rfl, rfl, rfl⟩⟩
      · rw [gsub_one (by omega) (by omega)]
        exact ⟨by omega, by omega, h3, by rw [← h4]; congr 1; omega, rfl⟩
      · rw [gsub_one (by omega) (by omega)]
        omega
  · intro hx
    have hx := of_decide_eq_false hx
    refine ⟨rfl, .inr ⟨by simp, fun f a w hst e' he' => ?_⟩⟩
    refine end_exit ?_ hst e' he'
    rw [← h4, show (x + 1).toNat = 0 by omega]
    rfl
theorem ixSep {x : Int} : decide (0 ≤ ixB sep x) = isSep x := rfl
theorem ex_size {s : ByteArray} {x : Int} (h : x ≤ s.size) : (ex s x).size = x.toNat := by
  unfold ex
  rw [ByteArray.size_extract]
  omega
theorem lastB_ex {s : ByteArray} {x : Int} (h0 : 0 < x) (h : x ≤ s.size) : lastB (ex s x) = byteAt s (x - 1) := by
  unfold lastB
  rw [ex_size h]
  unfold byteAt
  rw [show ((x.toNat : Nat) : Int) - 1 = x - 1 by omega]
  have e : (ex s x).data.toList[(x - 1).toNat]? = s.data.toList[(x - 1).toNat]? := by
    unfold ex
    rw [ByteArray.data_extract, Array.toList_extract, List.extract_eq_take_drop, List.drop_zero, List.getElem?_take_of_lt (by omega)]
  rw [e]
theorem stepC {W : World} {s : ByteArray} (ha : asc s) : StepOk (W : Bs) Tryd.prog G22 100000 96 .plain bodyC 0 [(0, false), (1, false), (13, true)] [] [(4, false)] [] (fun x : Int => Inv22 s (x - 1) x) (fun x => x.toNat) (SC22 s) (fun _ => []) (fun _ => []) (EndC s) := by
  constructor
  intro x h
  have hr := rC_eq W s x
  unfold rC at hr
  rw [show (Bs.of W).W = W from rfl, hr]
  obtain ⟨h1, h2, h3, h4, -⟩ := h
  constructor
  · intro hx
    have hx := of_decide_eq_true hx
    have hl := lastB_ex hx (s := s) (by omega)
    have hb := byteAt_rng (s := s) (x - 1)
    have ha' := ha (x - 1).toNat (by omega)
    rw [show (((x - 1).toNat : Nat) : Int) = x - 1 by omega] at ha'
    have e1 : x.toNat = (x - 1).toNat + 1 := by omega
    have e2 : (((x - 1).toNat : Nat) : Int) = x - 1 := by omega
    rw [e1, la_succ, e2] at h4
    have hv : (SB.sym ((vC s x && vD (ex s x)) && vE (ex s x))).val = true := by
      rw [SB.val_sym]
      unfold vC vD vE
      rw [hl, ex_size (by omega), decide_eq_true (show 0 ≤ x by omega), decide_eq_true (show x ≤ (s.size : Int) by omega), decide_eq_true (show 0 < x.toNat by omega), decide_eq_true (show x.toNat ≤ 1000000 by omega), decide_eq_true ha', decide_eq_true hb.1]
      rfl
    rw [hl, ixSep, gsub_one (by omega) (by omega)]
    constructor
    · intro hs
      rw [hs, cond_true] at h4
      exact ⟨hv, .inr ⟨by simp, fun f a w hst e' he' => end_ret h4 (by omega) hst e' he'⟩⟩
    · intro hs
      rw [hs, cond_false] at h4
      refine ⟨hv, .inl ⟨rfl, x - 1, ?_, ?_, rfl, rfl, rfl⟩⟩
      · exact ⟨by omega, by omega, h3, h4, by omega⟩
      · omega
  · intro hx
    have hx := of_decide_eq_false hx
    refine ⟨rfl, .inr ⟨by simp, fun f a w hst e' he' => ?_⟩⟩
    refine end_exit ?_ hst e' he'
    rw [← h4, show x.toNat = 0 by omega]
    rfl
theorem loopB22 {W : World} (hT : Tabs W) (s : ByteArray) : LoopGOk (W : Bs) Tryd.prog 96 bodyB (hB22 s) := by
  refine loopG_step (t := .plain) (g22_ok hT) (hgB_ok (W := (W : Bs)) (P := Tryd.prog) (nt := 96) .plain bodyB rfl) rfl rfl (stepB s) ?_
  intro hc
  rw [Bool.and_eq_true, decide_eq_true_eq, decide_eq_true_eq] at hc
  refine ⟨gsub .i64 (s.size : Int) 1, ?_, rfl, rfl, .inl rfl⟩
  rw [gsub_one (by omega) (by omega)]
  exact ⟨by omega, by omega, hc.2, by rw [show ((s.size : Int) - 1 + 1).toNat = s.size by omega]; rfl, rfl⟩
theorem loopC22 {W : World} (hT : Tabs W) {c : Bool} {s : ByteArray} (hc : c = true → asc s ∧ s.size ≤ 1000000) : LoopGOk (W : Bs) Tryd.prog 96 bodyC (hC22 c s) := by
  cases c with
  | false =>
    intro S Bl g f a w hgood _
    obtain ⟨h1, h2⟩ := RG.good_addVc hgood
    have h3 := h2 (RG.good_is h1)
    rw [SB.val_sym, Bool.false_and] at h3
    cases h3
  | true =>
    obtain ⟨ha, hs⟩ := hc rfl
    refine loopG_step (t := .plain) (g22_ok hT) (hgB_ok (W := (W : Bs)) (P := Tryd.prog) (nt := 96) .plain bodyC rfl) rfl rfl (stepC ha) ?_
    intro _
    exact ⟨(s.size : Int), ⟨by omega, by omega, hs, rfl, by omega⟩, rfl, rfl, .inl rfl⟩
theorem failOk {W : Bs} {P : Program} {nt : Nat} {c : Code} : CustOk W P nt c fun _ _ _ => .fail := fun _ _ _ _ _ _ h _ => h.elim
noncomputable def fc1 : Code := match body22 with
  | .seq _ (.seq _ (.seq (.seq _ (.cond _ c _)) _)) => c
  | _ => .skip
noncomputable def fc2 : Code := match body22 with
  | .seq _ (.seq _ (.seq _ (.seq _ (.seq (.seq _ (.cond _ c _)) _)))) => c
  | _ => .skip
theorem la_big {W : World} (hT : Tabs W) {s : ByteArray} (h1 : s.size ≠ 1) (hs : s.size ≤ 1000000) (hc : 8 < s.size ∨ asc s) : Calls Tryd.prog 22 #[.string s, .string sep] W fun en w' => en = .returned (.int .i64 (LA s)) ∧ Below W.heap.size W w' := by
  have hcalls := calls_of_runG (g22_ok hT) (n := 100000) (g := 22) Tryd.func22 (show Tryd.f22.body = some body22 by kernel_rfl) (t := t22x (hB22 s) (hC22 (decide (s.size ≤ 8)) s)) (args := [.one (.str s), .one (.str sep)]) ?_ (by rw [show Tryd.f22.ntmps = 96 by kernel_rfl]; simp)
    (R := fun v g => v.den (fun _ => 0) = .int .i64 (LA s) ∧ ∀ f, v.den f = v.den (fun _ => 0)) (N := 0) (ks := []) (bs := []) (ke := [(4, false)]) (be := []) rfl rfl ?_
  · refine hcalls.mono ?_
    rintro en w' ⟨v, g, f, ⟨h1, h2⟩, rfl, _, hb⟩
    exact ⟨by rw [h2 f, h1], hb⟩
  · have e : HGOk (W : Bs) Tryd.prog Tryd.f22.ntmps (t22x (hB22 s) (hC22 (decide (s.size ≤ 8)) s)) body22 = (True ∧ True ∧ (True ∧ CustOk (W : Bs) Tryd.prog 96 fc1 (fun _ _ _ => .fail) ∧ True) ∧ (True ∧ (True ∧ True ∧ ((True ∧ LoopGOk (W : Bs) Tryd.prog 96 bodyB (hB22 s)) ∧ True) ∧ True) ∧ True) ∧ (True ∧ CustOk (W : Bs) Tryd.prog 96 fc2 (fun _ _ _ => .fail) ∧ True) ∧ (True ∧ LoopGOk (W : Bs) Tryd.prog 96 bodyC (hC22 (decide (s.size ≤ 8)) s)) ∧ True) := by kernel_rfl
    rw [e]
    refine ⟨trivial, trivial, ⟨trivial, failOk, trivial⟩, ⟨trivial, ⟨trivial, trivial, ⟨⟨trivial, loopB22 hT s⟩, trivial⟩, trivial⟩, trivial⟩, ⟨trivial, failOk, trivial⟩, ⟨trivial, loopC22 hT fun h => ⟨?_, hs⟩⟩, trivial⟩
    have := of_decide_eq_true h
    rcases hc with hc | hc
    · omega
    · exact hc
  · have hx := x22_eq W (decide (s.size ≤ 8)) s
    unfold x22 at hx
    rw [show Tryd.f22.ntmps = 96 by kernel_rfl, hx]
    have hsep : ¬ (sep = ({ data := #[] } : ByteArray)) := by decide
    have hlo := (la_rng s s.size).1
    refine ⟨fun h => absurd (of_decide_eq_true h) hsep, fun _ => ⟨fun h => absurd (of_decide_eq_true h) (by omega), fun _ => ⟨fun h8 => ?_, fun h8 => ⟨fun h => absurd (of_decide_eq_true h) (by decide), fun _ => ?_⟩⟩⟩⟩
    · have hv : (SB.sym (okB22 s)).val = true := by
        have := of_decide_eq_true h8
        rw [SB.val_sym]
        unfold okB22
        rw [sameS_refl (by rfl), sameB_refl (by rfl), @decide_eq_true _ (Classical.propDecidable _) rfl, decide_eq_true (rfl : sep = sep), decide_eq_true (show 8 < s.size by omega), decide_eq_true hs]
        rfl
      refine ⟨fun _ => ⟨hv, .inr rfl, [(false, [.int .i64 (.sym (LA s))])], .one (.int .i64 (.sym (LA s))), by kernel_rfl, rfl, rfl, fun _ => rfl⟩, fun h => ⟨hv, .inr rfl, [(false, [.int .i64 (.lit (-1))])], .one (.int .i64 (.lit (-1))), by kernel_rfl, rfl, ?_, fun _ => rfl⟩⟩
      have := of_decide_eq_false h
      rw [show LA s = -1 by unfold LA at this ⊢; omega]
      rfl
    · have hv : (SB.sym (okC22 (decide (s.size ≤ 8)) s)).val = true := by
        have := of_decide_eq_false h8
        rw [SB.val_sym]
        unfold okC22
        rw [sameS_refl (by rfl), sameB_refl (by rfl), @decide_eq_true _ (Classical.propDecidable _) rfl, decide_eq_true (show s.size ≤ 8 by omega)]
        rfl
      refine ⟨fun _ => ⟨hv, .inr rfl, [(false, [.int .i64 (.sym (LA s))])], .one (.int .i64 (.sym (LA s))), by kernel_rfl, rfl, rfl, fun _ => rfl⟩, fun h => ⟨hv, .inr rfl, [(false, [.int .i64 (.lit (-1))])], .one (.int .i64 (.lit (-1))), by kernel_rfl, rfl, ?_, fun _ => rfl⟩⟩
      have := of_decide_eq_false h
      rw [show LA s = -1 by unfold LA at this ⊢; omega]
      rfl
end Go.Proofs.YtdglgiaegjkinaaDoor

/- strings.IndexRune at " ," and a rune that is no ASCII letter. -/

namespace Go.Proofs.YtdglgiaegjkinaaDoor
open Go Go.Proofs Go.Shelf Go.RowKit Go.Lib
section
variable {P : Program} {ρ : Ren}
set_option maxHeartbeats 2000000 in
set_option maxRecDepth 1000000 in
theorem Any.ir_bad (L : Lays.n152 P ρ) (r : Int) (h0 : 128 ≤ r) (h2 : r ≠ 65533) (hv : Lib.validRune r = false) (w : World) :
    Calls P (ρ.f 152) #[.string { data := #[32, 44] }, .int .i32 r] w fun e w' => e = .returned (.int .i64 (-1)) ∧ Below w.heap.size w w' := by
  have t3 := L.t3; have a3 := L.a3; have z3 := L.z3; have v3 := L.v3
  have t4 := L.t4; have a4 := L.a4; have z4 := L.z4; have v4 := L.v4
  have t5 := L.t5; have a5 := L.a5; have z5 := L.z5; have v5 := L.v5
  have t9 := L.t9; have a9 := L.a9; have z9 := L.z9; have v9 := L.v9
  have t21 := L.t21; have a21 := L.a21; have z21 := L.z21; have v21 := L.v21
  have e119 : ∀ args w, (callFunc (ρ.f 119) args).run P w = .ok (.enter (ρ.f 119) args) w := enters_of L.f119 (by kernel_rfl) rfl
  have e137 : ∀ args w, (callFunc (ρ.f 137) args).run P w = .ok (.enter (ρ.f 137) args) w := enters_of L.f137 (by kernel_rfl) rfl
  have h00 : 0 ≤ r := by omega
  have hn : ¬ r < 128 := by omega
  go_enter L.f152, Body.n152_ntmps ρ
  go_wp2_with first
    | (go_at_fn (ρ.f 119); refine (Any.utf8_ValidRune { L with } _ _).mono ?_; rintro e w' ⟨rfl, hw⟩; rw [hw])
    | (go_at_fn (ρ.f 137); refine (Any.strings_IndexByte { L with } _ _ _).mono ?_; rintro e w' ⟨rfl, hw⟩; rw [hw])
    | go_step3
  go_ret
  exact ⟨rfl, Below.refl _ _⟩
set_option maxHeartbeats 2000000 in
set_option maxRecDepth 1000000 in
theorem Any.ir_err (L : Lays.n152 P ρ) (r : Int) (h0 : r = 65533) (w : World) :
    Calls P (ρ.f 152) #[.string { data := #[32, 44] }, .int .i32 r] w fun e w' => e = .returned (.int .i64 (-1)) ∧ Below w.heap.size w w' := by
  have t3 := L.t3; have a3 := L.a3; have z3 := L.z3; have v3 := L.v3
  have t4 := L.t4; have a4 := L.a4; have z4 := L.z4; have v4 := L.v4
  have t5 := L.t5; have a5 := L.a5; have z5 := L.z5; have v5 := L.v5
  have t9 := L.t9; have a9 := L.a9; have z9 := L.z9; have v9 := L.v9
  have t21 := L.t21; have a21 := L.a21; have z21 := L.z21; have v21 := L.v21
  have e119 : ∀ args w, (callFunc (ρ.f 119) args).run P w = .ok (.enter (ρ.f 119) args) w := enters_of L.f119 (by kernel_rfl) rfl
  have e137 : ∀ args w, (callFunc (ρ.f 137) args).run P w = .ok (.enter (ρ.f 137) args) w := enters_of L.f137 (by kernel_rfl) rfl
  subst h0
  have h00 : (0 : Int) ≤ 65533 := by omega
  have hn : ¬ (65533 : Int) < 128 := by omega
  have n0 : ∀ ty, (Instr.next (.pointer (some ⟨w.heap.size, 0, none⟩)) true ty).run P (w.iter { data := #[32, 44] } 0) = .ok (.tuple #[.bool true, .int .i64 0, .int .i32 32]) (w.iter { data := #[32, 44] } 1) := fun ty => run_next_ascii w _ 0 ty (by decide) (by decide)
  have n1 : ∀ ty, (Instr.next (.pointer (some ⟨w.heap.size, 0, none⟩)) true ty).run P (w.iter { data := #[32, 44] } 1) = .ok (.tuple #[.bool true, .int .i64 1, .int .i32 44]) (w.iter { data := #[32, 44] } 2) := fun ty => run_next_ascii w _ 1 ty (by decide) (by decide)
  have n2 : ∀ ty, (Instr.next (.pointer (some ⟨w.heap.size, 0, none⟩)) true ty).run P (w.iter { data := #[32, 44] } 2) = .ok (.tuple #[.bool false]) (w.iter { data := #[32, 44] } 2) := fun ty => run_next_end w _ 2 ty (by decide)
  go_enter L.f152, Body.n152_ntmps ρ
  go_wp2_with first
    | (go_at_fn (ρ.f 119); refine (Any.utf8_ValidRune { L with } _ _).mono ?_; rintro e w' ⟨rfl, hw⟩; rw [hw])
    | (go_at_fn (ρ.f 137); refine (Any.strings_IndexByte { L with } _ _ _).mono ?_; rintro e w' ⟨rfl, hw⟩; rw [hw])
    | go_step3
  refine wp_loop_rounds 3 ?_
  simp only [Code.rounds]
  go_wp2_with fail
  go_ret
  exact ⟨rfl, (Below.refl _ w).alloc (Nat.le_refl _) _⟩
set_option maxHeartbeats 2000000 in
set_option maxRecDepth 1000000 in
theorem Any.ir_two (L : Lays.n152 P ρ) (r : Int) (h0 : 128 ≤ r) (h2 : r ≠ 65533) (hv : Lib.validRune r = true) (p q : UInt8) (he : Utf8.encode r = { data := #[p, q] }) (hq : 128 ≤ q.toNat) (w : World) :
    Calls P (ρ.f 152) #[.string { data := #[32, 44] }, .int .i32 r] w fun e w' => e = .returned (.int .i64 (-1)) ∧ Below w.heap.size w w' := by
  have t3 := L.t3; have a3 := L.a3; have z3 := L.z3; have v3 := L.v3
  have t4 := L.t4; have a4 := L.a4; have z4 := L.z4; have v4 := L.v4
  have t5 := L.t5; have a5 := L.a5; have z5 := L.z5; have v5 := L.v5
  have t9 := L.t9; have a9 := L.a9; have z9 := L.z9; have v9 := L.v9
  have t21 := L.t21; have a21 := L.a21; have z21 := L.z21; have v21 := L.v21
  have e119 : ∀ args w, (callFunc (ρ.f 119) args).run P w = .ok (.enter (ρ.f 119) args) w := enters_of L.f119 (by kernel_rfl) rfl
  have e137 : ∀ args w, (callFunc (ρ.f 137) args).run P w = .ok (.enter (ρ.f 137) args) w := enters_of L.f137 (by kernel_rfl) rfl
  have h00 : 0 ≤ r := by omega
  have hn : ¬ r < 128 := by omega
  have hs : (Utf8.encode r).size = 2 := by rw [he]; rfl
  have hm := L.mixed
  have hx1 : (({ data := #[32, 44] } : ByteArray)[1]'(by decide)) = 44 := rfl
  have hx2 : (({ data := #[p, q] } : ByteArray)[1]'(by show 1 < 2; decide)) = q := rfl
  have hne : ¬ (44 : Int) = (q.toNat : Int) := by omega
  go_enter L.f152, Body.n152_ntmps ρ
  go_wp2_with first
    | (go_at_fn (ρ.f 119); refine (Any.utf8_ValidRune { L with } _ _).mono ?_; rintro e w' ⟨rfl, hw⟩; rw [hw])
    | (go_at_fn (ρ.f 137); refine (Any.strings_IndexByte { L with } _ _ _).mono ?_; rintro e w' ⟨rfl, hw⟩; rw [hw])
    | go_step3
  refine wp_loop_rounds 1 ?_
  simp only [Code.rounds]
  go_wp2_with first
    | (go_at_fn (ρ.f 137); refine (Any.strings_IndexByte { L with } _ _ _).mono ?_; rintro e w' ⟨rfl, hw⟩; rw [hw])
    | go_step3
    | go_step3
  go_region_o
  go_wp2_with first
    | (go_at_fn (ρ.f 137); refine (Any.strings_IndexByte { L with } _ _ _).mono ?_; rintro e w' ⟨rfl, hw⟩; rw [hw])
    | go_step3
    | go_step3
  have hix : ∀ (b : UInt8), Lib.indexByte (({ data := #[32, 44] } : ByteArray).extract 2 2).data.toList b = -1 := by
    intro b
    rfl
  have hsz : ({ data := #[32, 44] } : ByteArray).size = 2 := rfl
  have h22 : (2 : Int) ≤ 2 := by omega
  have hw2 : IntKind.i64.wrap 2 = 2 := rfl
  have hix2 : ∀ (b : UInt8), Lib.indexByte ByteArray.empty.data.toList b = -1 := fun b => rfl
  go_quiet_o (first | (refine (Any.strings_IndexByte { L with } _ _ _).mono ?_; rintro e w' ⟨rfl, rfl⟩; exact ⟨rfl, _, rfl⟩))
  go_wp2_with first
    | (go_at_fn (ρ.f 137); refine (Any.strings_IndexByte { L with } _ _ _).mono ?_; rintro e w' ⟨rfl, hw⟩; rw [hw])
    | go_step3
    | go_step3
  change bodyPost P (Body.n152 ρ) (fun e w' => e = Ending.returned (Value.int IntKind.i64 (-1)) ∧ Below w.heap.size w w') Exit.ret _ _
  go_ret
  exact ⟨rfl, ⟨rfl, rfl, rfl, Nat.le_refl _, fun _ _ => rfl⟩⟩
set_option maxHeartbeats 2000000 in
set_option maxRecDepth 1000000 in
theorem Any.ir_big3 (L : Lays.n152 P ρ) (r : Int) (h0 : 128 ≤ r) (h2 : r ≠ 65533) (hv : Lib.validRune r = true) (hs : (Utf8.encode r).size = 3) (w : World) :
    Calls P (ρ.f 152) #[.string { data := #[32, 44] }, .int .i32 r] w fun e w' => e = .returned (.int .i64 (-1)) ∧ Below w.heap.size w w' := by
  have t3 := L.t3; have a3 := L.a3; have z3 := L.z3; have v3 := L.v3
  have t4 := L.t4; have a4 := L.a4; have z4 := L.z4; have v4 := L.v4
  have t5 := L.t5; have a5 := L.a5; have z5 := L.z5; have v5 := L.v5
  have t9 := L.t9; have a9 := L.a9; have z9 := L.z9; have v9 := L.v9
  have t21 := L.t21; have a21 := L.a21; have z21 := L.z21; have v21 := L.v21
  have e119 : ∀ args w, (callFunc (ρ.f 119) args).run P w = .ok (.enter (ρ.f 119) args) w := enters_of L.f119 (by kernel_rfl) rfl
  have e137 : ∀ args w, (callFunc (ρ.f 137) args).run P w = .ok (.enter (ρ.f 137) args) w := enters_of L.f137 (by kernel_rfl) rfl
  have h00 : 0 ≤ r := by omega
  have hn : ¬ r < 128 := by omega
  go_enter L.f152, Body.n152_ntmps ρ
  go_wp2_with first
    | (go_at_fn (ρ.f 119); refine (Any.utf8_ValidRune { L with } _ _).mono ?_; rintro e w' ⟨rfl, hw⟩; rw [hw])
    | (go_at_fn (ρ.f 137); refine (Any.strings_IndexByte { L with } _ _ _).mono ?_; rintro e w' ⟨rfl, hw⟩; rw [hw])
    | go_step3
  refine wp_loop_rounds 1 ?_
  simp only [Code.rounds]
  go_wp2_with first
    | (go_at_fn (ρ.f 137); refine (Any.strings_IndexByte { L with } _ _ _).mono ?_; rintro e w' ⟨rfl, hw⟩; rw [hw])
    | go_step3
    | go_step3
  simp only [Exit.noGoto_ret]
  go_ret
  exact ⟨rfl, Below.refl _ _⟩
set_option maxHeartbeats 2000000 in
set_option maxRecDepth 1000000 in
theorem Any.ir_big4 (L : Lays.n152 P ρ) (r : Int) (h0 : 128 ≤ r) (h2 : r ≠ 65533) (hv : Lib.validRune r = true) (hs : (Utf8.encode r).size = 4) (w : World) :
    Calls P (ρ.f 152) #[.string { data := #[32, 44] }, .int .i32 r] w fun e w' => e = .returned (.int .i64 (-1)) ∧ Below w.heap.size w w' := by
  have t3 := L.t3; have a3 := L.a3; have z3 := L.z3; have v3 := L.v3
  have t4 := L.t4; have a4 := L.a4; have z4 := L.z4; have v4 := L.v4
  have t5 := L.t5; have a5 := L.a5; have z5 := L.z5; have v5 := L.v5
  have t9 := L.t9; have a9 := L.a9; have z9 := L.z9; have v9 := L.v9
  have t21 := L.t21; have a21 := L.a21; have z21 := L.z21; have v21 := L.v21
  have e119 : ∀ args w, (callFunc (ρ.f 119) args).run P w = .ok (.enter (ρ.f 119) args) w := enters_of L.f119 (by kernel_rfl) rfl
  have e137 : ∀ args w, (callFunc (ρ.f 137) args).run P w = .ok (.enter (ρ.f 137) args) w := enters_of L.f137 (by kernel_rfl) rfl
  have h00 : 0 ≤ r := by omega
  have hn : ¬ r < 128 := by omega
  go_enter L.f152, Body.n152_ntmps ρ
  go_wp2_with first
    | (go_at_fn (ρ.f 119); refine (Any.utf8_ValidRune { L with } _ _).mono ?_; rintro e w' ⟨rfl, hw⟩; rw [hw])
    | (go_at_fn (ρ.f 137); refine (Any.strings_IndexByte { L with } _ _ _).mono ?_; rintro e w' ⟨rfl, hw⟩; rw [hw])
    | go_step3
  refine wp_loop_rounds 1 ?_
  simp only [Code.rounds]
  go_wp2_with first
    | (go_at_fn (ρ.f 137); refine (Any.strings_IndexByte { L with } _ _ _).mono ?_; rintro e w' ⟨rfl, hw⟩; rw [hw])
    | go_step3
    | go_step3
  simp only [Exit.noGoto_ret]
  go_ret
  exact ⟨rfl, Below.refl _ _⟩
end
/-- IndexRune of a rune that is no ASCII letter: not in " ,". -/
theorem ir_all (r : Int) (h0 : 128 ≤ r) (w : World) : Calls Tryd.prog 46 #[.string { data := #[32, 44] }, .int .i32 r] w fun e w' => e = .returned (.int .i64 (-1)) ∧ Below w.heap.size w w' := by
  by_cases h2 : r = 65533
  · exact Any.ir_err Tryd.lays152 r h2 w
  cases hv : Lib.validRune r with
  | false => exact Any.ir_bad Tryd.lays152 r h0 h2 hv w
  | true =>
    have hv2 : Utf8.valid r = true := by
      unfold Lib.validRune at hv
      rw [decide_eq_true_eq] at hv
      unfold Utf8.valid
      simp
      omega
    obtain ⟨h3, h4, hlast⟩ := encode_facts r hv2 h0
    rcases (show (Utf8.encode r).size = 2 ∨ (Utf8.encode r).size = 3 ∨ (Utf8.encode r).size = 4 by omega) with hs | hs | hs
    · have hl : (Utf8.encode r).data.toList.length = 2 := by rw [← hs]; rfl
      match hd : (Utf8.encode r).data.toList, hl with
      | [p, q], _ =>
        have he : Utf8.encode r = { data := #[p, q] } := by
          apply ByteArray.ext
          apply Array.ext'
          rw [hd]
        refine Any.ir_two Tryd.lays152 r h0 h2 hv p q he ?_ w
        have := hlast (by omega)
        simp only [he] at this
        exact this
    · exact Any.ir_big3 Tryd.lays152 r h0 h2 hv hs w
    · exact Any.ir_big4 Tryd.lays152 r h0 h2 hv hs w
end Go.Proofs.YtdglgiaegjkinaaDoor

/- strings.LastIndexAny of " ," at a text of one letter. -/

namespace Go.Proofs.YtdglgiaegjkinaaDoor
open Go Go.Proofs Go.Shelf Go.RowKit Go.Lib Go.Sx
set_option maxHeartbeats 2000000 in
set_option maxRecDepth 1000000 in
theorem one_lo (b : UInt8) (hb : b.toNat < 128) (w : World) :
    Calls Tryd.prog 22 #[.string { data := #[b] }, .string { data := #[32, 44] }] w fun e w' => e = .returned (.int .i64 (if 0 ≤ Lib.indexByte [32, 44] b then 0 else -1)) ∧ Below w.heap.size w w' := by
  have hsz : ({ data := #[b] } : ByteArray).size = 1 := rfl
  have hx1 : (({ data := #[b] } : ByteArray)[0]'(by show 0 < 1; decide)) = b := rfl
  have hi : ¬ (128 : Int) ≤ (b.toNat : Int) := by omega
  have hi2 : IntKind.i32.wrap (b.toNat : Int) = (b.toNat : Int) := by
    simp [IntKind.wrap, IntKind.bits, IntKind.signed]
    omega
  go_enter Tryd.func22, Tryd.ntmps22
  go_wp2_with (go_at_call 46; refine (Tryd.strings_IndexRune_ascii _ _ _ (by omega) (by omega)).mono ?_; rintro e w' ⟨rfl, rfl⟩)
  all_goals
    first | go_ret | (change bodyPost Tryd.prog Tryd.f22 _ Exit.ret _ _; go_ret)
    refine ⟨?_, Below.refl _ _⟩
    simp_all
set_option maxHeartbeats 2000000 in
set_option maxRecDepth 1000000 in
theorem one_hi (b : UInt8) (hb : 128 ≤ b.toNat) (w : World) :
    Calls Tryd.prog 22 #[.string { data := #[b] }, .string { data := #[32, 44] }] w fun e w' => e = .returned (.int .i64 (-1)) ∧ Below w.heap.size w w' := by
  have hsz : ({ data := #[b] } : ByteArray).size = 1 := rfl
  have hx1 : (({ data := #[b] } : ByteArray)[0]'(by show 0 < 1; decide)) = b := rfl
  have hi : (128 : Int) ≤ (b.toNat : Int) := by omega
  have hi2 : IntKind.i32.wrap (b.toNat : Int) = (b.toNat : Int) := by
    have := UInt8.toNat_lt b
    simp [IntKind.wrap, IntKind.bits, IntKind.signed]
    omega
  go_enter Tryd.func22, Tryd.ntmps22
  go_wp2_with (go_at_call 46; refine (ir_all _ (by omega) _).mono ?_; rintro e w1 ⟨rfl, hbw⟩)
  all_goals
    first | go_ret | (change bodyPost Tryd.prog Tryd.f22 _ Exit.ret _ _; go_ret)
    exact ⟨rfl, by assumption⟩
end Go.Proofs.YtdglgiaegjkinaaDoor

/- strings.LastIndexAny of " ," at every text. -/

namespace Go.Proofs.YtdglgiaegjkinaaDoor
open Go Go.Sx Go.RowKit
set_option maxRecDepth 100000
/-! ### The last rune of a text -/
theorem dec_nat (n b0 b1 b2 b3 : Nat) (h : 128 ≤ b0) : 128 ≤ (Lib.decodeN n b0 b1 b2 b3).1 ∧ ((Lib.decodeN n b0 b1 b2 b3).2 = 1 ∨ ((Lib.decodeN n b0 b1 b2 b3).2 = 2 ∧ 128 ≤ b1) ∨ ((Lib.decodeN n b0 b1 b2 b3).2 = 3 ∧ 128 ≤ b1 ∧ 128 ≤ b2) ∨ ((Lib.decodeN n b0 b1 b2 b3).2 = 4 ∧ 128 ≤ b1 ∧ 128 ≤ b2 ∧ 128 ≤ b3)) := by
  unfold Lib.decodeN
  split
  · omega
  · split
    · split
      · refine ⟨?_, .inr (.inl ⟨rfl, ?_⟩)⟩ <;> (try dsimp only) <;> omega
      · exact ⟨by decide, .inl rfl⟩
    · split
      · split
        · refine ⟨?_, .inr (.inr (.inl ⟨rfl, ?_, ?_⟩))⟩ <;> (try dsimp only) <;> omega
        · exact ⟨by decide, .inl rfl⟩
      · split
        · split
          · refine ⟨?_, .inr (.inr (.inr ⟨rfl, ?_, ?_, ?_⟩))⟩ <;> (try dsimp only) <;> omega
          · exact ⟨by decide, .inl rfl⟩
        · exact ⟨by decide, .inl rfl⟩
theorem dec_facts (l : List UInt8) (h : 128 ≤ (l.getD 0 0).toNat) : 128 ≤ (Lib.decodeL l).1 ∧ ((Lib.decodeL l).2 = 1 ∨ ∀ j, j < (Lib.decodeL l).2 → 128 ≤ (l.getD j 0).toNat) := by
  rw [Lib.decodeL_N]
  obtain ⟨h1, h2⟩ := dec_nat l.length _ (l.getD 1 0).toNat (l.getD 2 0).toNat (l.getD 3 0).toNat h
  refine ⟨h1, ?_⟩
  rcases h2 with h2 | ⟨h2, h3⟩ | ⟨h2, h3, h4⟩ | ⟨h2, h3, h4, h5⟩
  · exact .inl h2
  · right
    intro j hj
    rw [h2] at hj
    rcases (show j = 0 ∨ j = 1 by omega) with rfl | rfl <;> assumption
  · right
    intro j hj
    rw [h2] at hj
    rcases (show j = 0 ∨ j = 1 ∨ j = 2 by omega) with rfl | rfl | rfl <;> assumption
  · right
    intro j hj
    rw [h2] at hj
    rcases (show j = 0 ∨ j = 1 ∨ j = 2 ∨ j = 3 by omega) with rfl | rfl | rfl | rfl <;> assumption
theorem dec_lo (l : List UInt8) (h : (l.getD 0 0).toNat < 128) : (Lib.decodeL l).2 = 1 := by
  rw [Lib.decodeL_N]
  unfold Lib.decodeN
  rw [if_pos h]
theorem dl_hi (l : List UInt8) (h : l ≠ []) (hb : 128 ≤ (l.getD (l.length - 1) 0).toNat) : 128 ≤ (Lib.decodeLastL l).1 ∧ 1 ≤ (Lib.decodeLastL l).2 ∧ (Lib.decodeLastL l).2 ≤ l.length ∧ ∀ j, l.length - (Lib.decodeLastL l).2 ≤ j → j < l.length → 128 ≤ (l.getD j 0).toNat := by
  have hn : 0 < l.length := List.length_pos_iff.2 h
  unfold Lib.decodeLastL
  rw [if_neg h, if_neg (by omega)]
  dsimp only
  by_cases hst : Lib.lastStart l + (Lib.decodeL (l.drop (Lib.lastStart l))).2 = l.length
  · rw [if_pos hst]
    have hw := Lib.decodeL_width (l.drop (Lib.lastStart l))
    have hget : ∀ j, ((l.drop (Lib.lastStart l)).getD j 0) = l.getD (Lib.lastStart l + j) 0 := fun j => Lib.getD_dropU l _ j
    rcases Nat.lt_or_ge ((l.drop (Lib.lastStart l)).getD 0 0).toNat 128 with h0 | h0
    · have h1 := dec_lo _ h0
      rw [hget] at h0
      rw [h1] at hst
      rw [show l.length - 1 = Lib.lastStart l + 0 by omega] at hb
      omega
    · obtain ⟨h1, h2⟩ := dec_facts _ h0
      refine ⟨h1, hw, by omega, ?_⟩
      intro j hj hjn
      rcases h2 with h2 | h2
      · rw [h2] at hst hj
        rw [show j = l.length - 1 by omega]
        exact hb
      · have := h2 (j - Lib.lastStart l) (by omega)
        rw [hget, show Lib.lastStart l + (j - Lib.lastStart l) = j by omega] at this
        exact this
  · rw [if_neg hst]
    refine ⟨by decide, by decide, hn, ?_⟩
    intro j hj hjn
    dsimp only at hj
    rw [show j = l.length - 1 by omega]
    exact hb
theorem dl_lo (l : List UInt8) (h : l ≠ []) (hb : (l.getD (l.length - 1) 0).toNat < 128) : Lib.decodeLastL l = ((l.getD (l.length - 1) 0).toNat, 1) := by
  unfold Lib.decodeLastL
  rw [if_neg h, if_pos hb]
/-! ### The contracts -/
def ixG (x : Int) : Int := bif decide (x < 128) then ixB sep x else -1
def F46g : List TV → Option (SB × TV)
  | [.one (.str s), .one (.int .i32 x)] => some (.sym (decide (s = sep) && decide (0 ≤ x.val)), .one (.int .i64 (.sym (ixG x.val))))
  | _ => none
theorem s46g (W : World) : SpecOk W Tryd.prog 46 (specV F46g) := by
  refine spec_of ⟨Tryd.f46, Tryd.func46, by kernel_rfl, by kernel_rfl⟩ ?_
  intro args c v f w hF hc hW
  unfold F46g at hF
  split at hF
  · simp only [Option.some.injEq, Prod.mk.injEq] at hF
    obtain ⟨rfl, rfl⟩ := hF
    rw [SB.val_sym, Bool.and_eq_true, decide_eq_true_eq, decide_eq_true_eq] at hc
    obtain ⟨rfl, hc⟩ := hc
    rename_i x
    refine ⟨nofun, ?_⟩
    rcases Int.lt_or_le x.val 128 with h | h
    · refine (Tryd.strings_IndexRune_ascii sep x.val w hc h).mono ?_
      rintro en w' ⟨rfl, rfl⟩
      refine ⟨?_, Below.refl _ _⟩
      show _ = Ending.returned (.int .i64 (ixG x.val))
      unfold ixG
      rw [decide_eq_true h]
      rfl
    · refine (ir_all x.val h w).mono ?_
      rintro en w' ⟨rfl, hb⟩
      refine ⟨?_, hb⟩
      show _ = Ending.returned (.int .i64 (ixG x.val))
      unfold ixG
      rw [decide_eq_false (by omega)]
      rfl
  · cases hF
def rN2 (t : ByteArray) : Int := ((Lib.decodeLastL t.data.toList).1 : Int)
def wd (t : ByteArray) : Int := ((Lib.decodeLastL t.data.toList).2 : Int)
def F50g : List TV → Option (SB × TV)
  | [.one (.str s)] => some (.sym (decide (s.size ≤ 1000000)), .tup [(false, [.int .i32 (.sym (rN2 s))]), (false, [.int .i64 (.sym (wd s))])])
  | _ => none
theorem s50g {W : World} (hT : Tabs W) : SpecOk W Tryd.prog 50 (specV F50g) := by
  refine spec_of ⟨Tryd.f50, Tryd.func50, by kernel_rfl, by kernel_rfl⟩ ?_
  intro args c v f w hF hc hW
  unfold F50g at hF
  split at hF
  · rename_i s
    simp only [Option.some.injEq, Prod.mk.injEq] at hF
    obtain ⟨rfl, rfl⟩ := hF
    rw [SB.val_sym, decide_eq_true_eq] at hc
    refine ⟨nofun, (Tryd.utf8_DecodeLastRuneInString s w (by omega) (hT w hW)).mono ?_⟩
    rintro en w' ⟨rfl, hb⟩
    exact ⟨rfl, hb⟩
  · cases hF
noncomputable def G22g : List (Nat × Sx.Spec) := [(46, specV F46g), (47, specV F47), (48, specV F48), (49, sp49), (50, specV F50g)]
theorem g22g_ok {W : World} (hT : Tabs W) : GOk W Tryd.prog G22g := gok_cons (s46g W) (gok_cons (s47 W) (gok_cons (s48 W) (gok_cons (s49 W) (gok_cons (s50g hT) (gok_nil W)))))
noncomputable def rCg (W : World) (s : ByteArray) (x : Int) : RG := (runG Tryd.prog W G22g 100000 96 .plain bodyC (SC22 s x) ⟨[], [], 0⟩ []).slim 0 [(0, false), (1, false), (13, true)] [] [(4, false)] []
noncomputable def x22g (W : World) (c : Bool) (s : ByteArray) : RG := (runG Tryd.prog W G22g 100000 96 (.seq .plain (.seq .plain (.seq (.seq .plain (.cond failG .plain)) (.seq (.seq .plain (.cond failG .plain)) (.seq (.seq .plain (.cond failG .plain)) (.seq (.seq .plain (.block (.loop (hC22 c s)))) .plain)))))) body22 (argSlots 0 [.one (.str s), .one (.str sep)]) noMem []).slim 0 [] [] [(4, false)] []
def vG (s : ByteArray) (x : Int) : Bool := (vC s x && decide ((ex s x).size ≤ 1000000)) && (decide (sep = sep) && decide (0 ≤ rN2 (ex s x)))
theorem rCg_eq (W : World) (s : ByteArray) (x : Int) : rCg W s x = .br (decide (0 < x)) (.br (decide (0 ≤ ixG (rN2 (ex s x)))) (.leaf .ret (.sym (vG s x)) [(4, .one (.int .i64 (.sym (gsub .i64 x (wd (ex s x))))))] ⟨[], [], 0⟩ []) (.leaf .nrm (.sym (vG s x)) (SC22 s (gsub .i64 x (wd (ex s x)))) ⟨[], [], 0⟩ [])) (.leaf (.exit 4) (.lit true) [] ⟨[], [], 0⟩ []) := by kernel_rfl
theorem x22g_eq (W : World) (c : Bool) (s : ByteArray) : x22g W c s = .br (decide (sep = ({ data := #[] } : ByteArray))) (.leaf .ret (.lit true) [(4, .one (.int .i64 (.lit (-1))))] ⟨[], [], 0⟩ []) (.br (decide ((s.size : Int) = 1)) .fail
   (.br (decide (8 < (s.size : Int))) .fail
     (.br (decide ((sep.size : Int) = 1)) .fail (.br (decide (0 ≤ LA s)) (.leaf .ret (.sym (okC22 c s)) [(4, .one (.int .i64 (.sym (LA s))))] ⟨[], [], 0⟩ []) (.leaf .ret (.sym (okC22 c s)) [(4, .one (.int .i64 (.lit (-1))))] ⟨[], [], 0⟩ []))))) := by kernel_rfl
/-! ### The loop over the runes -/
theorem hi_sep {x : Int} (h : 0 ≤ x ∧ x ≤ 255) (h2 : 128 ≤ x) : isSep x = false := by
  have := Sx.all_u8 (p := fun x => decide (x < 128) || !isSep x) (by kernel_rfl) h
  rw [Bool.or_eq_true, decide_eq_true_eq, Bool.not_eq_true'] at this
  rcases this with h3 | h3
  · omega
  · exact h3
theorem la_down (s : ByteArray) (n : Nat) : ∀ m, n ≤ m → (∀ i : Nat, n ≤ i → i < m → isSep (byteAt s (i : Int)) = false) → la s m = la s n
  | 0, h, _ => by rw [show n = 0 by omega]
  | m + 1, h, hi => by
    rcases Nat.lt_or_ge m n with h1 | h1
    · rw [show n = m + 1 by omega]
    · rw [la_succ, hi m h1 (by omega), cond_false]
      exact la_down s n m h1 fun i h2 h3 => hi i h2 (by omega)
theorem byteAt_getD (s : ByteArray) (j : Nat) : byteAt s (j : Int) = ((s.data.toList.getD j 0).toNat : Int) := by
  unfold byteAt
  rw [Int.toNat_natCast, List.getD_eq_getElem?_getD]
  cases s.data.toList[j]? <;> rfl
theorem ex_list (s : ByteArray) (x : Int) : (ex s x).data.toList = s.data.toList.take x.toNat := by
  unfold ex
  rw [ByteArray.data_extract, Array.toList_extract, List.extract_eq_take_drop, List.drop_zero, Nat.sub_zero]
/-- The last rune of what stands ahead of 'n + 1': a separator, or no separator among its bytes. -/
theorem last_rune {s : ByteArray} {n : Nat} (h : n < s.size) : (ixG (rN2 (ex s ((n + 1 : Nat) : Int))) = ixB sep (byteAt s n) ∧ wd (ex s ((n + 1 : Nat) : Int)) = 1) ∨
    (ixG (rN2 (ex s ((n + 1 : Nat) : Int))) = -1 ∧ ∃ w : Nat, wd (ex s ((n + 1 : Nat) : Int)) = w ∧ 1 ≤ w ∧ w ≤ n + 1 ∧ ∀ i : Nat, n + 1 - w ≤ i → i < n + 1 → isSep (byteAt s (i : Int)) = false) := by
  have hl : (ex s ((n + 1 : Nat) : Int)).data.toList = s.data.toList.take (n + 1) := by rw [ex_list, Int.toNat_natCast]
  have hsz : s.data.toList.length = s.size := ba_len s
  have hlen : (s.data.toList.take (n + 1)).length = n + 1 := by rw [List.length_take]; omega
  have hne : s.data.toList.take (n + 1) ≠ [] := by
    intro h0
    rw [h0] at hlen
    simp at hlen
  have hget : ∀ i, i < n + 1 → (s.data.toList.take (n + 1)).getD i 0 = s.data.toList.getD i 0 := by
    intro i hi
    rw [List.getD_eq_getElem?_getD, List.getElem?_take_of_lt hi, ← List.getD_eq_getElem?_getD]
  have hlast : ((s.data.toList.take (n + 1)).getD ((s.data.toList.take (n + 1)).length - 1) 0) = s.data.toList.getD n 0 := by
    rw [hlen, show n + 1 - 1 = n by omega, hget n (by omega)]
  have hbn := byteAt_getD s n
  have hr := UInt8.toNat_lt (s.data.toList.getD n 0)
  unfold rN2 wd
  rw [hl]
  rcases Nat.lt_or_ge (s.data.toList.getD n 0).toNat 128 with h1 | h1
  · left
    rw [dl_lo _ hne (by rw [hlast]; exact h1), hlast]
    dsimp only
    refine ⟨?_, rfl⟩
    unfold ixG
    rw [hbn, decide_eq_true (by omega)]
    rfl
  · right
    obtain ⟨h2, h3, h4, h5⟩ := dl_hi _ hne (by rw [hlast]; exact h1)
    rw [hlen] at h4 h5
    refine ⟨?_, _, rfl, h3, h4, ?_⟩
    · unfold ixG
      rw [decide_eq_false (by omega)]
      rfl
    · intro i hi hin
      have := h5 i hi hin
      rw [hget i hin] at this
      have hb := byteAt_getD s i
      have hr2 := UInt8.toNat_lt (s.data.toList.getD i 0)
      exact hi_sep (by omega) (by omega)
structure InvG (s : ByteArray) (x : Int) : Prop where
  lo : 0 ≤ x
  hi : x ≤ s.size
  big : s.size ≤ 1000000
  la : la s x.toNat = LA s
theorem stepCg {W : World} (s : ByteArray) : StepOk (W : Bs) Tryd.prog G22g 100000 96 .plain bodyC 0 [(0, false), (1, false), (13, true)] [] [(4, false)] [] (InvG s) (fun x => x.toNat) (SC22 s) (fun _ => []) (fun _ => []) (EndC s) := by
  constructor
  intro x h
  have hr := rCg_eq W s x
  unfold rCg at hr
  rw [show (Bs.of W).W = W from rfl, hr]
  obtain ⟨h1, h2, h3, h4⟩ := h
  constructor
  · intro hx
    have hx := of_decide_eq_true hx
    obtain ⟨n, rfl⟩ : ∃ n : Nat, x = ((n + 1 : Nat) : Int) := ⟨x.toNat - 1, by omega⟩
    have hn : n < s.size := by omega
    rw [Int.toNat_natCast] at h4
    have hv : (SB.sym (vG s ((n + 1 : Nat) : Int))).val = true := by
      rw [SB.val_sym]
      unfold vG vC rN2
      rw [ex_size (by omega), decide_eq_true h1, decide_eq_true h2, decide_eq_true (show (((n + 1 : Nat) : Int)).toNat ≤ 1000000 by omega), decide_eq_true (rfl : sep = sep), decide_eq_true (by omega)]
      rfl
    rcases last_rune hn with ⟨h5, h6⟩ | ⟨h5, w, h6, h7, h8, h9⟩
    · rw [h5, h6, ixSep, gsub_one (by omega) (by omega)]
      rw [la_succ] at h4
      constructor
      · intro hs
        rw [hs, cond_true] at h4
        exact ⟨hv, .inr ⟨by simp, fun f a w hst e' he' => end_ret (by omega) (by omega) hst e' he'⟩⟩
      · intro hs
        rw [hs, cond_false] at h4
        refine ⟨hv, .inl ⟨rfl, ((n + 1 : Nat) : Int) - 1, ?_, ?_, rfl, rfl, rfl⟩⟩
        · exact ⟨by omega, by omega, h3, by rw [← h4]; congr 1; omega⟩
        · omega
    · rw [h5, h6]
      have hg : gsub .i64 ((n + 1 : Nat) : Int) (w : Int) = ((n + 1 - w : Nat) : Int) := by
        unfold gsub
        rw [IntKind.wrap_i64]
        omega
      constructor
      · intro hs
        have := of_decide_eq_true hs
        omega
      · intro _
        refine ⟨hv, .inl ⟨rfl, ((n + 1 - w : Nat) : Int), ?_, ?_, by rw [hg], rfl, rfl⟩⟩
        · refine ⟨by omega, by omega, h3, ?_⟩
          rw [Int.toNat_natCast, ← h4]
          exact (la_down s (n + 1 - w) (n + 1) (by omega) h9).symm
        · omega
  · intro hx
    have hx := of_decide_eq_false hx
    refine ⟨rfl, .inr ⟨by simp, fun f a w hst e' he' => ?_⟩⟩
    refine end_exit ?_ hst e' he'
    rw [← h4, show x.toNat = 0 by omega]
    rfl
theorem loopCg {W : World} (hT : Tabs W) {s : ByteArray} (hs : s.size ≤ 1000000) : LoopGOk (W : Bs) Tryd.prog 96 bodyC (hC22 true s) := by
  refine loopG_step (t := .plain) (g22g_ok hT) (hgB_ok (W := (W : Bs)) (P := Tryd.prog) (nt := 96) .plain bodyC rfl) rfl rfl (stepCg s) ?_
  intro _
  exact ⟨(s.size : Int), ⟨by omega, by omega, hs, rfl⟩, rfl, rfl, .inl rfl⟩
noncomputable def fc0 : Code := match body22 with
  | .seq _ (.seq _ (.seq _ (.seq (.seq _ (.cond _ c _)) _))) => c
  | _ => .skip
theorem la_short {W : World} (hT : Tabs W) {s : ByteArray} (h1 : s.size ≠ 1) (hs : s.size ≤ 8) : Calls Tryd.prog 22 #[.string s, .string sep] W fun en w' => en = .returned (.int .i64 (LA s)) ∧ Below W.heap.size W w' := by
  have hcalls := calls_of_runG (g22g_ok hT) (n := 100000) (g := 22) Tryd.func22 (show Tryd.f22.body = some body22 by kernel_rfl) (t := (.seq .plain (.seq .plain (.seq (.seq .plain (.cond failG .plain)) (.seq (.seq .plain (.cond failG .plain)) (.seq (.seq .plain (.cond failG .plain)) (.seq (.seq .plain (.block (.loop (hC22 true s)))) .plain))))))) (args := [.one (.str s), .one (.str sep)]) ?_ (by rw [show Tryd.f22.ntmps = 96 by kernel_rfl]; simp)
    (R := fun v g => v.den (fun _ => 0) = .int .i64 (LA s) ∧ ∀ f, v.den f = v.den (fun _ => 0)) (N := 0) (ks := []) (bs := []) (ke := [(4, false)]) (be := []) rfl rfl ?_
  · refine hcalls.mono ?_
    rintro en w' ⟨v, g, f, ⟨h1, h2⟩, rfl, _, hb⟩
    exact ⟨by rw [h2 f, h1], hb⟩
  · have e : HGOk (W : Bs) Tryd.prog Tryd.f22.ntmps (.seq .plain (.seq .plain (.seq (.seq .plain (.cond failG .plain)) (.seq (.seq .plain (.cond failG .plain)) (.seq (.seq .plain (.cond failG .plain)) (.seq (.seq .plain (.block (.loop (hC22 true s)))) .plain)))))) body22 = (True ∧ True ∧ (True ∧ CustOk (W : Bs) Tryd.prog 96 fc1 (fun _ _ _ => .fail) ∧ True) ∧ (True ∧ CustOk (W : Bs) Tryd.prog 96 fc0 (fun _ _ _ => .fail) ∧ True) ∧ (True ∧ CustOk (W : Bs) Tryd.prog 96 fc2 (fun _ _ _ => .fail) ∧ True) ∧ (True ∧ LoopGOk (W : Bs) Tryd.prog 96 bodyC (hC22 true s)) ∧ True) := by kernel_rfl
    rw [e]
    exact ⟨trivial, trivial, ⟨trivial, failOk, trivial⟩, ⟨trivial, failOk, trivial⟩, ⟨trivial, failOk, trivial⟩, ⟨trivial, loopCg hT (by omega)⟩, trivial⟩
  · have hx := x22g_eq W true s
    unfold x22g at hx
    rw [show Tryd.f22.ntmps = 96 by kernel_rfl, hx]
    have hsep : ¬ (sep = ({ data := #[] } : ByteArray)) := by decide
    have hlo := (la_rng s s.size).1
    refine ⟨fun h => absurd (of_decide_eq_true h) hsep, fun _ => ⟨fun h => absurd (of_decide_eq_true h) (by omega), fun _ => ⟨fun h => absurd (of_decide_eq_true h) (by omega), fun h8 => ⟨fun h => absurd (of_decide_eq_true h) (by decide), fun _ => ?_⟩⟩⟩⟩
    have hv : (SB.sym (okC22 true s)).val = true := by
      rw [SB.val_sym]
      unfold okC22
      rw [sameS_refl (by rfl), sameB_refl (by rfl), @decide_eq_true _ (Classical.propDecidable _) rfl]
      rfl
    refine ⟨fun _ => ⟨hv, .inr rfl, [(false, [.int .i64 (.sym (LA s))])], .one (.int .i64 (.sym (LA s))), by kernel_rfl, rfl, rfl, fun _ => rfl⟩, fun h => ⟨hv, .inr rfl, [(false, [.int .i64 (.lit (-1))])], .one (.int .i64 (.lit (-1))), by kernel_rfl, rfl, ?_, fun _ => rfl⟩⟩
    have := of_decide_eq_false h
    rw [show LA s = -1 by unfold LA at this ⊢; omega]
    rfl
theorem la_one {W : World} {s : ByteArray} (h1 : s.size = 1) : Calls Tryd.prog 22 #[.string s, .string sep] W fun en w' => en = .returned (.int .i64 (LA s)) ∧ Below W.heap.size W w' := by
  have hl : s.data.toList.length = 1 := by rw [ba_len]; exact h1
  match hd : s.data.toList, hl with
  | [b], _ =>
    have he : s = { data := #[b] } := by
      apply ByteArray.ext
      apply Array.ext'
      rw [hd]
    subst he
    have hLA : LA { data := #[b] } = bif isSep (b.toNat : Int) then 0 else -1 := rfl
    have hr := UInt8.toNat_lt b
    rcases Nat.lt_or_ge b.toNat 128 with h | h
    · refine (one_lo b h W).mono ?_
      rintro en w' ⟨rfl, hb⟩
      refine ⟨?_, hb⟩
      rw [hLA]
      have e : isSep (b.toNat : Int) = decide (0 ≤ Lib.indexByte [32, 44] b) := by
        unfold isSep ixB
        rw [Int.toNat_natCast]
        have : b.toNat.toUInt8 = b := by simp
        rw [this]
        rfl
      rw [e]
      by_cases h0 : 0 ≤ Lib.indexByte [32, 44] b
      · rw [if_pos h0, decide_eq_true h0]
        rfl
      · rw [if_neg h0, decide_eq_false h0]
        rfl
    · refine (one_hi b h W).mono ?_
      rintro en w' ⟨rfl, hb⟩
      refine ⟨?_, hb⟩
      rw [hLA, hi_sep (by omega) (by omega)]
      rfl
theorem la_all {W : World} (hT : Tabs W) {s : ByteArray} (hs : s.size ≤ 1000000) : Calls Tryd.prog 22 #[.string s, .string sep] W fun en w' => en = .returned (.int .i64 (LA s)) ∧ Below W.heap.size W w' := by
  by_cases h1 : s.size = 1
  · exact la_one h1
  rcases Nat.lt_or_ge 8 s.size with h8 | h8
  · exact la_big hT h1 hs (.inl h8)
  · exact la_short hT h1 h8
end Go.Proofs.YtdglgiaegjkinaaDoor
