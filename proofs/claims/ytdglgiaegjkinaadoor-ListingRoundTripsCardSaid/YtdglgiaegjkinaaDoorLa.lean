/- strings.LastIndexAny of " ,". -/
import Derived.Test.YtdglgiaegjkinaaDoorVal
namespace Go.Proofs.YtdglgiaegjkinaaDoor
open Go Go.Sx Go.RowKit
set_option maxRecDepth 100000
def sep : ByteArray := { data := #[32, 44] }
def isSep (x : Int) : Bool := decide (0 ≤ ixB sep x)
def la (s : ByteArray) : Nat → Int
  | 0 => -1
  | n + 1 => bif isSep (byteAt s (n : Int)) then (n : Int) else la s n
def LA (s : ByteArray) : Int := la s s.size
/-- All letters below 128. -/
def asc (s : ByteArray) : Prop := ∀ n : Nat, n < s.size → byteAt s (n : Int) < 128
def F46 : List TV → Option (SB × TV)
  | [.one (.str s), .one (.int .i32 x)] => some (.sym (decide (0 ≤ x.val) && decide (x.val < 128)), .one (.int .i64 (.sym (ixB s x.val))))
  | _ => none
theorem s46 (W : World) : SpecOk W Tryd.prog 46 (specV F46) := by
  refine spec_of ⟨Tryd.f46, Tryd.func46, by kernel_rfl, by kernel_rfl⟩ ?_
  intro args c v f w hF hc hW
  unfold F46 at hF
  split at hF
  · simp only [Option.some.injEq, Prod.mk.injEq] at hF
    obtain ⟨rfl, rfl⟩ := hF
    rw [SB.val_sym, Bool.and_eq_true, decide_eq_true_eq, decide_eq_true_eq] at hc
    refine ⟨nofun, (Tryd.strings_IndexRune_ascii _ _ w hc.1 hc.2).mono ?_⟩
    rintro en w' ⟨rfl, rfl⟩
    exact ⟨rfl, Below.refl _ _⟩
  · cases hF
def F47 : List TV → Option (SB × TV)
  | [.one (.int .i64 x)] => some (.lit true, .one (.bool (.sym (decide (8 < x.val)))))
  | _ => none
theorem s47 (W : World) : SpecOk W Tryd.prog 47 (specV F47) := by
  refine spec_of ⟨Tryd.f47, Tryd.func47, by kernel_rfl, by kernel_rfl⟩ ?_
  intro args c v f w hF hc hW
  unfold F47 at hF
  split at hF
  · simp only [Option.some.injEq, Prod.mk.injEq] at hF
    obtain ⟨rfl, rfl⟩ := hF
    refine ⟨nofun, (Tryd.strings_shouldUseASCIISet _ w).mono ?_⟩
    rintro en w' ⟨rfl, rfl⟩
    exact ⟨rfl, Below.refl _ _⟩
  · cases hF
def setB (i : Nat) : Bool := Nat.beq i 32 || Nat.beq i 44
def setL : List SV := (List.range 256).map fun i => .bool (.lit (setB i))
def setT : TV := .tup [(true, setL), (false, [.bool (.lit true)])]
def F48 : List TV → Option (SB × TV)
  | [.one (.str s)] => some (.sym (decide (s = sep)), setT)
  | _ => none
theorem set_den (f : Nat → Nat) : dens f setL = Lib.setCells [32, 44] := by
  have h : dens (fun _ => 0) setL = Lib.setCells [32, 44] := by kernel_rfl
  rw [← h]
  unfold dens setL
  rw [List.map_map, List.map_map]
  rfl
theorem zero85 (w : World) : (zeroValue 85).run Tryd.prog w = .ok (.agg (Array.replicate 256 (.bool false))) w := by kernel_rfl
theorem s48 (W : World) : SpecOk W Tryd.prog 48 (specV F48) := by
  refine spec_of ⟨Tryd.f48, Tryd.func48, by kernel_rfl, by kernel_rfl⟩ ?_
  intro args c v f w hF hc hW
  unfold F48 at hF
  split at hF
  · simp only [Option.some.injEq, Prod.mk.injEq] at hF
    obtain ⟨rfl, rfl⟩ := hF
    rw [SB.val_sym, decide_eq_true_eq] at hc
    subst hc
    refine ⟨nofun, (Tryd.strings_makeASCIISet zero85 sep w (by decide) ?_).mono ?_⟩
    · intro j b hj
      have h : ∀ b ∈ sep.data.toList, b.toNat < 128 := by decide
      exact h b (List.mem_of_getElem? hj)
    · rintro en w' ⟨rfl, rfl⟩
      refine ⟨?_, below_alloc w _⟩
      show Ending.returned (.tuple #[.agg (Lib.setCells [32, 44]), .bool true]) = Ending.returned (.tuple #[.agg (dens f setL), .bool true])
      rw [set_den]
  · cases hF
def isSet : Nat → List SV → Bool
  | _, [] => true
  | i, .bool (.lit b) :: r => (b == setB i) && isSet (i + 1) r
  | _, _ => false
theorem isSet_get : ∀ {l : List SV} {i j : Nat} {v : SV}, isSet i l = true → l[j]? = some v → v = .bool (.lit (setB (i + j)))
  | [], i, j, v, _, h => by simp at h
  | x :: r, i, j, v, hs, h => by
    unfold isSet at hs
    split at hs
    · rename_i heq; cases heq
    · rename_i heq
      simp only [List.cons.injEq] at heq
      obtain ⟨rfl, rfl⟩ := heq
      rw [Bool.and_eq_true, beq_iff_eq] at hs
      cases j with
      | zero =>
        simp only [List.getElem?_cons_zero, Option.some.injEq] at h
        rw [← h, hs.1]
        rfl
      | succ j =>
        rw [List.getElem?_cons_succ] at h
        rw [isSet_get hs.2 h]
        congr 3
        omega
    · cases hs
def sp49 : Sx.Spec := ⟨fun
    | [.one (.ptr b 0), _] => [(b, 0, 256)]
    | _ => [], fun _ => [], fun args C _ => match args with
    | [.one (.ptr b 0), .one (.int .u8 x)] => match rangeC C b 0 256 with
      | some l => match isSet 0 l with
        | true => some ⟨.sym (decide (0 ≤ x.val) && decide (x.val ≤ 255)), .one (.bool (.sym (isSep x.val))), [], none⟩
        | false => none
      | none => none
    | _ => none⟩
theorem sep_set {x : Int} (h : 0 ≤ x ∧ x ≤ 255) : isSep x = setB x.toNat := by
  have := Sx.all_u8 (p := fun x => isSep x == setB x.toNat) (by kernel_rfl) h
  exact beq_iff_eq.1 this
theorem s49 (W : World) : SpecOk W Tryd.prog 49 sp49 := by
  refine ⟨⟨Tryd.f49, Tryd.func49, by kernel_rfl, by kernel_rfl⟩, ?_⟩
  intro args C K e f w he _ hvc hC _ _ _
  simp only [sp49] at he
  split at he <;> try contradiction
  rename_i b x
  split at he <;> try contradiction
  rename_i l hl
  split at he <;> try contradiction
  rename_i hs
  simp only [Option.some.injEq] at he
  subst he
  rw [SB.val_sym, Bool.and_eq_true, decide_eq_true_eq, decide_eq_true_eq] at hvc
  obtain ⟨hlen, hget⟩ := rangeC_get hl
  have hx : x.val.toNat < l.length := by omega
  have hc := hC b x.val.toNat (.bool (.lit (setB x.val.toNat))) (by
    have h1 := hget x.val.toNat _ (List.getElem?_eq_getElem hx)
    rw [isSet_get hs (List.getElem?_eq_getElem hx), Nat.zero_add] at h1
    exact h1)
  have hu : (UInt8.ofNat x.val.toNat).toNat = x.val.toNat := by
    rw [UInt8.toNat_ofNat']
    omega
  have key := Tryd.asciiSet_contains (f b) (UInt8.ofNat x.val.toNat) (setB x.val.toNat) w (by rw [hu]; exact hc)
  rw [hu, show ((x.val.toNat : Nat) : Int) = x.val by omega] at key
  refine ⟨nofun, fun p hp => (List.not_mem_nil hp).elim, key.mono ?_⟩
  rintro en w' ⟨rfl, rfl⟩
  refine ⟨?_, ⟨rfl, rfl, rfl, Nat.le_refl _, fun _ _ => rfl⟩⟩
  show Ending.returned (.bool _) = Ending.returned (.bool (isSep x.val))
  rw [sep_set hvc]
/-- DecodeLastRuneInString where the last letter is below 128. -/
def lastB (s : ByteArray) : Int := byteAt s ((s.size : Int) - 1)
def F50 : List TV → Option (SB × TV)
  | [.one (.str s)] => some (.sym (decide (0 < s.size) && (decide (s.size ≤ 1000000) && decide (lastB s < 128))), .tup [(false, [.int .i32 (.sym (lastB s))]), (false, [.int .i64 (.lit 1)])])
  | _ => none
def Tabs (W : World) : Prop := ∀ w, Old W w → Lib.Utf8Tabs 1 2 w
theorem last_list {s : ByteArray} (h : 0 < s.size) : lastB s = ((s.data.toList.getD (s.data.toList.length - 1) 0).toNat : Int) := by
  unfold lastB byteAt
  rw [ba_len, show ((s.size : Int) - 1).toNat = s.size - 1 by omega, List.getD_eq_getElem?_getD]
  have hlt : s.size - 1 < s.data.toList.length := by rw [ba_len]; omega
  rw [List.getElem?_eq_getElem hlt]
  rfl
theorem s50 {W : World} (hT : Tabs W) : SpecOk W Tryd.prog 50 (specV F50) := by
  refine spec_of ⟨Tryd.f50, Tryd.func50, by kernel_rfl, by kernel_rfl⟩ ?_
  intro args c v f w hF hc hW
  unfold F50 at hF
  split at hF
  · rename_i s
    simp only [Option.some.injEq, Prod.mk.injEq] at hF
    obtain ⟨rfl, rfl⟩ := hF
    rw [SB.val_sym, Bool.and_eq_true, Bool.and_eq_true, decide_eq_true_eq, decide_eq_true_eq, decide_eq_true_eq] at hc
    refine ⟨nofun, (Tryd.utf8_DecodeLastRuneInString s w (by omega) (hT w hW)).mono ?_⟩
    rintro en w' ⟨rfl, hb⟩
    refine ⟨?_, hb⟩
    have hl := last_list hc.1
    have hne : s.data.toList ≠ [] := by
      intro h
      have := ba_len s
      rw [h] at this
      simp at this
      omega
    have hd : Lib.decodeLastL s.data.toList = ((s.data.toList.getD (s.data.toList.length - 1) 0).toNat, 1) := by
      unfold Lib.decodeLastL
      rw [if_neg hne, if_pos (by have := hc.2.2; omega)]
    rw [hd]
    show Ending.returned (.tuple #[.int .i32 _, .int .i64 1]) = Ending.returned (.tuple #[.int .i32 (lastB s), .int .i64 1])
    rw [hl]
  · cases hF
noncomputable def G22 : List (Nat × Sx.Spec) := [(46, specV F46), (47, specV F47), (48, specV F48), (49, sp49), (50, specV F50)]
theorem g22_ok {W : World} (hT : Tabs W) : GOk W Tryd.prog G22 := gok_cons (s46 W) (gok_cons (s47 W) (gok_cons (s48 W) (gok_cons (s49 W) (gok_cons (s50 hT) (gok_nil W)))))
noncomputable def body22 : Code := match Tryd.f22.body with
  | some c => c
  | none => .skip
noncomputable def bodyB : Code := match body22 with
  | .seq _ (.seq _ (.seq _ (.seq (.seq _ (.cond _ (.seq _ (.seq _ (.cond _ (.seq (.seq _ (.block _ (.loop c))) _) _))) _)) _))) => c
  | _ => .skip
noncomputable def bodyM : Code := match body22 with
  | .seq _ (.seq _ (.seq _ (.seq _ (.seq (.seq _ (.cond _ (.seq _ (.seq _ (.seq (.seq _ (.block _ (.loop c))) _))) _)) _)))) => c
  | _ => .skip
noncomputable def bodyC : Code := match body22 with
  | .seq _ (.seq _ (.seq _ (.seq _ (.seq _ (.seq (.seq _ (.block _ (.loop c))) _))))) => c
  | _ => .skip
def t22 (hB hM hC : LG) : HG := (.seq .plain (.seq .plain (.seq .plain (.seq (.seq .plain (.cond (.seq .plain (.seq .plain (.cond (.seq (.seq .plain (.block (.loop hB))) .plain) .plain))) .plain)) (.seq (.seq .plain (.cond (.seq .plain (.seq .plain (.seq (.seq .plain (.block (.loop hM))) .plain))) .plain)) (.seq (.seq .plain (.block (.loop hC))) .plain))))))
def SB22 (s : ByteArray) (x : Int) : SL := [(0, .one (.str s)), (6, .one (.ptr 0 0)), (8, .one (.int .i64 (.sym x)))]
def BB22 : List (Nat × BI) := [(0, ⟨85, setL, true⟩)]
def SC22 (s : ByteArray) (x : Int) : SL := [(0, .one (.str s)), (1, .one (.str sep)), (13, .one (.int .i64 (.sym x)))]
noncomputable def rB (W : World) (s : ByteArray) (x : Int) : RG := (runG Tryd.prog W G22 100000 96 .plain bodyB (SB22 s x) ⟨[], BB22, 1⟩ []).slim 1 [(0, false), (6, false), (8, true)] [(0, false)] [(4, false)] []
noncomputable def rC (W : World) (s : ByteArray) (x : Int) : RG := (runG Tryd.prog W G22 100000 96 .plain bodyC (SC22 s x) ⟨[], [], 0⟩ []).slim 0 [(0, false), (1, false), (13, true)] [] [(4, false)] []
end Go.Proofs.YtdglgiaegjkinaaDoor
