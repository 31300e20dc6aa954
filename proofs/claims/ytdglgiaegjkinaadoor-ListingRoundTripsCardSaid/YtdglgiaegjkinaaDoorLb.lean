/- strings.LastIndexAny of " ,": its loops, the whole. -/
import Derived.Test.YtdglgiaegjkinaaDoorLa
namespace Go.Proofs.YtdglgiaegjkinaaDoor
open Go Go.Sx Go.RowKit
set_option maxRecDepth 100000
def ex (s : ByteArray) (x : Int) : ByteArray := s.extract 0 x.toNat
def vB (s : ByteArray) (x : Int) : Bool := inStr s x && (decide (0 ≤ byteAt s x) && decide (byteAt s x ≤ 255))
def vC (s : ByteArray) (x : Int) : Bool := decide (0 ≤ x) && decide (x ≤ (s.size : Int))
def vD (t : ByteArray) : Bool := decide (0 < t.size) && (decide (t.size ≤ 1000000) && decide (lastB t < 128))
def vE (t : ByteArray) : Bool := decide (0 ≤ lastB t) && decide (lastB t < 128)
theorem rB_eq (W : World) (s : ByteArray) (x : Int) : rB W s x = .br (decide (0 ≤ x)) (.br (isSep (byteAt s x)) (.leaf .ret (.sym (vB s x)) [(4, .one (.int .i64 (.sym x)))] ⟨[], [], 1⟩ []) (.leaf .nrm (.sym (vB s x)) (SB22 s (gsub .i64 x 1)) ⟨[], BB22, 1⟩ [])) (.leaf (.exit 0) (.lit true) [] ⟨[], [], 1⟩ []) := by kernel_rfl
theorem rC_eq (W : World) (s : ByteArray) (x : Int) : rC W s x = .br (decide (0 < x)) (.br (decide (0 ≤ ixB sep (lastB (ex s x)))) (.leaf .ret (.sym ((vC s x && vD (ex s x)) && vE (ex s x))) [(4, .one (.int .i64 (.sym (gsub .i64 x 1))))] ⟨[], [], 0⟩ []) (.leaf .nrm (.sym ((vC s x && vD (ex s x)) && vE (ex s x))) (SC22 s (gsub .i64 x 1)) ⟨[], [], 0⟩ [])) (.leaf (.exit 4) (.lit true) [] ⟨[], [], 0⟩ []) := by kernel_rfl
def EndB (s : ByteArray) : RG := .br (decide (0 ≤ LA s)) (.leaf .ret (.lit true) [(4, .one (.int .i64 (.sym (LA s))))] ⟨[], [], 1⟩ []) (.leaf (.exit 0) (.lit true) [] ⟨[], [], 1⟩ [])
def EndC (s : ByteArray) : RG := .br (decide (0 ≤ LA s)) (.leaf .ret (.lit true) [(4, .one (.int .i64 (.sym (LA s))))] ⟨[], [], 0⟩ []) (.leaf (.exit 4) (.lit true) [] ⟨[], [], 0⟩ [])
noncomputable def hB22 (s : ByteArray) : LG := .at_ (decide (8 < s.size) && decide (s.size ≤ 1000000)) [(0, false), (6, false), (8, true)] [(0, false)] 1 (SB22 s (gsub .i64 (s.size : Int) 1)) BB22 [] (EndB s)
noncomputable def hC22 (c : Bool) (s : ByteArray) : LG := .at_ c [(0, false), (1, false), (13, true)] [] 0 (SC22 s (s.size : Int)) [] [] (EndC s)
noncomputable def failG : HG := .cust fun _ _ _ => .fail
noncomputable def t22x (hB hC : LG) : HG := (.seq .plain (.seq .plain (.seq (.seq .plain (.cond failG .plain)) (.seq (.seq .plain (.cond (.seq .plain (.seq .plain (.cond (.seq (.seq .plain (.block (.loop hB))) .plain) .plain))) .plain)) (.seq (.seq .plain (.cond failG .plain)) (.seq (.seq .plain (.block (.loop hC))) .plain))))))
noncomputable def x22 (W : World) (c : Bool) (s : ByteArray) : RG := (runG Tryd.prog W G22 100000 96 (t22x (hB22 s) (hC22 c s)) body22 (argSlots 0 [.one (.str s), .one (.str sep)]) noMem []).slim 0 [] [] [(4, false)] []
noncomputable def okB22 (s : ByteArray) : Bool := decide (sep = sep) && ((decide (8 < s.size) && decide (s.size ≤ 1000000)) && (sameS (SB22 s (gsub .i64 (s.size : Int) 1)) (SB22 s (gsub .i64 (s.size : Int) 1)) && (sameB BB22 BB22 && @decide (([] : Gh) = []) (Classical.propDecidable _))))
noncomputable def okC22 (c : Bool) (s : ByteArray) : Bool := c && (sameS (SC22 s (s.size : Int)) (SC22 s (s.size : Int)) && (sameB [] [] && @decide (([] : Gh) = []) (Classical.propDecidable _)))
theorem x22_eq (W : World) (c : Bool) (s : ByteArray) : x22 W c s = .br (decide (sep = ({ data := #[] } : ByteArray))) (.leaf .ret (.lit true) [(4, .one (.int .i64 (.lit (-1))))] ⟨[], [], 0⟩ []) (.br (decide ((s.size : Int) = 1)) .fail
   (.br (decide (8 < (s.size : Int))) (.br (decide (0 ≤ LA s)) (.leaf .ret (.sym (okB22 s)) [(4, .one (.int .i64 (.sym (LA s))))] ⟨[], [], 0⟩ []) (.leaf .ret (.sym (okB22 s)) [(4, .one (.int .i64 (.lit (-1))))] ⟨[], [], 0⟩ []))
     (.br (decide ((sep.size : Int) = 1)) .fail (.br (decide (0 ≤ LA s)) (.leaf .ret (.sym (okC22 c s)) [(4, .one (.int .i64 (.sym (LA s))))] ⟨[], [], 0⟩ []) (.leaf .ret (.sym (okC22 c s)) [(4, .one (.int .i64 (.lit (-1))))] ⟨[], [], 0⟩ []))))) := by kernel_rfl
theorem byteAt_rng {s : ByteArray} (x : Int) : 0 ≤ byteAt s x ∧ byteAt s x ≤ 255 := by
  unfold byteAt
  split
  · rename_i b _
    have := UInt8.toNat_lt b
    omega
  · omega
theorem la_succ (s : ByteArray) (n : Nat) : la s (n + 1) = bif isSep (byteAt s (n : Int)) then (n : Int) else la s n := rfl
theorem la_rng (s : ByteArray) : ∀ n, -1 ≤ la s n ∧ la s n < n
  | 0 => ⟨by simp [la], by simp [la]⟩
  | n + 1 => by
    have := la_rng s n
    rw [la_succ]
    cases isSep (byteAt s (n : Int)) <;> simp only [cond_true, cond_false] <;> omega
theorem gsub_one {x : Int} (h : -1000001 ≤ x) (h' : x ≤ 1000001) : gsub .i64 x 1 = x - 1 := by
  unfold gsub
  rw [IntKind.wrap_i64]
  omega
structure Inv22 (s : ByteArray) (x y : Int) : Prop where
  lo : -1 ≤ x
  hi : x < s.size
  big : s.size ≤ 1000000
  la : la s y.toNat = LA s
  y : y = x + 1
theorem end_ret {W : World} {s : ByteArray} {m : Mem} {i N : Nat} {x : Int} (hx : x = LA s) (h0 : 0 ≤ x) {f : Nat → Nat} {a : Act} {w : World} (hst : GSt (W : Bs) 96 [(4, .one (.int .i64 (.sym x)))] m [] f a w) (e : Exit) (he : exOf .ret = some e) :
    GPost (W : Bs) 96 (.br (decide (0 ≤ LA s)) (.leaf .ret (.lit true) [(4, .one (.int .i64 (.sym (LA s))))] m []) (.leaf (.exit i) (.lit true) [] ⟨[], [], N⟩ [])) e a w := by
  subst hx
  refine ⟨fun _ => ⟨he, f, hst⟩, fun h => ?_⟩
  exact absurd h0 (of_decide_eq_false h)
theorem end_exit {W : World} {s : ByteArray} {i N : Nat} (hx : LA s = -1) {f : Nat → Nat} {a : Act} {w : World} (hst : GSt (W : Bs) 96 [] ⟨[], [], N⟩ [] f a w) (e : Exit) (he : exOf (.exit i) = some e) {m : Mem} :
    GPost (W : Bs) 96 (.br (decide (0 ≤ LA s)) (.leaf .ret (.lit true) [(4, .one (.int .i64 (.sym (LA s))))] m []) (.leaf (.exit i) (.lit true) [] ⟨[], [], N⟩ [])) e a w := by
  refine ⟨fun h => ?_, fun _ => ⟨he, f, hst⟩⟩
  have := of_decide_eq_true h
  omega
theorem stepB {W : World} (s : ByteArray) : StepOk (W : Bs) Tryd.prog G22 100000 96 .plain bodyB 1 [(0, false), (6, false), (8, true)] [(0, false)] [(4, false)] [] (fun x : Int => Inv22 s x (x + 1)) (fun x => (x + 1).toNat) (SB22 s) (fun _ => BB22) (fun _ => []) (EndB s) := by
  constructor
  intro x h
  have hr := rB_eq W s x
  unfold rB at hr
  rw [show (Bs.of W).W = W from rfl, hr]
  obtain ⟨h1, h2, h3, h4, -⟩ := h
  have hb := byteAt_rng (s := s) x
  constructor
  · intro hx
    have hx := of_decide_eq_true hx
    have e1 : (x + 1).toNat = x.toNat + 1 := by omega
    have e2 : ((x.toNat : Nat) : Int) = x := by omega
    rw [e1, la_succ, e2] at h4
    have hv : (SB.sym (vB s x)).val = true := by
      rw [SB.val_sym]
      unfold vB inStr
      rw [decide_eq_true hx, decide_eq_true h2, decide_eq_true hb.1, decide_eq_true hb.2]
      rfl
    constructor
    · intro hs
      rw [hs, cond_true] at h4
      exact ⟨hv, .inr ⟨by simp, fun f a w hst e' he' => end_ret h4 hx hst e' he'⟩⟩
    · intro hs
      rw [hs, cond_false] at h4
      refine ⟨hv, .inl ⟨rfl, gsub .i64 x 1, ?_, ?_, rfl, rfl, rfl⟩⟩
      · rw [gsub_one (by omega) (by omega)]
        exact ⟨by omega, by omega, h3, by rw [← h4]; congr 1; omega, rfl⟩
      · rw [gsub_one (by omega) (by omega)]
        omega
  · intro hx
    have hx := of_decide_eq_false hx
    refine ⟨rfl, .inr ⟨by simp, fun f a w hst e' he' => ?_⟩⟩
    refine end_exit ?_ hst e' he'
    rw [← h4, show (x + 1).toNat = 0 by omega]
    rfl
theorem ixSep {x : Int} : decide (0 ≤ ixB sep x) = isSep x := rfl
theorem ex_size {s : ByteArray} {x : Int} (h : x ≤ s.size) : (ex s x).size = x.toNat := by
  unfold ex
  rw [ByteArray.size_extract]
  omega
theorem lastB_ex {s : ByteArray} {x : Int} (h0 : 0 < x) (h : x ≤ s.size) : lastB (ex s x) = byteAt s (x - 1) := by
  unfold lastB
  rw [ex_size h]
  unfold byteAt
  rw [show ((x.toNat : Nat) : Int) - 1 = x - 1 by omega]
  have e : (ex s x).data.toList[(x - 1).toNat]? = s.data.toList[(x - 1).toNat]? := by
    unfold ex
    rw [ByteArray.data_extract, Array.toList_extract, List.extract_eq_take_drop, List.drop_zero, List.getElem?_take_of_lt (by omega)]
  rw [e]
theorem stepC {W : World} {s : ByteArray} (ha : asc s) : StepOk (W : Bs) Tryd.prog G22 100000 96 .plain bodyC 0 [(0, false), (1, false), (13, true)] [] [(4, false)] [] (fun x : Int => Inv22 s (x - 1) x) (fun x => x.toNat) (SC22 s) (fun _ => []) (fun _ => []) (EndC s) := by
  constructor
  intro x h
  have hr := rC_eq W s x
  unfold rC at hr
  rw [show (Bs.of W).W = W from rfl, hr]
  obtain ⟨h1, h2, h3, h4, -⟩ := h
  constructor
  · intro hx
    have hx := of_decide_eq_true hx
    have hl := lastB_ex hx (s := s) (by omega)
    have hb := byteAt_rng (s := s) (x - 1)
    have ha' := ha (x - 1).toNat (by omega)
    rw [show (((x - 1).toNat : Nat) : Int) = x - 1 by omega] at ha'
    have e1 : x.toNat = (x - 1).toNat + 1 := by omega
    have e2 : (((x - 1).toNat : Nat) : Int) = x - 1 := by omega
    rw [e1, la_succ, e2] at h4
    have hv : (SB.sym ((vC s x && vD (ex s x)) && vE (ex s x))).val = true := by
      rw [SB.val_sym]
      unfold vC vD vE
      rw [hl, ex_size (by omega), decide_eq_true (show 0 ≤ x by omega), decide_eq_true (show x ≤ (s.size : Int) by omega), decide_eq_true (show 0 < x.toNat by omega), decide_eq_true (show x.toNat ≤ 1000000 by omega), decide_eq_true ha', decide_eq_true hb.1]
      rfl
    rw [hl, ixSep, gsub_one (by omega) (by omega)]
    constructor
    · intro hs
      rw [hs, cond_true] at h4
      exact ⟨hv, .inr ⟨by simp, fun f a w hst e' he' => end_ret h4 (by omega) hst e' he'⟩⟩
    · intro hs
      rw [hs, cond_false] at h4
      refine ⟨hv, .inl ⟨rfl, x - 1, ?_, ?_, rfl, rfl, rfl⟩⟩
      · exact ⟨by omega, by omega, h3, h4, by omega⟩
      · omega
  · intro hx
    have hx := of_decide_eq_false hx
    refine ⟨rfl, .inr ⟨by simp, fun f a w hst e' he' => ?_⟩⟩
    refine end_exit ?_ hst e' he'
    rw [← h4, show x.toNat = 0 by omega]
    rfl
theorem loopB22 {W : World} (hT : Tabs W) (s : ByteArray) : LoopGOk (W : Bs) Tryd.prog 96 bodyB (hB22 s) := by
  refine loopG_step (t := .plain) (g22_ok hT) (hgB_ok (W := (W : Bs)) (P := Tryd.prog) (nt := 96) .plain bodyB rfl) rfl rfl (stepB s) ?_
  intro hc
  rw [Bool.and_eq_true, decide_eq_true_eq, decide_eq_true_eq] at hc
  refine ⟨gsub .i64 (s.size : Int) 1, ?_, rfl, rfl, .inl rfl⟩
  rw [gsub_one (by omega) (by omega)]
  exact ⟨by omega, by omega, hc.2, by rw [show ((s.size : Int) - 1 + 1).toNat = s.size by omega]; rfl, rfl⟩
theorem loopC22 {W : World} (hT : Tabs W) {c : Bool} {s : ByteArray} (hc : c = true → asc s ∧ s.size ≤ 1000000) : LoopGOk (W : Bs) Tryd.prog 96 bodyC (hC22 c s) := by
  cases c with
  | false =>
    intro S Bl g f a w hgood _
    obtain ⟨h1, h2⟩ := RG.good_addVc hgood
    have h3 := h2 (RG.good_is h1)
    rw [SB.val_sym, Bool.false_and] at h3
    cases h3
  | true =>
    obtain ⟨ha, hs⟩ := hc rfl
    refine loopG_step (t := .plain) (g22_ok hT) (hgB_ok (W := (W : Bs)) (P := Tryd.prog) (nt := 96) .plain bodyC rfl) rfl rfl (stepC ha) ?_
    intro _
    exact ⟨(s.size : Int), ⟨by omega, by omega, hs, rfl, by omega⟩, rfl, rfl, .inl rfl⟩
theorem failOk {W : Bs} {P : Program} {nt : Nat} {c : Code} : CustOk W P nt c fun _ _ _ => .fail := fun _ _ _ _ _ _ h _ => h.elim
noncomputable def fc1 : Code := match body22 with
  | .seq _ (.seq _ (.seq (.seq _ (.cond _ c _)) _)) => c
  | _ => .skip
noncomputable def fc2 : Code := match body22 with
  | .seq _ (.seq _ (.seq _ (.seq _ (.seq (.seq _ (.cond _ c _)) _)))) => c
  | _ => .skip
theorem la_big {W : World} (hT : Tabs W) {s : ByteArray} (h1 : s.size ≠ 1) (hs : s.size ≤ 1000000) (hc : 8 < s.size ∨ asc s) : Calls Tryd.prog 22 #[.string s, .string sep] W fun en w' => en = .returned (.int .i64 (LA s)) ∧ Below W.heap.size W w' := by
  have hcalls := calls_of_runG (g22_ok hT) (n := 100000) (g := 22) Tryd.func22 (show Tryd.f22.body = some body22 by kernel_rfl) (t := t22x (hB22 s) (hC22 (decide (s.size ≤ 8)) s)) (args := [.one (.str s), .one (.str sep)]) ?_ (by rw [show Tryd.f22.ntmps = 96 by kernel_rfl]; simp)
    (R := fun v g => v.den (fun _ => 0) = .int .i64 (LA s) ∧ ∀ f, v.den f = v.den (fun _ => 0)) (N := 0) (ks := []) (bs := []) (ke := [(4, false)]) (be := []) rfl rfl ?_
  · refine hcalls.mono ?_
    rintro en w' ⟨v, g, f, ⟨h1, h2⟩, rfl, _, hb⟩
    exact ⟨by rw [h2 f, h1], hb⟩
  · have e : HGOk (W : Bs) Tryd.prog Tryd.f22.ntmps (t22x (hB22 s) (hC22 (decide (s.size ≤ 8)) s)) body22 = (True ∧ True ∧ (True ∧ CustOk (W : Bs) Tryd.prog 96 fc1 (fun _ _ _ => .fail) ∧ True) ∧ (True ∧ (True ∧ True ∧ ((True ∧ LoopGOk (W : Bs) Tryd.prog 96 bodyB (hB22 s)) ∧ True) ∧ True) ∧ True) ∧ (True ∧ CustOk (W : Bs) Tryd.prog 96 fc2 (fun _ _ _ => .fail) ∧ True) ∧ (True ∧ LoopGOk (W : Bs) Tryd.prog 96 bodyC (hC22 (decide (s.size ≤ 8)) s)) ∧ True) := by kernel_rfl
    rw [e]
    refine ⟨trivial, trivial, ⟨trivial, failOk, trivial⟩, ⟨trivial, ⟨trivial, trivial, ⟨⟨trivial, loopB22 hT s⟩, trivial⟩, trivial⟩, trivial⟩, ⟨trivial, failOk, trivial⟩, ⟨trivial, loopC22 hT fun h => ⟨?_, hs⟩⟩, trivial⟩
    have := of_decide_eq_true h
    rcases hc with hc | hc
    · omega
    · exact hc
  · have hx := x22_eq W (decide (s.size ≤ 8)) s
    unfold x22 at hx
    rw [show Tryd.f22.ntmps = 96 by kernel_rfl, hx]
    have hsep : ¬ (sep = ({ data := #[] } : ByteArray)) := by decide
    have hlo := (la_rng s s.size).1
    refine ⟨fun h => absurd (of_decide_eq_true h) hsep, fun _ => ⟨fun h => absurd (of_decide_eq_true h) (by omega), fun _ => ⟨fun h8 => ?_, fun h8 => ⟨fun h => absurd (of_decide_eq_true h) (by decide), fun _ => ?_⟩⟩⟩⟩
    · have hv : (SB.sym (okB22 s)).val = true := by
        have := of_decide_eq_true h8
        rw [SB.val_sym]
        unfold okB22
        rw [sameS_refl (by rfl), sameB_refl (by rfl), @decide_eq_true _ (Classical.propDecidable _) rfl, decide_eq_true (rfl : sep = sep), decide_eq_true (show 8 < s.size by omega), decide_eq_true hs]
        rfl
      refine ⟨fun _ => ⟨hv, .inr rfl, [(false, [.int .i64 (.sym (LA s))])], .one (.int .i64 (.sym (LA s))), by kernel_rfl, rfl, rfl, fun _ => rfl⟩, fun h => ⟨hv, .inr rfl, [(false, [.int .i64 (.lit (-1))])], .one (.int .i64 (.lit (-1))), by kernel_rfl, rfl, ?_, fun _ => rfl⟩⟩
      have := of_decide_eq_false h
      rw [show LA s = -1 by unfold LA at this ⊢; omega]
      rfl
    · have hv : (SB.sym (okC22 (decide (s.size ≤ 8)) s)).val = true := by
        have := of_decide_eq_false h8
        rw [SB.val_sym]
        unfold okC22
        rw [sameS_refl (by rfl), sameB_refl (by rfl), @decide_eq_true _ (Classical.propDecidable _) rfl, decide_eq_true (show s.size ≤ 8 by omega)]
        rfl
      refine ⟨fun _ => ⟨hv, .inr rfl, [(false, [.int .i64 (.sym (LA s))])], .one (.int .i64 (.sym (LA s))), by kernel_rfl, rfl, rfl, fun _ => rfl⟩, fun h => ⟨hv, .inr rfl, [(false, [.int .i64 (.lit (-1))])], .one (.int .i64 (.lit (-1))), by kernel_rfl, rfl, ?_, fun _ => rfl⟩⟩
      have := of_decide_eq_false h
      rw [show LA s = -1 by unfold LA at this ⊢; omega]
      rfl
end Go.Proofs.YtdglgiaegjkinaaDoor
