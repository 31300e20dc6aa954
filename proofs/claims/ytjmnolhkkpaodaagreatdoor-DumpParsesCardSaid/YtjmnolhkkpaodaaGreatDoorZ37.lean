/- A part of the proof: the reference is safe, both packages write and read alike. Several texts in one; printed by slim28.py out of the texts of wip. -/
import Derived.Test.YtjmnolhkkpaodaaGreatDoorZ36
import Derived.Laws.AppendOwn
set_option linter.all false
namespace Go.Proofs.YtjmnolhkkpaodaaGreatDoor
open Go Go.Sx Go.RowKit
set_option maxRecDepth 100000
theorem below_refl (w : World) : Below w.heap.size w w := ⟨rfl, rfl, rfl, Nat.le_refl _, fun _ _ => rfl⟩
def ixB (c : Int) : Int := Lib.indexByte digs.data.toList c.toNat.toUInt8
def FIb : List TV → Option (SB × TV)
 | [.one (.str s), .one (.int .u8 c)] => some (.lit true, .one (.int .i64 (.sym (Lib.indexByte s.data.toList c.val.toNat.toUInt8))))
 | _ => none
theorem ib_ok (W : World) : SpecOk W Tryz.prog 86 (specV FIb) := by
 refine specV_calls ⟨Tryz.f86, Tryz.func86, by kernel_rfl, by kernel_rfl⟩ fun args c v hv hc => ?_
 unfold FIb at hv
 split at hv <;> try contradiction
 rename_i s n
 simp only [Option.some.injEq, Prod.mk.injEq] at hv
 obtain ⟨rfl, rfl⟩ := hv
 refine ⟨by simp, fun w _ f => ?_⟩
 refine (Tryz.strings_IndexByte s n.val w).mono ?_
 rintro en w' ⟨rfl, rfl⟩
 exact ⟨rfl, below_refl _⟩
def gMax (W : World) : Bool := isInt W .i64 ⟨0, 0, none⟩
theorem gMax_cell {W w : World} (h : gMax W = true) (ho : Old W w) : w.cell? ⟨0, 0, none⟩ = some (.int .i64 (rdInt W ⟨0, 0, none⟩)) := ho.cell (isInt_cell h)
def cutL (s sep : ByteArray) : ByteArray := ⟨(Lib.cut s.data.toList sep.data.toList).1.toArray⟩
def cutR (s sep : ByteArray) : ByteArray := ⟨(Lib.cut s.data.toList sep.data.toList).2.1.toArray⟩
def cutF (s sep : ByteArray) : Bool := (Lib.cut s.data.toList sep.data.toList).2.2
def FCut (W : World) : List TV → Option (SB × TV)
 | [.one (.str s), .one (.str sep)] => some (.sym (decide (s.size ≤ 4000000000) && gMax W), .tup [(false, [.str (cutL s sep)]), (false, [.str (cutR s sep)]), (false, [.bool (.sym (cutF s sep))])])
 | _ => none
theorem cut_ok (W : World) : SpecOk W Tryz.prog 22 (specV (FCut W)) := by
 refine specV_calls ⟨Tryz.f22, Tryz.func22, by kernel_rfl, by kernel_rfl⟩ fun args c v hv hc => ?_
 unfold FCut at hv
 split at hv <;> try contradiction
 rename_i s sep
 simp only [Option.some.injEq, Prod.mk.injEq] at hv
 obtain ⟨rfl, rfl⟩ := hv
 rw [SB.val_sym, Bool.and_eq_true, decide_eq_true_eq] at hc
 refine ⟨by simp, fun w ho f => ?_⟩
 refine (Tryz.strings_Cut s sep _ w (by omega) (gMax_cell hc.2 ho)).mono ?_
 rintro en w' ⟨rfl, n, rfl⟩
 exact ⟨rfl, rfl, rfl, rfl, Nat.le_refl _, fun _ _ => rfl⟩
noncomputable def lb52 : Code := match bodyOf Tryz.f52 with
 | .seq _ (.seq _ (.seq (.seq _ (.block _ (.loop b))) _)) => b
 | _ => .skip
def G52 : List (Nat × Sx.Spec) := [(86, specV FIb)]
theorem gok52 (W : World) : GOk W Tryz.prog G52 := gok_cons (ib_ok W) (gok_nil W)
def SP52 (s : ByteArray) (v n : Int) : SL := [(0, .one (.str s)), (6, .one (.int .i64 (.sym (s.size : Int)))), (7, .one (.int .i64 (.sym v))), (3, .one (.int .i64 (.sym n)))]
def ks52 : List (Nat × Bool) := [(0, false), (6, false), (7, true), (3, true)]
noncomputable def r52 (W : World) (s : ByteArray) (v n : Int) : RG := (runG Tryz.prog W G52 100000 20 .plain lb52 (SP52 s v n) ⟨[], [], 0⟩ []).slim 0 ks52 [] [(3, true)] []
def stD (c n : Int) : Int := bits .or .i64 (gshl .i64 n 4) (bits .and .i64 (ixB c) 15)
theorem r52_eq (W : World) (s : ByteArray) (v n : Int) : r52 W s v n = .br (decide (v < (s.size : Int))) (.leaf .nrm (.sym (inStr s v)) (SP52 s (gadd .i64 v 1) (stD (byteAt s v) n)) ⟨[], [], 0⟩ []) (.leaf (.exit 0) (.lit true) [(3, .one (.int .i64 (.sym n)))] ⟨[], [], 0⟩ []) := by kernel_rfl
def ndD (s : ByteArray) : Nat → Int
 | 0 => 0
 | j + 1 => stD (byteAt s (j : Int)) (ndD s j)
theorem inStr_ok {s : ByteArray} {v : Nat} (h : v < s.size) : inStr s (v : Int) = true := by
 unfold inStr
 rw [Bool.and_eq_true, decide_eq_true_eq, decide_eq_true_eq]
 omega
def EndN (q : Int) : RG := .leaf (.exit 0) (.lit true) [(3, .one (.int .i64 (.sym q)))] ⟨[], [], 0⟩ []
theorem step52 {W : World} {s : ByteArray} (hs : s.size ≤ 4000000000) : StepOk (W : Bs) Tryz.prog G52 100000 20 .plain lb52 0 ks52 [] [(3, true)] [] (fun v : Nat => v ≤ s.size) (fun v => s.size - v) (fun v => SP52 s (v : Int) (ndD s v)) (fun _ => []) (fun _ => []) (EndN (ndD s s.size)) := by
 constructor
 intro v hv
 have hr := r52_eq W s (v : Int) (ndD s v)
 unfold r52 at hr
 rw [show (Bs.of W).W = W from rfl, hr]
 constructor
 · intro h0
   have h0 : v < s.size := by have := of_decide_eq_true h0; omega
   refine ⟨inStr_ok h0, .inl ⟨rfl, v + 1, by show v + 1 ≤ s.size; omega, by show s.size - (v + 1) < s.size - v; omega, ?_, rfl, rfl⟩⟩
   rw [gadd_nat (by omega)]
   rfl
 · intro h0
   have h0 : ¬ v < s.size := by have := of_decide_eq_false h0; omega
   have h0 : v = s.size := by omega
   subst h0
   exact ⟨rfl, .inr ⟨by simp, fun f a w hst e' he' => ⟨he', f, hst⟩⟩⟩
noncomputable def hN (ks : List (Nat × Bool)) (S0 : SL) (q : Int) : LG := ⟨ks, [], 0, fun S B g => (EndN q).addVc (.sym (@decide (S = S0 ∧ B = [] ∧ g = []) (Classical.propDecidable _)))⟩
theorem loop52 {W : World} {s : ByteArray} (hs : s.size ≤ 4000000000) : LoopGOk (W : Bs) Tryz.prog 20 lb52 (hN ks52 (SP52 s 0 0) (ndD s s.size)) := by
 intro S Bl g f ac w hgood hst
 obtain ⟨h1, h2⟩ := RG.good_addVc hgood
 have h3 := h2 (RG.good_is h1)
 rw [SB.val_sym] at h3
 obtain ⟨rfl, rfl, rfl⟩ := @of_decide_eq_true _ (Classical.propDecidable _) h3
 refine wp_mono (loopG_core (gok52 W) (fun v : Nat => v ≤ s.size) (fun _ => .plain) (fun _ _ => trivial) (fun v => s.size - v) (fun v => SP52 s (v : Int) (ndD s v)) (fun _ => []) (fun _ => []) (EndN (ndD s s.size)) [(3, true)] [] rfl rfl (step52 hs).step 0 f ac w (Nat.zero_le _) hst (fun i hi => by cases hi)) (fun e a w hp => RG.is_addVc hp)
noncomputable def t52 (s : ByteArray) (q : Int) : HG := .seq .plain (.seq .plain (.seq (.seq .plain (.block (.loop (hN ks52 (SP52 s 0 0) q)))) .plain))
noncomputable def x52 (W : World) (s : ByteArray) (q : Int) : RG := runG Tryz.prog W G52 100000 20 (t52 s q) (bodyOf Tryz.f52) (argSlots 0 [.one (.str s)]) noMem []
noncomputable def qN (S : SL) : Bool := @decide (S = S ∧ ([] : List (Nat × BI)) = [] ∧ ([] : Gh) = []) (Classical.propDecidable _)
theorem qN_true (S : SL) : qN S = true := @decide_eq_true _ (Classical.propDecidable _) ⟨rfl, rfl, rfl⟩
theorem x52_b (W : World) (s : ByteArray) (q : Int) : retOf Tryz.prog Tryz.f52.results.toList (x52 W s q) = some (.sym (qN (SP52 s 0 0)), .one (.int .i64 (.sym q)), []) := by kernel_rfl
theorem run52 (W : World) (s : ByteArray) (q : Int) : runG Tryz.prog W G52 100000 Tryz.f52.ntmps (t52 s q) (bodyOf Tryz.f52) (argSlots 0 [.one (.str s)]) noMem [] = x52 W s q := by kernel_rfl
theorem hg52 {W : World} {s : ByteArray} (hs : s.size ≤ 4000000000) : HGW (Bs.of W) Tryz.prog 20 (t52 s (ndD s s.size)) (bodyOf Tryz.f52) := by
 obtain ⟨e, he⟩ : ∃ e : Code × Code × Code × Nat × Code, bodyOf Tryz.f52 = .seq e.1 (.seq e.2.1 (.seq (.seq e.2.2.1 (.block e.2.2.2.1 (.loop lb52))) e.2.2.2.2)) :=
  ⟨match bodyOf Tryz.f52 with | .seq x1 (.seq x2 (.seq (.seq x3 (.block i _)) x4w)) => (x1, x2, x3, i, x4w) | _ => (.skip, .skip, .skip, 0, .skip), by kernel_rfl⟩
 constructor
 rw [he]
 exact ⟨trivial, trivial, ⟨trivial, loop52 hs⟩, trivial⟩
def numD (s : ByteArray) : Int := ndD s s.size
theorem num52_calls {W : World} {s : ByteArray} (hs : s.size ≤ 4000000000) : Calls Tryz.prog 52 #[.string s] W fun en w' => en = .returned (.int .i64 (numD s)) ∧ Below W.heap.size W w' := by
 have hn : Tryz.f52.ntmps = 20 := by kernel_rfl
 refine (calls_of_runW (gok52 W) (n := 100000) (g := 52) Tryz.func52 (show Tryz.f52.body = some (bodyOf Tryz.f52) by kernel_rfl) (t := t52 s (ndD s s.size)) (by rw [hn]; exact hg52 hs) (args := [.one (.str s)]) (by rw [hn]; simp) (run52 W s (ndD s s.size)) (R := fun v _ _ => v = .one (.int .i64 (.sym (ndD s s.size))))
  (retOf_all (R := fun v _ _ => v = .one (.int .i64 (.sym (ndD s s.size)))) (x52_b W s (ndD s s.size)) (by rw [SB.val_sym]; exact qN_true _) (fun _ => rfl))).mono ?_
 rintro en w' ⟨v, m, g, f, rfl, rfl, _, hb, _⟩
 exact ⟨rfl, hb⟩
def FNum (num : ByteArray → Int) : List TV → Option (SB × TV)
 | [.one (.str s)] => some (.sym (decide (s.size ≤ 4000000000)), .one (.int .i64 (.sym (num s))))
 | _ => none
theorem num52_ok (W : World) : SpecOk W Tryz.prog 52 (specV (FNum numD)) := by
 refine specV_calls ⟨Tryz.f52, Tryz.func52, by kernel_rfl, by kernel_rfl⟩ fun args c v hv hc => ?_
 unfold FNum at hv
 split at hv <;> try contradiction
 rename_i s
 simp only [Option.some.injEq, Prod.mk.injEq] at hv
 obtain ⟨rfl, rfl⟩ := hv
 rw [SB.val_sym, decide_eq_true_eq] at hc
 exact ⟨by simp, fun w _ f => num52_calls hc⟩
noncomputable def lb82 : Code := match bodyOf Tryz.f82 with
 | .seq _ (.seq _ (.seq (.seq _ (.block _ (.loop b))) _)) => b
 | _ => .skip
def SP82 (s : ByteArray) (v n : Int) : SL := [(0, .one (.str s)), (4, .one (.int .i64 (.sym v))), (3, .one (.int .i64 (.sym n)))]
def ks82 : List (Nat × Bool) := [(0, false), (4, true), (3, true)]
noncomputable def r82 (W : World) (s : ByteArray) (v n : Int) : RG := (runG Tryz.prog W [] 100000 28 .plain lb82 (SP82 s v n) ⟨[], [], 0⟩ []).slim 0 ks82 [] [(3, true)] []
def stR1 (c : Int) (n : Int) (k : Nat) : Int := bif (byteAt digs (k : Int)) == c then bits .or .i64 (gshl .i64 (bits .and .i64 n 4095) 4) (k : Int) else n
def stR (c : Int) : Nat → Int → Int
 | 0, n => n
 | k + 1, n => stR1 c (stR c k n) k
def ands (b : Bool) : Nat → Bool
 | 0 => b
 | n + 1 => b && ands b n
theorem r82_eq (W : World) (s : ByteArray) (v n : Int) : r82 W s v n = .br (decide (v < (s.size : Int))) (.leaf .nrm (.sym (ands (inStr s v) 15)) (SP82 s (gadd .i64 v 1) (stR (byteAt s v) 16 n)) ⟨[], [], 0⟩ []) (.leaf (.exit 0) (.lit true) [(3, .one (.int .i64 (.sym n)))] ⟨[], [], 0⟩ []) := by kernel_rfl
def ndR (s : ByteArray) : Nat → Int
 | 0 => 0
 | j + 1 => stR (byteAt s (j : Int)) 16 (ndR s j)
theorem ands_true : ∀ n, ands true n = true
 | 0 => rfl
 | n + 1 => by unfold ands; rw [ands_true n]; rfl
theorem step82 {W : World} {s : ByteArray} (hs : s.size ≤ 4000000000) : StepOk (W : Bs) Tryz.prog [] 100000 28 .plain lb82 0 ks82 [] [(3, true)] [] (fun v : Nat => v ≤ s.size) (fun v => s.size - v) (fun v => SP82 s (v : Int) (ndR s v)) (fun _ => []) (fun _ => []) (EndN (ndR s s.size)) := by
 constructor
 intro v hv
 have hr := r82_eq W s (v : Int) (ndR s v)
 unfold r82 at hr
 rw [show (Bs.of W).W = W from rfl, hr]
 constructor
 · intro h0
   have h0 : v < s.size := by have := of_decide_eq_true h0; omega
   refine ⟨by rw [SB.val_sym, inStr_ok h0, ands_true], .inl ⟨rfl, v + 1, by show v + 1 ≤ s.size; omega, by show s.size - (v + 1) < s.size - v; omega, ?_, rfl, rfl⟩⟩
   rw [gadd_nat (by omega)]
   rfl
 · intro h0
   have h0 : ¬ v < s.size := by have := of_decide_eq_false h0; omega
   have h0 : v = s.size := by omega
   subst h0
   exact ⟨rfl, .inr ⟨by simp, fun f a w hst e' he' => ⟨he', f, hst⟩⟩⟩
theorem loop82 {W : World} {s : ByteArray} (hs : s.size ≤ 4000000000) : LoopGOk (W : Bs) Tryz.prog 28 lb82 (hN ks82 (SP82 s 0 0) (ndR s s.size)) := by
 intro S Bl g f ac w hgood hst
 obtain ⟨h1, h2⟩ := RG.good_addVc hgood
 have h3 := h2 (RG.good_is h1)
 rw [SB.val_sym] at h3
 obtain ⟨rfl, rfl, rfl⟩ := @of_decide_eq_true _ (Classical.propDecidable _) h3
 refine wp_mono (loopG_core (gok_nil W) (fun v : Nat => v ≤ s.size) (fun _ => .plain) (fun _ _ => trivial) (fun v => s.size - v) (fun v => SP82 s (v : Int) (ndR s v)) (fun _ => []) (fun _ => []) (EndN (ndR s s.size)) [(3, true)] [] rfl rfl (step82 hs).step 0 f ac w (Nat.zero_le _) hst (fun i hi => by cases hi)) (fun e a w hp => RG.is_addVc hp)
noncomputable def t82 (s : ByteArray) (q : Int) : HG := .seq .plain (.seq .plain (.seq (.seq .plain (.block (.loop (hN ks82 (SP82 s 0 0) q)))) .plain))
noncomputable def x82 (W : World) (s : ByteArray) (q : Int) : RG := runG Tryz.prog W [] 100000 28 (t82 s q) (bodyOf Tryz.f82) (argSlots 0 [.one (.str s)]) noMem []
theorem x82_b (W : World) (s : ByteArray) (q : Int) : retOf Tryz.prog Tryz.f82.results.toList (x82 W s q) = some (.sym (qN (SP82 s 0 0)), .one (.int .i64 (.sym q)), []) := by kernel_rfl
theorem run82 (W : World) (s : ByteArray) (q : Int) : runG Tryz.prog W [] 100000 Tryz.f82.ntmps (t82 s q) (bodyOf Tryz.f82) (argSlots 0 [.one (.str s)]) noMem [] = x82 W s q := by kernel_rfl
theorem hg82 {W : World} {s : ByteArray} (hs : s.size ≤ 4000000000) : HGW (Bs.of W) Tryz.prog 28 (t82 s (ndR s s.size)) (bodyOf Tryz.f82) := by
 obtain ⟨e, he⟩ : ∃ e : Code × Code × Code × Nat × Code, bodyOf Tryz.f82 = .seq e.1 (.seq e.2.1 (.seq (.seq e.2.2.1 (.block e.2.2.2.1 (.loop lb82))) e.2.2.2.2)) :=
  ⟨match bodyOf Tryz.f82 with | .seq x1 (.seq x2 (.seq (.seq x3 (.block i _)) x4w)) => (x1, x2, x3, i, x4w) | _ => (.skip, .skip, .skip, 0, .skip), by kernel_rfl⟩
 constructor
 rw [he]
 exact ⟨trivial, trivial, ⟨trivial, loop82 hs⟩, trivial⟩
def numR (s : ByteArray) : Int := ndR s s.size
theorem num82_calls {W : World} {s : ByteArray} (hs : s.size ≤ 4000000000) : Calls Tryz.prog 82 #[.string s] W fun en w' => en = .returned (.int .i64 (numR s)) ∧ Below W.heap.size W w' := by
 have hn : Tryz.f82.ntmps = 28 := by kernel_rfl
 refine (calls_of_runW (gok_nil W) (n := 100000) (g := 82) Tryz.func82 (show Tryz.f82.body = some (bodyOf Tryz.f82) by kernel_rfl) (t := t82 s (ndR s s.size)) (by rw [hn]; exact hg82 hs) (args := [.one (.str s)]) (by rw [hn]; simp) (run82 W s (ndR s s.size)) (R := fun v _ _ => v = .one (.int .i64 (.sym (ndR s s.size))))
  (retOf_all (R := fun v _ _ => v = .one (.int .i64 (.sym (ndR s s.size)))) (x82_b W s (ndR s s.size)) (by rw [SB.val_sym]; exact qN_true _) (fun _ => rfl))).mono ?_
 rintro en w' ⟨v, m, g, f, rfl, rfl, _, hb, _⟩
 exact ⟨rfl, hb⟩
theorem num82_ok (W : World) : SpecOk W Tryz.prog 82 (specV (FNum numR)) := by
 refine specV_calls ⟨Tryz.f82, Tryz.func82, by kernel_rfl, by kernel_rfl⟩ fun args c v hv hc => ?_
 unfold FNum at hv
 split at hv <;> try contradiction
 rename_i s
 simp only [Option.some.injEq, Prod.mk.injEq] at hv
 obtain ⟨rfl, rfl⟩ := hv
 rw [SB.val_sym, decide_eq_true_eq] at hc
 exact ⟨by simp, fun w _ f => num82_calls hc⟩
end Go.Proofs.YtjmnolhkkpaodaaGreatDoor
namespace Go.Proofs.YtjmnolhkkpaodaaGreatDoor
open Go Go.Sx Go.RowKit
set_option maxRecDepth 100000
noncomputable def lb81 : Code := match bodyOf Tryz.f81 with
 | .seq _ (.seq _ (.seq _ (.seq (.seq _ (.block _ (.loop b))) _))) => b
 | _ => .skip
def g81 : GapSp := ⟨6, 22, 27, 28, 123, 9, 1, 16, 0⟩
def hb81 : HG := .seq .plain (.seq (.block (.seq .plain (.cond (.seq (.gap g81) .plain) .plain))) .plain)
def SP81 (s : ByteArray) (oa : Option Addr) (k oc : Nat) (b v : Int) : SL := [(0, .one (.str s)), (3, .one (.sl oa k oc)), (4, .one (.int .i64 (.sym b))), (5, .one (.int .i64 (.sym v)))]
def ks81 : List (Nat × Bool) := [(0, false), (3, true), (4, true), (5, true)]
def GP81 (oa : Option Addr) (k oc : Nat) (xs : List SV) : Gh := [⟨9, 1, oa, k, oc, xs⟩]
noncomputable def r81 (W : World) (s : ByteArray) (oa : Option Addr) (k oc : Nat) (xs : List SV) (b v : Int) : RG := (runG Tryz.prog W [] 100000 32 hb81 lb81 (SP81 s oa k oc b v) ⟨[], [], 0⟩ (GP81 oa k oc xs)).slim 0 ks81 [] [(3, false)] []
def in81 (s : ByteArray) (v : Int) : Bool := bif decide (v = (s.size : Int)) then true else inStr s v
def cd81 (s : ByteArray) (v : Int) : Bool := bif decide (v = (s.size : Int)) then true else decide (byteAt s v = 32)
def sl81 (s : ByteArray) (b v : Int) : Bool := decide (0 ≤ b) && (decide (b ≤ v) && decide (v ≤ (s.size : Int)))
def gv16 (oa : Option Addr) (k oc : Nat) : Bool := (decide (oa = oa) && (decide (k = k) && decide (oc = oc))) && (decide (k + 1 ≤ maxLen) && decide ((k + 1) * 16 ≤ 140737488355328))
def wd (s : ByteArray) (b v : Int) : ByteArray := s.extract b.toNat v.toNat
def E81 (oa : Option Addr) (k oc : Nat) (xs : List SV) : RG := .leaf (.exit 0) (.lit true) [(3, .one (.sl oa k oc))] ⟨[], [], 0⟩ (GP81 oa k oc xs)
theorem r81_eq (W : World) (s : ByteArray) (oa : Option Addr) (k oc : Nat) (xs : List SV) (b v : Int) : r81 W s oa k oc xs b v =
  .br (decide (v ≤ (s.size : Int))) (.br (cd81 s v) (.any fun a' c' => .leaf .nrm (.sym (in81 s v && (sl81 s b v && gv16 oa k oc))) (SP81 s a' (k + 1) c' (gadd .i64 v 1) (gadd .i64 v 1)) ⟨[], [], 0⟩ (GP81 a' (k + 1) c' (xs ++ [.str (wd s b v)])))
   (.leaf .nrm (.sym (in81 s v)) (SP81 s oa k oc b (gadd .i64 v 1)) ⟨[], [], 0⟩ (GP81 oa k oc xs))) (E81 oa k oc xs) := by kernel_rfl
def wsN (s : ByteArray) : Nat → Nat × List ByteArray
 | 0 => (0, [])
 | v + 1 => bif cd81 s (v : Int) then (v + 1, (wsN s v).2 ++ [wd s ((wsN s v).1 : Int) (v : Int)]) else wsN s v
def wdsR (s : ByteArray) : List ByteArray := (wsN s (s.size + 1)).2
theorem wsN_le (s : ByteArray) : ∀ v, (wsN s v).1 ≤ v ∧ (wsN s v).2.length ≤ v
 | 0 => ⟨Nat.le_refl 0, Nat.le_refl 0⟩
 | v + 1 => by
  have h := wsN_le s v
  unfold wsN
  cases cd81 s (v : Int)
  · exact ⟨Nat.le_succ_of_le h.1, Nat.le_succ_of_le h.2⟩
  · refine ⟨Nat.le_refl _, ?_⟩
    rw [cond_true, List.length_append]
    simp only [List.length_cons, List.length_nil]
    omega
structure Q81 where
 v : Nat
 oa : Option Addr
 oc : Nat
def Q81.k (s : ByteArray) (q : Q81) : Nat := (wsN s q.v).2.length
def strs (l : List ByteArray) : List SV := l.map SV.str
theorem strs_snoc (l : List ByteArray) (x : ByteArray) : strs l ++ [.str x] = strs (l ++ [x]) := by unfold strs; rw [List.map_append]; rfl
def End81 (s : ByteArray) : RG := .any fun a c => E81 a (wdsR s).length c (strs (wdsR s))
theorem gv16_ok {oa : Option Addr} {k oc : Nat} (h : (k + 1) * 16 ≤ 140737488355328) : gv16 oa k oc = true := by
 unfold gv16
 have hm : maxLen = 9223372036854775807 := by decide
 simp only [decide_true, Bool.true_and, Bool.and_eq_true, decide_eq_true_eq, Bool.and_self]
 omega
theorem in81_ok {s : ByteArray} {v : Nat} (h : v ≤ s.size) : in81 s (v : Int) = true := by
 unfold in81
 by_cases hv : v = s.size
 · rw [decide_eq_true (by omega)]; rfl
 · rw [decide_eq_false (by omega), cond_false]
   exact inStr_ok (by omega)
theorem step81 {W : World} {s : ByteArray} (hs : s.size ≤ 3000000000) : StepOk (W : Bs) Tryz.prog [] 100000 32 hb81 lb81 0 ks81 [] [(3, false)] [] (fun q : Q81 => q.v ≤ s.size + 1) (fun q => s.size + 1 - q.v) (fun q => SP81 s q.oa (q.k s) q.oc ((wsN s q.v).1 : Int) (q.v : Int)) (fun _ => []) (fun q => GP81 q.oa (q.k s) q.oc (strs (wsN s q.v).2)) (End81 s) := by
 constructor
 rintro ⟨v, oa, oc⟩ hv
 dsimp only at hv ⊢
 have hr := r81_eq W s oa (Q81.k s ⟨v, oa, oc⟩) oc (strs (wsN s v).2) ((wsN s v).1 : Int) (v : Int)
 unfold r81 at hr
 rw [show (Bs.of W).W = W from rfl, hr]
 have hle := wsN_le s v
 have hw : wsN s (v + 1) = bif cd81 s (v : Int) then (v + 1, (wsN s v).2 ++ [wd s ((wsN s v).1 : Int) (v : Int)]) else wsN s v := rfl
 refine ⟨fun h0 => ?_, fun h0 => ?_⟩
 · have h0 : v ≤ s.size := by have := of_decide_eq_true h0; omega
   have hg := gadd_nat (v := v) (by omega)
   refine ⟨fun hc => ?_, fun hc => ?_⟩
   · rw [hc, cond_true] at hw
     intro a' c'
     refine ⟨?_, .inl ⟨rfl, ⟨v + 1, a', c'⟩, by dsimp only; omega, by dsimp only; omega, ?_, rfl, ?_⟩⟩
     · rw [SB.val_sym, in81_ok h0, gv16_ok (by show ((wsN s v).2.length + 1) * 16 ≤ 140737488355328; omega)]
       unfold sl81
       rw [decide_eq_true (by omega), decide_eq_true (by omega), decide_eq_true (by omega)]
       rfl
     · rw [hg]
       unfold Q81.k
       dsimp only
       rw [hw, List.length_append]
       rfl
     · unfold Q81.k
       dsimp only
       rw [hw, List.length_append, strs_snoc]
       rfl
   · rw [hc, cond_false] at hw
     refine ⟨?_, .inl ⟨rfl, ⟨v + 1, oa, oc⟩, by dsimp only; omega, by dsimp only; omega, ?_, rfl, ?_⟩⟩
     · rw [SB.val_sym, in81_ok h0]
     · rw [hg]
       unfold Q81.k
       dsimp only
       rw [hw]
     · unfold Q81.k
       dsimp only
       rw [hw]
 · have h0 : v = s.size + 1 := by have := of_decide_eq_false h0; omega
   subst h0
   exact ⟨rfl, .inr ⟨by simp, fun f a w hst e' he' => ⟨oa, oc, he', f, hst⟩⟩⟩
noncomputable def h81 (s : ByteArray) : LG := .at_ true ks81 [] 0 (SP81 s none 0 0 0 0) [] [] (End81 s)
theorem hgb81 : hgB Tryz.prog 32 hb81 lb81 = true := by kernel_rfl
theorem loop81 {W : World} {s : ByteArray} (hs : s.size ≤ 3000000000) : LoopGOk (W : Bs) Tryz.prog 32 lb81 (h81 s) := by
 refine loopG_step (t := hb81) (gok_nil W) (hgB_ok (W := (W : Bs)) (P := Tryz.prog) (nt := 32) hb81 lb81 hgb81) rfl rfl (step81 (W := W) hs) ?_
 intro _
 exact ⟨⟨0, none, 0⟩, Nat.zero_le _, rfl, rfl, .inr ⟨9, 1, rfl⟩⟩
noncomputable def t81 (s : ByteArray) : HG := .seq .plain (.seq .plain (.seq .plain (.seq (.seq .plain (.block (.loop (h81 s)))) .plain)))
noncomputable def lg81 (E : RG) (s : ByteArray) : LG := .at_ true ks81 [] 0 (SP81 s none 0 0 0 0) [] [] E
noncomputable def x81 (W : World) (s : ByteArray) (E : RG) : RG := (runG Tryz.prog W [] 100000 32 (.seq .plain (.seq .plain (.seq .plain (.seq (.seq .plain (.block (.loop (lg81 E s)))) .plain)))) (bodyOf Tryz.f81) (argSlots 0 [.one (.str s)]) noMem []).slim 0 [] [] [(2, false)] []
noncomputable def v81 (s : ByteArray) : Bool := true && (sameS (SP81 s none 0 0 0 0) (SP81 s none 0 0 0 0) && (sameB [] [] && @decide (([] : Gh) = []) (Classical.propDecidable _)))
theorem x81_eq (W : World) (s : ByteArray) (n : Nat) (xs : List SV) : x81 W s (.any fun a c => E81 a n c xs) = .any fun a' c' => .leaf .ret (.sym (v81 s)) [(2, .one (.sl a' n c'))] ⟨[], [], 0⟩ (GP81 a' n c' xs) := by kernel_rfl
theorem v81_ok (s : ByteArray) : v81 s = true := by
 unfold v81
 rw [sameS_refl (by rfl), sameB_refl (by rfl), @decide_eq_true _ (Classical.propDecidable _) rfl]
 rfl
theorem words_calls {W : World} {s : ByteArray} (hs : s.size ≤ 3000000000) : Calls Tryz.prog 81 #[.string s] W fun en w' =>
  ∃ a' c', en = .returned (.slice a' (wdsR s).length c') ∧ w'.ownsRow W.heap.size 9 1 (.slice a' (wdsR s).length c') (wdsR s).length ((wdsR s).map .string) ∧ Below W.heap.size W w' := by
 have hcalls := calls_of_runG (gok_nil W) (n := 100000) (g := 81) Tryz.func81 (show Tryz.f81.body = some (bodyOf Tryz.f81) by kernel_rfl) (t := t81 s) (args := [.one (.str s)]) ?_ (by rw [show Tryz.f81.ntmps = 32 by kernel_rfl]; simp)
  (R := fun v g => ∃ a' c', v = .one (.sl a' (wdsR s).length c') ∧ g = GP81 a' (wdsR s).length c' (strs (wdsR s))) (N := 0) (ks := []) (bs := []) (ke := [(2, false)]) (be := []) rfl rfl ?_
 · refine hcalls.mono ?_
   rintro en w' ⟨v, g, f, ⟨a', c', rfl, rfl⟩, rfl, hown, hb⟩
   refine ⟨a', c', rfl, ?_, hb⟩
   have hd : (strs (wdsR s)).map (SV.den fun _ => 0) = (wdsR s).map .string := by unfold strs; rw [List.map_map]; rfl
   rw [← hd]
   exact hown 0 _ rfl
 · have e : HGOk (W : Bs) Tryz.prog Tryz.f81.ntmps (t81 s) (bodyOf Tryz.f81) = (True ∧ True ∧ True ∧ (True ∧ LoopGOk (W : Bs) Tryz.prog 32 lb81 (h81 s)) ∧ True) := by kernel_rfl
   rw [e]
   exact ⟨trivial, trivial, trivial, ⟨trivial, loop81 hs⟩, trivial⟩
 · rw [show Tryz.f81.ntmps = 32 by kernel_rfl]
   show (x81 W s (End81 s)).All _
   unfold End81
   rw [x81_eq]
   intro a' c'
   exact ⟨by rw [SB.val_sym, v81_ok], .inr rfl, [(false, [.sl a' (wdsR s).length c'])], .one (.sl a' (wdsR s).length c'), by kernel_rfl, rfl, a', c', rfl, rfl⟩
end Go.Proofs.YtjmnolhkkpaodaaGreatDoor
namespace Go.Proofs.YtjmnolhkkpaodaaGreatDoor
open Go Go.Sx Go.RowKit
set_option maxRecDepth 100000
theorem toL_loop (s : ByteArray) : ∀ (k i : Nat) (r : List UInt8), i + k = s.size → ByteArray.toList.loop s i r = r.reverse ++ s.data.toList.drop i
 | 0, i, r, h => by
  unfold ByteArray.toList.loop
  rw [if_neg (by omega), List.drop_eq_nil_of_le (by rw [Array.length_toList]; show s.size ≤ i; omega), List.append_nil]
 | k + 1, i, r, h => by
  unfold ByteArray.toList.loop
  have hi : i < s.data.toList.length := by rw [Array.length_toList]; show i < s.size; omega
  rw [if_pos (by omega), toL_loop s k (i + 1) _ (by omega), List.drop_eq_getElem_cons hi, List.reverse_cons, List.append_assoc]
  congr 1
  show (s.get! i) :: _ = _
  congr 1
  show s.data[i]! = _
  rw [Array.getElem_toList, getElem!_pos s.data i (by rw [← Array.length_toList]; exact hi)]
theorem toL_eq (s : ByteArray) : s.toList = s.data.toList := by
 unfold ByteArray.toList
 rw [toL_loop s s.size 0 [] (by omega)]
 rfl
def sEq (a b : ByteArray) : Bool := a.toList == b.toList
theorem sEq_eq (a b : ByteArray) : sEq a b = decide (a = b) := by
 unfold sEq
 rw [toL_eq, toL_eq]
 by_cases h : a = b
 · subst h
   simp
 · rw [decide_eq_false h, beq_eq_false_iff_ne]
   intro h2
   exact h (ByteArray.ext (Array.toList_inj.1 h2))
noncomputable def lb83 : Code := match bodyOf Tryz.f83 with
 | .seq _ (.seq (.seq _ (.block _ (.loop b))) _) => b
 | _ => .skip
def SP83 (a : Option Addr) (n c : Nat) (s : ByteArray) (v : Int) : SL := [(1, .one (.str s)), (7, .one (.sl a n c)), (8, .one (.int .i64 (.sym (n : Int)))), (9, .one (.int .i64 (.sym v)))]
def ks83 : List (Nat × Bool) := [(1, false), (7, false), (8, false), (9, true)]
noncomputable def r83 (W : World) (a : Option Addr) (n c : Nat) (s : ByteArray) (v : Int) : RG := (runG Tryz.prog W [] 100000 17 .plain lb83 (SP83 a n c s v) ⟨[], [], 0⟩ []).slim 0 ks83 [] [(4, false)] []
def stA (a : Option Addr) (v : Int) : Addr := (atRow a v 1).add 0
def stW (W : World) (a : Option Addr) (v : Int) : ByteArray := rdStr W (stA a v)
def okS (W : World) (a : Option Addr) (v : Int) : Bool := isStr W (stA a v)
theorem r83_eq (W : World) (a : Option Addr) (n c : Nat) (s : ByteArray) (v : Int) : r83 W a n c s v = .br (decide (v < (n : Int))) (.br (sEq (stW W a v) s) (.leaf .ret (.sym (inRow a n v && okS W a v)) [(4, .one (.bool (.lit true)))] ⟨[], [], 0⟩ []) (.leaf .nrm (.sym (inRow a n v && okS W a v)) (SP83 a n c s (gadd .i64 v 1)) ⟨[], [], 0⟩ []))
 (.leaf (.exit 0) (.lit true) [] ⟨[], [], 0⟩ []) := by kernel_rfl
structure RowS (W : World) (a : Option Addr) (n c : Nat) : Prop where
 lim : n ≤ 4000000000
 nil : a = none → n = 0
 at_ : ∀ j : Nat, j < n → okS W a j = true
def memN (W : World) (a : Option Addr) (s : ByteArray) : Nat → Bool
 | 0 => false
 | v + 1 => memN W a s v || sEq (stW W a (v : Int)) s
theorem memN_mono {W : World} {a : Option Addr} {s : ByteArray} {v : Nat} (h : memN W a s v = true) : ∀ {n : Nat}, v ≤ n → memN W a s n = true
 | 0, hn => by rwa [show v = 0 by omega] at h
 | n + 1, hn => by
  by_cases hv : v = n + 1
  · rwa [hv] at h
  · unfold memN
    rw [memN_mono h (show v ≤ n by omega)]
    rfl
def End83 (z : Bool) : RG := match z with
 | true => .leaf .ret (.lit true) [(4, .one (.bool (.lit true)))] ⟨[], [], 0⟩ []
 | false => .leaf (.exit 0) (.lit true) [] ⟨[], [], 0⟩ []
structure Inv83 (W : World) (a : Option Addr) (n : Nat) (s : ByteArray) (v : Nat) : Prop where
 hi : v ≤ n
 no : memN W a s v = false
theorem step83 {W : World} {a : Option Addr} {n c : Nat} (h : RowS W a n c) (s : ByteArray) : StepOk (W : Bs) Tryz.prog [] 100000 17 .plain lb83 0 ks83 [] [(4, false)] [] (Inv83 W a n s) (fun v => n - v) (fun v => SP83 a n c s (v : Int)) (fun _ => []) (fun _ => []) (End83 (memN W a s n)) := by
 constructor
 intro v hv
 have hr := r83_eq W a n c s (v : Int)
 unfold r83 at hr
 rw [show (Bs.of W).W = W from rfl, hr]
 obtain ⟨hhi, hno⟩ := hv
 have hl := h.lim
 have hs : memN W a s (v + 1) = (memN W a s v || sEq (stW W a (v : Int)) s) := rfl
 constructor
 · intro h0
   have h0 : v < n := by have := of_decide_eq_true h0; omega
   have hvc : (SB.sym (inRow a n (v : Int) && okS W a (v : Int))).val = true := by
    rw [SB.val_sym, inRow_ok h.nil h0, h.at_ v h0]
    rfl
   constructor
   · intro hc
     rw [hc, Bool.or_true] at hs
     refine ⟨hvc, .inr ⟨by simp, fun f a w hst e' he' => ?_⟩⟩
     rw [memN_mono hs (show v + 1 ≤ n by omega)]
     exact ⟨he', f, hst⟩
   · intro hc
     rw [hc, Bool.or_false, hno] at hs
     exact ⟨hvc, .inl ⟨rfl, v + 1, ⟨by omega, hs⟩, by omega, by rw [gadd_nat (by omega)], rfl, rfl⟩⟩
 · intro h0
   have h0 := of_decide_eq_false h0
   refine ⟨rfl, .inr ⟨by simp, fun f a w hst e' he' => ?_⟩⟩
   rw [show n = v by omega, hno]
   exact ⟨he', f, hst⟩
noncomputable def h83 (a : Option Addr) (n c : Nat) (s : ByteArray) (z : Bool) : LG := .at_ true ks83 [] 0 (SP83 a n c s 0) [] [] (End83 z)
theorem loop83 {W : World} {a : Option Addr} {n c : Nat} (h : RowS W a n c) (s : ByteArray) : LoopGOk (W : Bs) Tryz.prog 17 lb83 (h83 a n c s (memN W a s n)) := by
 refine loopG_step (t := .plain) (gok_nil W) (hgB_ok (W := (W : Bs)) (P := Tryz.prog) (nt := 17) .plain lb83 rfl) rfl rfl (step83 h s) ?_
 intro _
 exact ⟨0, ⟨by omega, rfl⟩, rfl, rfl, .inl rfl⟩
noncomputable def t83 (a : Option Addr) (n c : Nat) (s : ByteArray) (z : Bool) : HG := .seq .plain (.seq (.seq .plain (.block (.loop (h83 a n c s z)))) .plain)
noncomputable def x83 (W : World) (a : Option Addr) (n c : Nat) (s : ByteArray) (z : Bool) : RG := (runG Tryz.prog W [] 100000 17 (t83 a n c s z) (bodyOf Tryz.f83) (argSlots 0 [.one (.sl a n c), .one (.str s)]) noMem []).slim 0 [] [] [(4, false)] []
noncomputable def v83 (a : Option Addr) (n c : Nat) (s : ByteArray) : Bool := true && (sameS (SP83 a n c s 0) (SP83 a n c s 0) && (sameB [] [] && @decide (([] : Gh) = []) (Classical.propDecidable _)))
theorem x83_no (W : World) (a : Option Addr) (n c : Nat) (s : ByteArray) : x83 W a n c s false = .leaf .ret (.sym (v83 a n c s)) [(4, .one (.bool (.lit false)))] ⟨[], [], 0⟩ [] := by kernel_rfl
theorem x83_yes (W : World) (a : Option Addr) (n c : Nat) (s : ByteArray) : x83 W a n c s true = .leaf .ret (.sym (v83 a n c s)) [(4, .one (.bool (.lit true)))] ⟨[], [], 0⟩ [] := by kernel_rfl
theorem within_calls {W : World} {a : Option Addr} {n c : Nat} (h : RowS W a n c) (s : ByteArray) : Calls Tryz.prog 83 #[.slice a n c, .string s] W fun en w' => en = .returned (.bool (memN W a s n)) ∧ Below W.heap.size W w' := by
 have hv : (SB.sym (v83 a n c s)).val = true := by
  rw [SB.val_sym]
  unfold v83
  rw [sameS_refl (by rfl), sameB_refl (by rfl), @decide_eq_true _ (Classical.propDecidable _) rfl]
  rfl
 have hcalls := calls_of_runG (gok_nil W) (n := 100000) (g := 83) Tryz.func83 (show Tryz.f83.body = some (bodyOf Tryz.f83) by kernel_rfl) (t := t83 a n c s (memN W a s n)) (args := [.one (.sl a n c), .one (.str s)]) ?_ (by rw [show Tryz.f83.ntmps = 17 by kernel_rfl]; simp)
  (R := fun v _ => ∃ q, v = .one (.bool q) ∧ q.val = memN W a s n) (N := 0) (ks := []) (bs := []) (ke := [(4, false)]) (be := []) rfl rfl ?_
 · refine hcalls.mono ?_
   rintro en w' ⟨v, g, f, ⟨q, rfl, hq⟩, rfl, _, hb⟩
   refine ⟨?_, hb⟩
   rw [← hq]
   rfl
 · have e : HGOk (W : Bs) Tryz.prog Tryz.f83.ntmps (t83 a n c s (memN W a s n)) (bodyOf Tryz.f83) = (True ∧ (True ∧ LoopGOk (W : Bs) Tryz.prog 17 lb83 (h83 a n c s (memN W a s n))) ∧ True) := by kernel_rfl
   rw [e]
   exact ⟨trivial, ⟨trivial, loop83 h s⟩, trivial⟩
 · rw [show Tryz.f83.ntmps = 17 by kernel_rfl]
   show (x83 W a n c s (memN W a s n)).All _
   cases hz : memN W a s n with
   | false =>
    rw [x83_no]
    exact ⟨hv, .inr rfl, [(false, [.bool (.lit false)])], _, by kernel_rfl, rfl, _, rfl, rfl⟩
   | true =>
    rw [x83_yes]
    exact ⟨hv, .inr rfl, [(false, [.bool (.lit true)])], _, by kernel_rfl, rfl, _, rfl, rfl⟩
noncomputable def okRS (W : World) (a : Option Addr) (n c : Nat) : Bool := @decide (RowS W a n c) (Classical.propDecidable _)
noncomputable def F83 (W : World) : List TV → Option (SB × TV)
 | [.one (.sl a n c), .one (.str s)] => some (.sym (okRS W a n c), .one (.bool (.sym (memN W a s n))))
 | _ => none
theorem okS_old {W w : World} {a : Option Addr} {v : Int} (h : okS W a v = true) (ho : Old W w) : okS w a v = true ∧ stW w a v = stW W a v := by
 have h1 := ho.cell (isStr_cell h)
 unfold okS stW isStr rdStr
 rw [h1]
 exact ⟨rfl, (by unfold rdStr; rfl)⟩
theorem RowS.old {W w : World} {a : Option Addr} {n c : Nat} (h : RowS W a n c) (ho : Old W w) : RowS w a n c := ⟨h.lim, h.nil, fun j hj => (okS_old (h.at_ j hj) ho).1⟩
theorem memN_old {W w : World} {a : Option Addr} {n c : Nat} (h : RowS W a n c) (ho : Old W w) (s : ByteArray) : ∀ v, v ≤ n → memN w a s v = memN W a s v
 | 0, _ => rfl
 | v + 1, hv => by
  unfold memN
  rw [memN_old h ho s v (by omega), (okS_old (h.at_ v (by omega)) ho).2]
theorem within_ok (W : World) : SpecOk W Tryz.prog 83 (specV (F83 W)) := by
 refine specV_calls ⟨Tryz.f83, Tryz.func83, by kernel_rfl, by kernel_rfl⟩ fun args c v hv hc => ?_
 unfold F83 at hv
 split at hv <;> try contradiction
 rename_i a n c s
 simp only [Option.some.injEq, Prod.mk.injEq] at hv
 obtain ⟨rfl, rfl⟩ := hv
 have h := @of_decide_eq_true _ (Classical.propDecidable _) hc
 refine ⟨by simp, fun w ho f => ?_⟩
 refine (within_calls (h.old ho) s).mono ?_
 rintro en w' ⟨rfl, hb⟩
 rw [memN_old h ho s n (Nat.le_refl n)]
 exact ⟨rfl, hb⟩
end Go.Proofs.YtjmnolhkkpaodaaGreatDoor
namespace Go.Sx
open Go Go.RowKit
set_option maxRecDepth 100000
def Bs.tail (w : World) (i : Nat) : Bs := ⟨hole w i, w, (· = i), ⟨hole_old w i, fun _ hj => hj ▸ hole_free w i⟩, some i⟩
theorem look_one {bi j : BI} {b : Nat} (h : look [(0, bi)] b = some j) : b = 0 ∧ j = bi := by
 rw [look_cons] at h
 split at h
 · rename_i hb
   simp only [Option.some.injEq] at h
   exact ⟨hb.symm, h.symm⟩
 · simp [look, findC] at h
section
variable {W : Bs} {P : Program} {G : List (Nat × Spec)} {nt : Nat} {f : Nat → Nat} {a : Act} {w : World}
theorem GSt.tail {S : SL} {bi : BI} {g : Gh} (h : GSt W nt S ⟨[], [(0, bi)], 1⟩ g f a w) : GSt (Bs.tail w (f 0)) nt S ⟨[], [(0, bi)], 1⟩ [] f a w := by
 refine ⟨h.size, h.defers, h.slots, h.mem, ?_, ⟨rfl, rfl, rfl, Nat.le_refl _, fun _ _ _ => rfl, (Bs.tail w (f 0)).base⟩, ?_, ?_, ?_, ?_, ?_⟩
 · intro b j hj
   obtain ⟨rfl, _⟩ := look_one hj
   exact .inr rfl
 · intro i hi
   simp only [Bs.tail, Option.some.injEq] at hi
   exact ⟨hi, Nat.zero_lt_one⟩
 · intro q o ho; simp at ho
 · intro q o ho; simp at ho
 · intro q o ho; simp at ho
 · intro q q' o p ho; simp at ho
theorem GSt.untail {S S' : SL} {bi bi' : BI} {g g' : Gh} (h : GSt W nt S ⟨[], [(0, bi)], 1⟩ g f a w) {f2 : Nat → Nat} {a2 : Act} {w2 : World} (h2 : GSt (Bs.tail w (f 0)) nt S' ⟨[], [(0, bi')], 1⟩ g' f2 a2 w2) : GSt W nt S' ⟨[], [(0, bi')], 1⟩ [] f2 a2 w2 := by
 have hp : f2 0 = f 0 := (h2.pin (f 0) rfl).1
 have hb0 : W.w0.heap.size ≤ f 0 ∨ W.X (f 0) := h.base 0 bi (by rw [look_cons, if_pos rfl])
 refine ⟨h2.size, h2.defers, h2.slots, h2.mem, ?_, ?_, ?_, ?_, ?_, ?_, ?_⟩
 · intro b j hj
   obtain ⟨rfl, _⟩ := look_one hj
   rw [hp]
   exact hb0
 · have h1 := h.fr
   have h3 := h2.fr
   refine ⟨h3.os.trans h1.os, h3.tape.trans h1.tape, h3.output.trans h1.output, Nat.le_trans h1.size h3.size, fun i hi hx => ?_, h1.base⟩
   have hne : i ≠ f 0 := by
    rintro rfl
    rcases hb0 with h4 | h4
    · omega
    · exact hx h4
   exact (h3.same i (Nat.lt_of_lt_of_le hi h1.size) hne).trans (h1.same i hi hx)
 · intro i hi
   rw [hp]
   exact ⟨(h.pin i hi).1, Nat.zero_lt_one⟩
 · intro q o ho; simp at ho
 · intro q o ho; simp at ho
 · intro q o ho; simp at ho
 · intro q q' o p ho; simp at ho
theorem tail_wp {n : Nat} {t : HG} {c : Code} {S : SL} {bi : BI} {g : Gh} (hst : GSt W nt S ⟨[], [(0, bi)], 1⟩ g f a w) (hG : GOk (hole w (f 0)) P G) (ht : HGW (Bs.tail w (f 0)) P nt t c) {ks ke : List (Nat × Bool)} {E : RG}
  (hres : AllW ((runG P (hole w (f 0)) G n nt t c S ⟨[], [(0, bi)], 1⟩ []).slim 1 ks [(0, false)] ke [(0, false)]) fun e vc s m _ => vc.val = true ∧ ∃ b', m = ⟨[], [(0, b')], 1⟩ ∧
   ∀ f2 a2 w2 e', exOf e = some e' → GSt W nt s ⟨[], [(0, b')], 1⟩ [] f2 a2 w2 → GPost W nt E e' a2 w2) : c.wp P (GPost W nt E) a w := by
 have hgd := RG.All.good (fun _ _ _ _ _ h => h.1) hres.h
 have hpn : ∀ i, (Bs.tail w (f 0)).pin = some i → 0 < 1 := fun _ _ => Nat.zero_lt_one
 refine wp_mono (runG_sound (W := Bs.tail w (f 0)) hG t c _ _ _ _ _ w ht.h (slim_good hgd) hst.tail) ?_
 intro e a2 w2 hp
 have hp2 := slim_post hpn (by rfl) (by rfl) hgd hp
 obtain ⟨ex, vc, s, m, g2, ⟨_, b', rfl, hk⟩, hex, f2, hst2⟩ := RG.All.meet hres.h hp2
 exact hk f2 a2 w2 e hex (hst.untail hst2)
def mkF (t d : Nat) (l : List SV) (n : Nat) (s : SL) (m : Mem) (g : Gh) : RG := match ltS m.next s && (ltM m.next m && allB (SV.lt m.next) l) with
 | true => .leaf .nrm (.lit true) (putS (some d) (.one (.row m.next 0 n n)) s) ⟨m.cells, (m.next, ⟨t, l, true⟩) :: m.blks, m.next + 1⟩ g
 | false => .fail
theorem mkF_ok {t d n : Nat} {l : List SV} {o : Oper} (hdst : o.dst = some d) (hd : d < nt) (hrun : ∀ (a : Act) (w : World), (execOp a.eval o).run P w = .ok (.value (.slice (some ⟨w.heap.size, 0, none⟩) n n)) (w.alloc (.cells (dens (fun _ => 0) l) t))) (hl : ∀ f : Nat → Nat, dens f l = dens (fun _ => 0) l) :
  CallOk W P nt o (mkF t d l n) := by
 intro s m g f a w Q hgood h
 unfold mkF at hgood ⊢
 split at hgood <;> try exact hgood.elim
 rename_i hc
 simp only [Bool.and_eq_true] at hc
 refine wp_value (v := .slice (some ⟨w.heap.size, 0, none⟩) n n) (hrun a w) ?_
 rw [hdst]
 refine ⟨rfl, _, h.laid (l := l) (j := w.heap.size) (t := t) ?_ hc.1 hc.2.1 hc.2.2 hd ?_⟩
 · rw [hl f]
   exact laid_alloc w _ t
 · simp [TV.den, SV.den]
end
end Go.Sx
namespace Go.Proofs.YtjmnolhkkpaodaaGreatDoor
open Go Go.Sx Go.RowKit
set_option maxRecDepth 100000
structure RowIsS (W : World) (a : Option Addr) (n c : Nat) (ws : List ByteArray) : Prop where
 row : RowS W a n c
 len : ws.length = n
 val : ∀ (j : Nat) x, ws[j]? = some x → stW W a (j : Int) = x
theorem stA_at (g o : Nat) (j : Nat) : stA (some ⟨g, o, none⟩) (j : Int) = (⟨g, o, none⟩ : Addr).add j := by
 unfold stA atRow
 rw [Addr.add_add]
 show (⟨g, o, none⟩ : Addr).add (((j : Int).toNat) * 1 + 0) = _
 rw [Int.toNat_natCast, Nat.mul_one, Nat.add_zero]
theorem rowS_cells {w : World} {g o n c : Nat} {ws : List ByteArray} (hn : n ≤ 4000000000) (hlen : ws.length = n) (h : ∀ (j : Nat) x, ws[j]? = some x → w.cell? ((⟨g, o, none⟩ : Addr).add j) = some (.string x)) : RowIsS w (some ⟨g, o, none⟩) n c ws := by
 have key : ∀ (j : Nat) x, ws[j]? = some x → okS w (some ⟨g, o, none⟩) j = true ∧ stW w (some ⟨g, o, none⟩) j = x := by
  intro j x hx
  have hc := h j x hx
  unfold okS stW isStr rdStr
  rw [stA_at, hc]
  exact ⟨rfl, rfl⟩
 refine ⟨⟨hn, (by simp), fun j hj => ?_⟩, hlen, fun j x hx => (key j x hx).2⟩
 exact (key j _ (List.getElem?_eq_getElem (by omega))).1
theorem add_at (g o j : Nat) : (⟨g, o, none⟩ : Addr).add j = ⟨g, o + j, none⟩ := by
 unfold Addr.add
 cases j with
 | zero => rfl
 | succ j => simp
theorem rowS_nil (w : World) (c : Nat) : RowIsS w none 0 c [] := ⟨⟨by omega, fun _ => rfl, fun j hj => by omega⟩, rfl, fun j x hx => by simp at hx⟩
theorem rowS_own {w : World} {base i : Nat} {a : Option Addr} {k c : Nat} {ws : List ByteArray} (h : w.ownsRow base 9 1 (.slice a k c) k (ws.map .string)) (hlen : ws.length = k) (hk : k ≤ 4000000000) (hi : ∀ b, a.map Addr.block = some b → b ≠ i) : RowIsS (hole w i) a k c ws := by
 have hcases : (a = none ∧ k = 0) ∨ ∃ g, a = some ⟨g, 0, none⟩ := by
  rcases h.2 with ⟨h1, _⟩ | ⟨g, cap, cur, h1, _⟩
  · injection h1 with h1 h2 h3
    exact .inl ⟨h1, h2⟩
  · injection h1 with h1 h4 h5
    exact .inr ⟨g, h1⟩
 rcases hcases with ⟨rfl, rfl⟩ | ⟨g, rfl⟩
 · rw [List.length_eq_zero_iff.1 hlen]
   exact rowS_nil _ _
 · refine rowS_cells hk hlen fun j x hx => ?_
   rw [hole_cell (by rw [add_at]; exact hi g rfl)]
   exact h.cells rfl j _ (by rw [List.getElem?_map, hx]; rfl)
def memL (s : ByteArray) (l : List ByteArray) : Bool := l.any fun x => sEq x s
theorem memN_list {W : World} {a : Option Addr} {n c : Nat} {ws : List ByteArray} (h : RowIsS W a n c ws) (s : ByteArray) : ∀ v, v ≤ n → memN W a s v = memL s (ws.take v)
 | 0, _ => by rw [List.take_zero]; rfl
 | v + 1, hv => by
  have hl : v < ws.length := by rw [h.len]; omega
  have hx : ws[v]? = some ws[v] := List.getElem?_eq_getElem hl
  unfold memN
  rw [memN_list h s v (by omega), h.val v _ hx, List.take_add_one, hx]
  unfold memL
  rw [List.any_append]
  simp
theorem cutA_row {W : World} {a : Option Addr} {n c : Nat} {ws : List ByteArray} (h : RowIsS W a n c ws) (ha : ∀ q, a = some q → ∃ g, q = ⟨g, 0, none⟩) {k : Nat} (hk : k ≤ n) (hc : n ≤ c) : RowIsS W (cutA a c k 1) (n - k) (c - k) (ws.drop k) := by
 have hlen : (ws.drop k).length = n - k := by rw [List.length_drop, h.len]
 have hlim := h.row.lim
 unfold cutA
 split
 · rename_i hck
   have hn0 : n - k = 0 := by omega
   rw [hn0] at hlen ⊢
   rw [List.length_eq_zero_iff.1 hlen]
   exact ⟨⟨by omega, fun _ => rfl, fun j hj => by omega⟩, rfl, fun j x hx => by simp at hx⟩
 · cases a with
   | none =>
    have := h.row.nil rfl
    have hn0 : n - k = 0 := by omega
    rw [hn0] at hlen ⊢
    rw [List.length_eq_zero_iff.1 hlen]
    exact rowS_nil _ _
   | some q =>
    obtain ⟨g, rfl⟩ := ha q rfl
    show RowIsS W (some ((⟨g, 0, none⟩ : Addr).add (k * 1))) _ _ _
    have e : (⟨g, 0, none⟩ : Addr).add (k * 1) = ⟨g, k, none⟩ := by
     rw [Nat.mul_one, add_at, Nat.zero_add]
    rw [e]
    refine rowS_cells (by omega) hlen fun j x hx => ?_
    rw [List.getElem?_drop] at hx
    have h1 := h.val _ x hx
    have hj : k + j < n := by
     rw [← h.len]
     exact (List.getElem?_eq_some_iff.1 hx).1
    have h2 := isStr_cell (h.row.at_ (k + j) hj)
    have e2 : (⟨g, k, none⟩ : Addr).add j = (⟨g, 0, none⟩ : Addr).add (k + j) := by
     rw [add_at, add_at, Nat.zero_add]
    rw [e2, ← stA_at, h2, ← h1]
    rfl
end Go.Proofs.YtjmnolhkkpaodaaGreatDoor
