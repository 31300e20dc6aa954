/- A part of the proof: the reference is safe, both packages write and read alike. Several texts in one; printed by slim28.py out of the texts of wip. -/
import Derived.Test.YtjmnolhkkpaodaaGreatDoorZ35
import Derived.Shelf.Small.Strs
import Derived.Shelf.Utf8.RuneCount
import Derived.Shelf.Strings.Search1
import Derived.Shelf.Strings.Search2
import Derived.Shelf.Strings.Search3
import Derived.Shelf.Strings.Cut
import Derived.Shelf.Strings.Count
import Derived.Shelf.LaysM
import Derived.Shelf.Strings.Shaped
import Derived.Shelf.Strings.Split
import Derived.Shelf.Strings.SplitShaped
import Derived.Shelf.Unicode.Decode
import Derived.Shelf.Strings.RuneCount
import Derived.Shelf.Strings.Explode
import Derived.Shelf.Unicode.DecodeSlow
import Derived.Shelf.Unicode.DecodeAny
import Derived.Test.YtjmnolhkkpaodaaGreatDoorProg
set_option linter.all false
namespace Go.Proofs.YtjmnolhkkpaodaaGreatDoor
open Go Go.Sx Go.RowKit
set_option maxRecDepth 100000
def nlB : ByteArray := ⟨#[10]⟩
def adP (a : Option Addr) (v : Int) (o : Nat) : Addr := (atRow a v 17).add o
def pv (W : World) (a : Option Addr) (v : Int) : PinV := ⟨rdInt W (adP a v 0), rdInt W (adP a v 1), rdInt W (adP a v 2), [rdBool W (adP a v 3), rdBool W (adP a v 4), rdBool W (adP a v 5), rdBool W (adP a v 6), rdBool W (adP a v 7), rdBool W (adP a v 8), rdBool W (adP a v 9), rdBool W (adP a v 10), rdBool W (adP a v 11), rdBool W (adP a v 12), rdBool W (adP a v 13), rdBool W (adP a v 14), rdBool W (adP a v 15), rdBool W (adP a v 16)]⟩
def okP (W : World) (a : Option Addr) (v : Int) : Bool := isInt W .i64 (adP a v 0) && (isInt W .u16 (adP a v 1) && (isInt W .u8 (adP a v 2) && (isBool W (adP a v 3) && (isBool W (adP a v 4) && (isBool W (adP a v 5) && (isBool W (adP a v 6) && (isBool W (adP a v 7) && (isBool W (adP a v 8) && (isBool W (adP a v 9) && (isBool W (adP a v 10) && (isBool W (adP a v 11) && (isBool W (adP a v 12) && (isBool W (adP a v 13) && (isBool W (adP a v 14) && (isBool W (adP a v 15) && (isBool W (adP a v 16) && true))))))))))))))))
def rngP (p : PinV) : Bool := (decide (0 ≤ p.a) && decide (p.a ≤ 65535)) && (decide (0 ≤ p.d) && decide (p.d ≤ 255))
theorem rngP_ok {p : PinV} (h : rngP p = true) : (0 ≤ p.a ∧ p.a ≤ 65535) ∧ (0 ≤ p.d ∧ p.d ≤ 255) := by
 simp only [rngP, Bool.and_eq_true, decide_eq_true_eq] at h
 exact h
def fmtB (W : World) (a : Option Addr) : Nat → ByteArray
 | 0 => emp
 | j + 1 => catB (fmtB W a j) (catB (pv W a (j : Int)).txt nlB)
theorem txt_size (p : PinV) : p.txt.size ≤ 100 := recB_size _ _ _ _
theorem nlB_size : nlB.size = 1 := rfl
structure RowP (W : World) (a : Option Addr) (n c : Nat) : Prop where
 lim : (fmtB W a n).size ≤ 3000000000
 cnt : n ≤ 3000000000
 nil : a = none → n = 0
 at_ : ∀ j : Nat, j < n → okP W a j = true ∧ rngP (pv W a j) = true
theorem fmtB_mono (W : World) (a : Option Addr) {v : Nat} : ∀ {n : Nat}, v ≤ n → (fmtB W a v).size ≤ (fmtB W a n).size
 | 0, h => by rw [show v = 0 by omega]; exact Nat.le_refl _
 | n + 1, h => by
  by_cases hv : v = n + 1
  · rw [hv]; exact Nat.le_refl _
  · have h1 := fmtB_mono W a (show v ≤ n by omega)
    have e : fmtB W a (n + 1) = catB (fmtB W a n) (catB (pv W a (n : Int)).txt nlB) := rfl
    rw [e, catB_size]
    omega
theorem RowP.room {W : World} {a : Option Addr} {n c : Nat} (h : RowP W a n c) {v : Nat} (hv : v < n) : (fmtB W a v).size + (pv W a (v : Int)).txt.size + 1 ≤ 3000000000 := by
 have h1 := fmtB_mono W a (show v + 1 ≤ n by omega)
 have e : fmtB W a (v + 1) = catB (fmtB W a v) (catB (pv W a (v : Int)).txt nlB) := rfl
 rw [e, catB_size, catB_size, nlB_size] at h1
 have := h.lim
 omega
noncomputable def lb10 : Code := match bodyOf Tryz.f10 with
 | .seq _ (.seq _ (.seq (.seq _ (.block _ (.loop b))) _)) => b
 | _ => .skip
def G10 : List (Nat × Sx.Spec) := [(20, specV F20)]
theorem gok10 (W : World) : GOk W Tryz.prog G10 := gok_cons (rec_ok W) (gok_nil W)
def SP10 (a : Option Addr) (n c : Nat) (v : Int) (S : ByteArray) : SL := [(6, .one (.sl a n c)), (7, .one (.int .i64 (.sym (n : Int)))), (8, .one (.int .i64 (.sym v))), (3, .one (.str S))]
def ks10 : List (Nat × Bool) := [(6, false), (7, false), (8, true), (3, false)]
noncomputable def r10 (W : World) (a : Option Addr) (n c : Nat) (v : Int) (S : ByteArray) : RG := (runG Tryz.prog W G10 100000 19 .plain lb10 (SP10 a n c v S) ⟨[], [], 0⟩ []).slim 0 ks10 [] [(3, false)] []
def c10 (W : World) (a : Option Addr) (n : Nat) (v : Int) (S : ByteArray) : Bool := (inRow a n v && okP W a v) && (okz (pv W a v).txt nlB && okz S (catB (pv W a v).txt nlB))
theorem r10_eq (W : World) (a : Option Addr) (n c : Nat) (v : Int) (S : ByteArray) : r10 W a n c v S = .br (decide (v < (n : Int))) (.leaf .nrm (.sym (c10 W a n v S)) (SP10 a n c (gadd .i64 v 1) (catB S (catB (pv W a v).txt nlB))) ⟨[], [], 0⟩ []) (.leaf (.exit 0) (.lit true) [(3, .one (.str S))] ⟨[], [], 0⟩ []) := by kernel_rfl
def End10 (F : ByteArray) : RG := .leaf (.exit 0) (.lit true) [(3, .one (.str F))] ⟨[], [], 0⟩ []
theorem okz_lim {a b : ByteArray} (h : a.size + b.size ≤ 4000000000) : okz a b = true := by
 unfold okz
 rw [decide_eq_true_eq]
 omega
theorem gadd_nat {v : Nat} (h : v < 4000000000) : gadd .i64 (v : Int) 1 = ((v + 1 : Nat) : Int) := by
 unfold gadd
 rw [IntKind.wrap_i64]
 omega
theorem step10 {W : World} {a : Option Addr} {n c : Nat} (h : RowP W a n c) : StepOk (W : Bs) Tryz.prog G10 100000 19 .plain lb10 0 ks10 [] [(3, false)] [] (fun v : Nat => v ≤ n) (fun v => n - v) (fun v => SP10 a n c (v : Int) (fmtB W a v)) (fun _ => []) (fun _ => []) (End10 (fmtB W a n)) := by
 constructor
 intro v hv
 have hr := r10_eq W a n c (v : Int) (fmtB W a v)
 unfold r10 at hr
 rw [show (Bs.of W).W = W from rfl, hr]
 have hlim := h.lim
 constructor
 · intro h0
   have h0 : v < n := by have := of_decide_eq_true h0; omega
   have hs := h.room h0
   have hcnt := h.cnt
   refine ⟨?_, .inl ⟨rfl, v + 1, by show v + 1 ≤ n; omega, by show n - (v + 1) < n - v; omega, ?_, rfl, rfl⟩⟩
   · rw [SB.val_sym]
     unfold c10
     rw [inRow_ok h.nil h0, (h.at_ v h0).1, okz_lim (by rw [nlB_size]; omega), okz_lim (by rw [catB_size, nlB_size]; omega)]
     rfl
   · rw [gadd_nat (by omega)]
     rfl
 · intro h0
   have h0 : ¬ v < n := by have := of_decide_eq_false h0; omega
   have h0 : v = n := by omega
   subst h0
   exact ⟨rfl, .inr ⟨by simp, fun f a w hst e' he' => ⟨he', f, hst⟩⟩⟩
noncomputable def h10w (a : Option Addr) (n c : Nat) (F : ByteArray) : LG := ⟨ks10, [], 0, fun S B g => (End10 F).addVc (.sym (@decide (S = SP10 a n c 0 emp ∧ B = [] ∧ g = []) (Classical.propDecidable _)))⟩
theorem loop10 {W : World} {a : Option Addr} {n c : Nat} (h : RowP W a n c) : LoopGOk (W : Bs) Tryz.prog 19 lb10 (h10w a n c (fmtB W a n)) := by
 intro S Bl g f ac w hgood hst
 obtain ⟨h1, h2⟩ := RG.good_addVc hgood
 have h3 := h2 (RG.good_is h1)
 rw [SB.val_sym] at h3
 obtain ⟨rfl, rfl, rfl⟩ := @of_decide_eq_true _ (Classical.propDecidable _) h3
 refine wp_mono (loopG_core (gok10 W) (fun v : Nat => v ≤ n) (fun _ => .plain) (fun _ _ => trivial) (fun v => n - v) (fun v => SP10 a n c (v : Int) (fmtB W a v)) (fun _ => []) (fun _ => []) (End10 (fmtB W a n)) [(3, false)] [] rfl rfl (step10 h).step 0 f ac w (Nat.zero_le _) hst (fun i hi => by cases hi)) (fun e a w hp => RG.is_addVc hp)
noncomputable def t10 (a : Option Addr) (n c : Nat) (F : ByteArray) : HG := .seq .plain (.seq .plain (.seq (.seq .plain (.block (.loop (h10w a n c F)))) .plain))
noncomputable def x10w (W : World) (a : Option Addr) (n c : Nat) (F : ByteArray) : RG := runG Tryz.prog W G10 100000 19 (t10 a n c F) (bodyOf Tryz.f10) (argSlots 0 [.one (.sl a n c)]) noMem []
noncomputable def q10 (a : Option Addr) (n c : Nat) : Bool := @decide (SP10 a n c 0 emp = SP10 a n c 0 emp ∧ ([] : List (Nat × BI)) = [] ∧ ([] : Gh) = []) (Classical.propDecidable _)
theorem x10_b (W : World) (a : Option Addr) (n c : Nat) (F : ByteArray) : retOf Tryz.prog Tryz.f10.results.toList (x10w W a n c F) = some (.sym (q10 a n c), .one (.str F), []) := by kernel_rfl
theorem run10 (W : World) (a : Option Addr) (n c : Nat) (F : ByteArray) : runG Tryz.prog W G10 100000 Tryz.f10.ntmps (t10 a n c F) (bodyOf Tryz.f10) (argSlots 0 [.one (.sl a n c)]) noMem [] = x10w W a n c F := by kernel_rfl
theorem calls_of_runW {P : Program} {G : List (Nat × Sx.Spec)} {W : World} (hG : GOk W P G) {n : Nat} {g : FuncId} {fn : Func} {c : Code} (hfn : P.funcs[g]? = some fn) (hc : fn.body = some c) {t : HG} (ht : HGW (Bs.of W) P fn.ntmps t c) {args : List TV} (hle : args.length ≤ fn.ntmps) {r : RG} (hr : runG P W G n fn.ntmps t c (argSlots 0 args) noMem [] = r) {R : TV → Mem → Gh → Prop}
  (hres : AllW r fun e vc s m g => vc.val = true ∧ (e = .nrm ∨ e = .ret) ∧ ∃ ps v, resultsS P (Sx.look s) m fn.results.toList = some ps ∧ resultV ps = some v ∧ R v m g) :
  Calls P g (args.map (TV.den fun _ => 0)).toArray W fun en w' => ∃ v m g f, R v m g ∧ en = .returned (v.den f) ∧ (∀ (q : Nat) (o : Own), g[q]? = some o → o.rel W.heap.size w') ∧ Below W.heap.size W w' ∧ MOk w' (fun i => ∃ b j, Sx.look m.blks b = some j ∧ f b = i) f m w' := by
 subst hr
 refine (calls_of_runS hG hfn hc ht.h hle (R := R) hres.h).mono ?_
 rintro en w' ⟨v, m, g, f, hn, rfl, ho, hb, hm, _⟩
 exact ⟨v, m, g, f, hn, rfl, ho, hb, hm⟩
theorem hg10 {W : World} {a : Option Addr} {n c : Nat} (h : RowP W a n c) : HGW (Bs.of W) Tryz.prog 19 (t10 a n c (fmtB W a n)) (bodyOf Tryz.f10) := by
 obtain ⟨e, he⟩ : ∃ e : Code × Code × Code × Nat × Code, bodyOf Tryz.f10 = .seq e.1 (.seq e.2.1 (.seq (.seq e.2.2.1 (.block e.2.2.2.1 (.loop lb10))) e.2.2.2.2)) :=
  ⟨match bodyOf Tryz.f10 with | .seq x1 (.seq x2 (.seq (.seq x3 (.block i _)) x4w)) => (x1, x2, x3, i, x4w) | _ => (.skip, .skip, .skip, 0, .skip), by kernel_rfl⟩
 constructor
 rw [he]
 exact ⟨trivial, trivial, ⟨trivial, loop10 h⟩, trivial⟩
theorem fmt10_calls {W : World} {a : Option Addr} {n c : Nat} (h : RowP W a n c) : Calls Tryz.prog 10 #[.slice a n c] W fun en w' => en = .returned (.string (fmtB W a n)) ∧ Below W.heap.size W w' := by
 have hn : Tryz.f10.ntmps = 19 := by kernel_rfl
 refine (calls_of_runW (gok10 W) (n := 100000) (g := 10) Tryz.func10 (show Tryz.f10.body = some (bodyOf Tryz.f10) by kernel_rfl) (t := t10 a n c (fmtB W a n)) (by rw [hn]; exact hg10 h) (args := [.one (.sl a n c)]) (by rw [hn]; simp) (run10 W a n c (fmtB W a n)) (R := fun v _ _ => v = .one (.str (fmtB W a n)))
  (retOf_all (R := fun v _ _ => v = .one (.str (fmtB W a n))) (x10_b W a n c (fmtB W a n)) (by rw [SB.val_sym]; exact @decide_eq_true _ (Classical.propDecidable _) ⟨rfl, rfl, rfl⟩) (fun _ => rfl))).mono ?_
 rintro en w' ⟨v, m, g, f, rfl, rfl, _, hb, _⟩
 exact ⟨rfl, hb⟩
noncomputable def growL (sb sx d i : Nat) (s : SL) (m : Mem) (g : Gh) : RG := match Sx.look s sb, Sx.look s sx, g[i]? with
 | some (.one (.sl a n c)), some (.agg l), some o => match pinsOf l with
  | some p => .any fun a' c' => .leaf .nrm (.sym (isOwn a n c o && (decide (o.n + p.txt.size ≤ 4000000000) && rngP p))) (putS (some d) (.one (.sl a' (o.n + p.txt.size) c')) s) m (g.set i ⟨5, 1, a', o.n + p.txt.size, c', o.xs ++ encB p.txt⟩)
  | none => .fail
 | _, _, _ => .fail
theorem growL_ok {W : Bs} {nt sb sx d i : Nat} {o : Oper} (hc : callOf o = some (.func 19, [.tmp sb, .tmp sx])) (hdst : o.dst = some d) (hd : d < nt) : CallOk W Tryz.prog nt o (growL sb sx d i) := by
 intro s m g f a w Q hgood h
 unfold growL at hgood ⊢
 split at hgood <;> try exact hgood.elim
 rename_i sa sn sc l ow hs hx hgi
 split at hgood <;> try exact hgood.elim
 rename_i p hp
 have hg0 := hgood none 0
 simp only [RG.Good, SB.val_sym] at hg0
 rw [Bool.and_eq_true, Bool.and_eq_true, decide_eq_true_eq] at hg0
 obtain ⟨h1, h2, h3⟩ := hg0
 have e1 := isOwn_ok h1
 obtain ⟨hra, hrd⟩ := rngP_ok h3
 have hden : TV.den f (.agg l) = .agg (dens (fun _ => 0) p.cells) := by
  rw [dens_eq ((pinsOf_ok hp).1 f)]
  rfl
 have ha : ow.a = sa := by rw [e1]
 have hn : ow.n = sn := by rw [e1]
 have hcc : ow.c = sc := by rw [e1]
 have hl := encB_length p.txt
 have key := growC_wp (W := W) (P := Tryz.prog) (s := s) (m := m) (g := g) (f := f) (a := a) (w := w) (o := o) (ys := [.tmp sb, .tmp sx]) (gf := 19) (i := i) (d := d) (x := .agg l) (l := encB p.txt) (ow := ow) hc hdst hd (by rw [ha, hn, hcc]; simp only [evalList, evalO, hs, hx]) (by rw [hden]; exact line_growC hra hrd) hgi (by rw [e1]) (by rw [e1]) (by rw [hl]; exact h2) h
  (K := fun a' w' => GPost W nt (.any fun a' c' => .leaf .nrm (.sym (isOwn sa sn sc ow && (decide (ow.n + p.txt.size ≤ 4000000000) && rngP p))) (putS (some d) (.one (.sl a' (ow.n + p.txt.size) c')) s) m (g.set i ⟨5, 1, a', ow.n + p.txt.size, c', ow.xs ++ encB p.txt⟩)) .normal a' w') (Q := Q) ?_
 · exact key
 · intro a' c' u w' h4
   rw [hl] at h4
   exact ⟨a', c', rfl, f, h4⟩
noncomputable def lb9 : Code := match bodyOf Tryz.f9 with
 | .seq _ (.seq _ (.seq (.seq _ (.block _ (.loop b))) _)) => b
 | _ => .skip
noncomputable def ops9 : Array Oper := match lb9 with
 | .seq _ (.seq _ (.seq (.block _ (.seq _ (.region _ o _))) _)) => o
 | _ => #[]
noncomputable def op9 (i : Nat) : Oper := match ops9.toList[i]? with
 | some o => o
 | none => { dst := none, op := .move (.const (.bool true)), type := 0, pos := "", after := #[], guard := none }
noncomputable def ops9z : Array Oper := match bodyOf Tryz.f9 with
 | .seq _ (.seq _ (.seq _ (.seq (.region _ o _) _))) => o
 | _ => #[]
noncomputable def op9z (i : Nat) : Oper := match ops9z.toList[i]? with
 | some o => o
 | none => { dst := none, op := .move (.const (.bool true)), type := 0, pos := "", after := #[], guard := none }
noncomputable def tb9 (W : World) : HG := .seq .plain (.seq .plain (.seq (.block (.seq .plain (.cust (runCalls Tryz.prog W [] 100000 20 ops9 [⟨2, growL 12 13 14 0⟩, ⟨4, growB ⟨14, 15, 16, 0, 30, 30, 5⟩⟩] 0)))) .plain))
def SP9 (a : Option Addr) (n c : Nat) (v : Int) (a1 : Option Addr) (n1 c1 : Nat) : SL := [(6, .one (.sl a n c)), (7, .one (.int .i64 (.sym (n : Int)))), (8, .one (.int .i64 (.sym v))), (3, .one (.sl a1 n1 c1))]
noncomputable def r9 (W : World) (a : Option Addr) (n c : Nat) (v : Int) (a1 : Option Addr) (n1 c1 : Nat) (xs : List SV) : RG := (runG Tryz.prog W [] 100000 20 (tb9 W) lb9 (SP9 a n c v a1 n1 c1) ⟨[], [], 0⟩ [⟨5, 1, a1, n1, c1, xs⟩]).slim 0 ks10 [] [(3, false)] []
theorem r9_1 (W : World) (a : Option Addr) (n c : Nat) (v : Int) (a1 : Option Addr) (n1 c1 : Nat) (xs : List SV) : r9 W a n c v a1 n1 c1 xs = .br (decide (v < (n : Int))) (.any fun a2 c2 => .any fun a3 c3 => .leaf .nrm (.sym ((inRow a n v && okP W a v) && ((isOwn a1 n1 c1 ⟨5, 1, a1, n1, c1, xs⟩ && (decide (n1 + (pv W a v).txt.size ≤ 4000000000) && rngP (pv W a v))) && ((decide (a2 = a2) && (decide (n1 + (pv W a v).txt.size = n1 + (pv W a v).txt.size) && decide (c2 = c2))) && decide (n1 + (pv W a v).txt.size + 1 ≤ 140737488355328)))))
  (SP9 a n c (gadd .i64 v 1) a3 (n1 + (pv W a v).txt.size + 1) c3) ⟨[], [], 0⟩ [⟨5, 1, a3, n1 + (pv W a v).txt.size + 1, c3, xs ++ encB (pv W a v).txt ++ encB nlB⟩]) (.leaf (.exit 0) (.lit true) [(3, .one (.sl a1 n1 c1))] ⟨[], [], 0⟩ [⟨5, 1, a1, n1, c1, xs⟩]) := by kernel_rfl
def End9 (F : ByteArray) : RG := .any fun a' c' => .leaf (.exit 0) (.lit true) [(3, .one (.sl a' F.size c'))] ⟨[], [], 0⟩ [⟨5, 1, a', F.size, c', encB F⟩]
noncomputable def h9w (a : Option Addr) (n c : Nat) (F : ByteArray) : LG := ⟨ks10, [], 0, fun S B g => (End9 F).addVc (.sym (@decide (S = SP9 a n c 0 none 0 0 ∧ B = [] ∧ g = []) (Classical.propDecidable _)))⟩
theorem hb9 (W : Bs) : HGW W Tryz.prog 20 (tb9 W.W) lb9 := by
 obtain ⟨e, he⟩ : ∃ e : Code × Code × Nat × Code × Nat × Code, lb9 = .seq e.1 (.seq e.2.1 (.seq (.block e.2.2.1 (.seq e.2.2.2.1 (.region e.2.2.2.2.1 ops9 false))) e.2.2.2.2.2)) :=
  ⟨match lb9 with | .seq x1 (.seq x2 (.seq (.block i (.seq x3 (.region j _ _))) x4w)) => (x1, x2, i, x3, j, x4w) | _ => (.skip, .skip, 0, .skip, 0, .skip), by kernel_rfl⟩
 constructor
 rw [he]
 refine ⟨trivial, trivial, ⟨trivial, ?_⟩, trivial⟩
 refine calls_cust (gok_nil _) (fun c hc => ?_) (by simp)
 simp only [List.mem_cons, List.not_mem_nil, or_false] at hc
 rcases hc with rfl | rfl
 · exact callG_of (o := op9 2) (by kernel_rfl) (by kernel_rfl) (growL_ok (by kernel_rfl) (by kernel_rfl) (by decide))
 · exact callG_of (o := op9 4) (by kernel_rfl) (by kernel_rfl) (growB_ok (by kernel_rfl) (by decide))
theorem loop9 {W : World} {a : Option Addr} {n c : Nat} (h : RowP W a n c) : LoopGOk (W : Bs) Tryz.prog 20 lb9 (h9w a n c (fmtB W a n)) := by
 intro S Bl g f ac w hgood hst
 obtain ⟨h1, h2⟩ := RG.good_addVc hgood
 have h3 := h2 (RG.good_is h1)
 rw [SB.val_sym] at h3
 obtain ⟨rfl, rfl, rfl⟩ := @of_decide_eq_true _ (Classical.propDecidable _) h3
 have hlim := h.lim
 refine wp_mono (loopG_core (W := (W : Bs)) (P := Tryz.prog) (G := []) (gok_nil _) (n := 100000) (nt := 20) (N := 0) (body := lb9) (ks := ks10) (bs := []) (π := Nat × Option Addr × Nat) (fun p => p.1 ≤ n) (fun _ => tb9 W) (fun _ _ => (hb9 (W : Bs)).h) (fun p => n - p.1) (fun p => SP9 a n c (p.1 : Int) p.2.1 (fmtB W a p.1).size p.2.2) (fun _ => [])
  (fun p => [⟨5, 1, p.2.1, (fmtB W a p.1).size, p.2.2, encB (fmtB W a p.1)⟩]) (End9 (fmtB W a n)) [(3, false)] [] rfl rfl ?_ (0, none, 0) f ac w (Nat.zero_le _) (hst.fresh 5 1) (fun i hi => by cases hi)) (fun e a w hp => RG.is_addVc hp)
 rintro ⟨v, a1, c1⟩ hv
 have hv : v ≤ n := hv
 show (r9 W a n c (v : Int) a1 (fmtB W a v).size c1 (encB (fmtB W a v))).All _
 rw [r9_1]
 constructor
 · intro h0
   have h0 : v < n := by have := of_decide_eq_true h0; omega
   have hs := h.room h0
   have hcnt := h.cnt
   intro a2 c2 a3 c3
   have e5 : fmtB W a (v + 1) = catB (fmtB W a v) (catB (pv W a (v : Int)).txt nlB) := rfl
   refine ⟨?_, .inl ⟨rfl, (v + 1, a3, c3), by show v + 1 ≤ n; omega, by show n - (v + 1) < n - v; omega, ?_, rfl, ?_⟩⟩
   · rw [SB.val_sym, inRow_ok h.nil h0, (h.at_ v h0).1, (h.at_ v h0).2, show isOwn a1 (fmtB W a v).size c1 ⟨5, 1, a1, (fmtB W a v).size, c1, encB (fmtB W a v)⟩ = true from isOwn_self _ _ _ _]
     simp only [decide_true, Bool.and_self, Bool.true_and, Bool.and_true, Bool.and_eq_true, decide_eq_true_eq]
     omega
   · show SP9 a n c (gadd .i64 (v : Int) 1) a3 ((fmtB W a v).size + (pv W a (v : Int)).txt.size + 1) c3 = SP9 a n c ((v + 1 : Nat) : Int) a3 (fmtB W a (v + 1)).size c3
     rw [gadd_nat (by omega), e5, catB_size, catB_size, nlB_size, Nat.add_assoc]
   · show [(⟨5, 1, a3, (fmtB W a v).size + (pv W a (v : Int)).txt.size + 1, c3, encB (fmtB W a v) ++ encB (pv W a (v : Int)).txt ++ encB nlB⟩ : Own)] = [⟨5, 1, a3, (fmtB W a (v + 1)).size, c3, encB (fmtB W a (v + 1))⟩]
     rw [e5, catB_size, catB_size, nlB_size, encB_cat, encB_cat, Nat.add_assoc, List.append_assoc]
 · intro h0
   have h0 : ¬ v < n := by have := of_decide_eq_false h0; omega
   have h0 : v = n := by omega
   subst h0
   exact ⟨rfl, .inr ⟨by simp, fun f a w hst e' he' => ⟨a1, c1, he', f, hst⟩⟩⟩
noncomputable def t9 (W : World) (a : Option Addr) (n c : Nat) (F : ByteArray) : HG := .seq .plain (.seq .plain (.seq (.seq .plain (.block (.loop (h9w a n c F)))) (.seq (.cust (runCalls Tryz.prog W [] 100000 20 ops9z [⟨1, convS 18 19 0 F⟩] 0)) .plain)))
noncomputable def x9w (W : World) (a : Option Addr) (n c : Nat) (F : ByteArray) : RG := runG Tryz.prog W [] 100000 20 (t9 W a n c F) (bodyOf Tryz.f9) (argSlots 0 [.one (.sl a n c)]) noMem []
noncomputable def q9 (a : Option Addr) (n c : Nat) : Bool := @decide (SP9 a n c 0 none 0 0 = SP9 a n c 0 none 0 0 ∧ ([] : List (Nat × BI)) = [] ∧ ([] : Gh) = []) (Classical.propDecidable _)
noncomputable def q9z (a1 : Option Addr) (c1 : Nat) (F : ByteArray) : Bool := (decide (a1 = a1) && (decide (F.size = F.size) && decide (c1 = c1))) && @decide (encB F = encB F) (Classical.propDecidable _)
theorem x9_a (W : World) (a : Option Addr) (n c : Nat) (F : ByteArray) : x9w W a n c F = .any fun a1 c1 => gaW a1 c1 (x9w W a n c F) := by kernel_rfl
theorem x9_b (W : World) (a : Option Addr) (n c : Nat) (F : ByteArray) (a1 : Option Addr) (c1 : Nat) : retOf Tryz.prog Tryz.f9.results.toList (gaW a1 c1 (x9w W a n c F)) = some (.sym (q9 a n c && q9z a1 c1 F), .one (.str F), [⟨5, 1, a1, F.size, c1, encB F⟩]) := by kernel_rfl
theorem run9 (W : World) (a : Option Addr) (n c : Nat) (F : ByteArray) : runG Tryz.prog W [] 100000 Tryz.f9.ntmps (t9 W a n c F) (bodyOf Tryz.f9) (argSlots 0 [.one (.sl a n c)]) noMem [] = x9w W a n c F := by kernel_rfl
theorem hg9 {W : World} {a : Option Addr} {n c : Nat} (h : RowP W a n c) : HGW (Bs.of W) Tryz.prog 20 (t9 W a n c (fmtB W a n)) (bodyOf Tryz.f9) := by
 obtain ⟨e, he⟩ : ∃ e : Code × Code × Code × Nat × Nat × Code, bodyOf Tryz.f9 = .seq e.1 (.seq e.2.1 (.seq (.seq e.2.2.1 (.block e.2.2.2.1 (.loop lb9))) (.seq (.region e.2.2.2.2.1 ops9z false) e.2.2.2.2.2))) :=
  ⟨match bodyOf Tryz.f9 with | .seq x1 (.seq x2 (.seq (.seq x3 (.block i _)) (.seq (.region j _ _) x4w))) => (x1, x2, x3, i, j, x4w) | _ => (.skip, .skip, .skip, 0, 0, .skip), by kernel_rfl⟩
 constructor
 rw [he]
 refine ⟨trivial, trivial, ⟨trivial, loop9 h⟩, ?_, trivial⟩
 refine calls_cust (gok_nil _) (fun c hc => ?_) (by simp)
 rw [List.mem_singleton] at hc
 subst hc
 exact callG_of (o := op9z 1) (by kernel_rfl) (by kernel_rfl) (convS_ok (by kernel_rfl) (by decide))
theorem q9z_true (a1 : Option Addr) (c1 : Nat) (F : ByteArray) : q9z a1 c1 F = true := by
 unfold q9z
 rw [@decide_eq_true (encB F = encB F) (Classical.propDecidable _) rfl]
 simp
theorem fmt9_calls {W : World} {a : Option Addr} {n c : Nat} (h : RowP W a n c) : Calls Tryz.prog 9 #[.slice a n c] W fun en w' => en = .returned (.string (fmtB W a n)) ∧ Below W.heap.size W w' := by
 have hn : Tryz.f9.ntmps = 20 := by kernel_rfl
 refine (calls_of_runW (gok_nil W) (n := 100000) (g := 9) Tryz.func9 (show Tryz.f9.body = some (bodyOf Tryz.f9) by kernel_rfl) (t := t9 W a n c (fmtB W a n)) (by rw [hn]; exact hg9 h) (args := [.one (.sl a n c)]) (by rw [hn]; simp) (run9 W a n c (fmtB W a n)) (R := fun v _ _ => v = .one (.str (fmtB W a n)))
  (gaW_all (x9_a W a n c (fmtB W a n)) fun a1 c1 => retOf_all (R := fun v _ _ => v = .one (.str (fmtB W a n))) (x9_b W a n c (fmtB W a n) a1 c1) (by
   rw [SB.val_sym, q9z_true, Bool.and_true]
   exact @decide_eq_true _ (Classical.propDecidable _) ⟨rfl, rfl, rfl⟩) (fun _ => rfl))).mono ?_
 rintro en w' ⟨v, m, g, f, rfl, rfl, _, hb, _⟩
 exact ⟨rfl, hb⟩
end Go.Proofs.YtjmnolhkkpaodaaGreatDoor
namespace Go.Proofs
open Go.Shelf
def Tryz.lays137_ren : Go.Shelf.Ren := ⟨fun | 137 => 86 | 217 => 119 | 266 => 153 | n => n, fun | 9 => 9 | 5 => 5 | 3 => 3 | n => n, fun | n => n⟩
theorem Tryz.lays137 : Go.Proofs.Lays.n137 Tryz.prog Tryz.lays137_ren := {
 mixed := by kernel_rfl
 f137 := Tryz.func86.trans (congrArg some (by kernel_rfl))
 f217 := Tryz.func119.trans (congrArg some (by kernel_rfl))
 f266 := Tryz.func153.trans (congrArg some (by kernel_rfl))
 t3 := Tryz.underlying3
 a3 := Tryz.isAgg3
 z3 := Tryz.sizeOf3
 v3 := Tryz.zeroValue3
 t5 := Tryz.underlying5
 a5 := Tryz.isAgg5
 z5 := Tryz.sizeOf5
 v5 := Tryz.zeroValue5
 t9 := Tryz.underlying9
 a9 := Tryz.isAgg9
 z9 := Tryz.sizeOf9
 v9 := Tryz.zeroValue9 }
open Go.RowKit in
theorem Tryz.strings_IndexByte (s : ByteArray) (c : Int) (w : World) :
  Calls Tryz.prog 86 #[.string s, .int .u8 c] w fun e w' => e = .returned (.int .i64 (Lib.indexByte s.data.toList c.toNat.toUInt8)) ∧ w' = w := Any.strings_IndexByte Tryz.lays137 s c w
def Tryz.lays219_ren : Go.Shelf.Ren := ⟨fun | 219 => 84 | 217 => 119 | 225 => 120 | 224 => 121 | 267 => 122 | 266 => 153 | 314 => 154 | n => n, fun | 9 => 9 | 3 => 3 | 4 => 4 | 5 => 5 | 46 => 75 | 146 => 233 | 51 => 232 | n => n, fun | 1 => 0 | n => n⟩
def Tryz.lays145_ren : Go.Shelf.Ren := ⟨fun | 145 => 22 | 220 => 50 | 219 => 84 | 217 => 119 | 225 => 120 | 224 => 121 | 267 => 122 | 266 => 153 | 314 => 154 | n => n, fun | 9 => 9 | 4 => 4 | 59 => 76 | 3 => 3 | 5 => 5 | 46 => 75 | 146 => 233 | 51 => 232 | n => n, fun | 1 => 0 | n => n⟩
theorem Tryz.lays145 : Go.Proofs.Lays.n145 Tryz.prog Tryz.lays145_ren := {
 mixed := by kernel_rfl
 f145 := Tryz.func22.trans (congrArg some (by kernel_rfl))
 f217 := Tryz.func119.trans (congrArg some (by kernel_rfl))
 f219 := Tryz.func84.trans (congrArg some (by kernel_rfl))
 f220 := Tryz.func50.trans (congrArg some (by kernel_rfl))
 f224 := Tryz.func121.trans (congrArg some (by kernel_rfl))
 f225 := Tryz.func120.trans (congrArg some (by kernel_rfl))
 f266 := Tryz.func153.trans (congrArg some (by kernel_rfl))
 f267 := Tryz.func122.trans (congrArg some (by kernel_rfl))
 f314 := Tryz.func154.trans (congrArg some (by kernel_rfl))
 t3 := Tryz.underlying3
 a3 := Tryz.isAgg3
 z3 := Tryz.sizeOf3
 v3 := Tryz.zeroValue3
 t4 := Tryz.underlying4
 a4 := Tryz.isAgg4
 z4 := Tryz.sizeOf4
 v4 := Tryz.zeroValue4
 t5 := Tryz.underlying5
 a5 := Tryz.isAgg5
 z5 := Tryz.sizeOf5
 v5 := Tryz.zeroValue5
 t9 := Tryz.underlying9
 a9 := Tryz.isAgg9
 z9 := Tryz.sizeOf9
 v9 := Tryz.zeroValue9
 t46 := Tryz.underlying75
 a46 := Tryz.isAgg75
 z46 := Tryz.sizeOf75
 v46 := Tryz.zeroValue75
 t51 := Tryz.underlying232
 a51 := Tryz.isAgg232
 z51 := Tryz.sizeOf232
 v51 := Tryz.zeroValue232
 t59 := Tryz.underlying76
 a59 := Tryz.isAgg76
 z59 := Tryz.sizeOf76
 v59 := Tryz.zeroValue76
 t146 := Tryz.underlying233
 a146 := Tryz.isAgg233
 z146 := Tryz.sizeOf233
 v146 := Tryz.zeroValue233
 g1 := by kernel_rfl }
open Go.RowKit Go.Lib in
theorem Tryz.strings_Cut (s sep : ByteArray) (m : Int) (w : World) (hs : s.size < 4294967281) (hm : w.cell? ⟨0, 0, none⟩ = some (.int .i64 m)) :
  Calls Tryz.prog 22 #[.string s, .string sep] w fun e w' => e = .returned (.tuple #[.string ⟨(Lib.cut s.data.toList sep.data.toList).1.toArray⟩, .string ⟨(Lib.cut s.data.toList sep.data.toList).2.1.toArray⟩, .bool (Lib.cut s.data.toList sep.data.toList).2.2]) ∧ ∃ n, w' = w.drewN n := Any.strings_Cut Tryz.lays145 s sep m w hs hm
def Tryz.lays221_ren : Go.Shelf.Ren := ⟨fun | 221 => 85 | 268 => 123 | 138 => 124 | 143 => 125 | 195 => 155 | 197 => 156 | 218 => 157 | 219 => 84 | 260 => 185 | 217 => 119 | 225 => 120 | 224 => 121 | 267 => 122 | 266 => 153 | 314 => 154 | n => n, fun | 9 => 9 | 3 => 3 | 31 => 123 | 4 => 4 | 0 => 0 | 105 => 235 | 21 => 21 | 5 => 5 | 46 => 75 | 119 => 278 | 139 => 281 | 138 => 280 | 146 => 233 | 51 => 232 | n => n, fun | 1 => 0 | 3 => 1 | 4 => 2 | n => n⟩
def Tryz.lays146_ren : Go.Shelf.Ren := ⟨fun | 146 => 51 | 221 => 85 | 268 => 123 | 138 => 124 | 143 => 125 | 195 => 155 | 197 => 156 | 218 => 157 | 219 => 84 | 260 => 185 | 217 => 119 | 225 => 120 | 224 => 121 | 267 => 122 | 266 => 153 | 314 => 154 | n => n, fun | 9 => 9 | 31 => 123 | 3 => 3 | 4 => 4 | 0 => 0 | 105 => 235 | 21 => 21 | 5 => 5 | 46 => 75 | 119 => 278 | 139 => 281 | 138 => 280 | 146 => 233 | 51 => 232 | n => n, fun | 1 => 0 | 3 => 1 | 4 => 2 | n => n⟩
theorem Tryz.lays146 : Go.Proofs.Lays.n146 Tryz.prog Tryz.lays146_ren := {
 mixed := by kernel_rfl
 f138 := Tryz.func124.trans (congrArg some (by kernel_rfl))
 f143 := Tryz.func125.trans (congrArg some (by kernel_rfl))
 f146 := Tryz.func51.trans (congrArg some (by kernel_rfl))
 f195 := Tryz.func155.trans (congrArg some (by kernel_rfl))
 f197 := Tryz.func156.trans (congrArg some (by kernel_rfl))
 f217 := Tryz.func119.trans (congrArg some (by kernel_rfl))
 f218 := Tryz.func157.trans (congrArg some (by kernel_rfl))
 f219 := Tryz.func84.trans (congrArg some (by kernel_rfl))
 f221 := Tryz.func85.trans (congrArg some (by kernel_rfl))
 f224 := Tryz.func121.trans (congrArg some (by kernel_rfl))
 f225 := Tryz.func120.trans (congrArg some (by kernel_rfl))
 f260 := Tryz.func185.trans (congrArg some (by kernel_rfl))
 f266 := Tryz.func153.trans (congrArg some (by kernel_rfl))
 f267 := Tryz.func122.trans (congrArg some (by kernel_rfl))
 f268 := Tryz.func123.trans (congrArg some (by kernel_rfl))
 f314 := Tryz.func154.trans (congrArg some (by kernel_rfl))
 t0 := Tryz.underlying0
 a0 := Tryz.isAgg0
 z0 := Tryz.sizeOf0
 v0 := Tryz.zeroValue0
 t3 := Tryz.underlying3
 a3 := Tryz.isAgg3
 z3 := Tryz.sizeOf3
 v3 := Tryz.zeroValue3
 t4 := Tryz.underlying4
 a4 := Tryz.isAgg4
 z4 := Tryz.sizeOf4
 v4 := Tryz.zeroValue4
 t5 := Tryz.underlying5
 a5 := Tryz.isAgg5
 z5 := Tryz.sizeOf5
 v5 := Tryz.zeroValue5
 t9 := Tryz.underlying9
 a9 := Tryz.isAgg9
 z9 := Tryz.sizeOf9
 v9 := Tryz.zeroValue9
 t21 := Tryz.underlying21
 a21 := Tryz.isAgg21
 z21 := Tryz.sizeOf21
 v21 := Tryz.zeroValue21
 t31 := Tryz.underlying123
 a31 := Tryz.isAgg123
 z31 := Tryz.sizeOf123
 v31 := Tryz.zeroValue123
 t46 := Tryz.underlying75
 a46 := Tryz.isAgg75
 z46 := Tryz.sizeOf75
 v46 := Tryz.zeroValue75
 t51 := Tryz.underlying232
 a51 := Tryz.isAgg232
 z51 := Tryz.sizeOf232
 v51 := Tryz.zeroValue232
 t105 := Tryz.underlying235
 a105 := Tryz.isAgg235
 z105 := Tryz.sizeOf235
 v105 := Tryz.zeroValue235
 t119 := Tryz.underlying278
 a119 := Tryz.isAgg278
 z119 := Tryz.sizeOf278
 t138 := Tryz.underlying280
 a138 := Tryz.isAgg280
 z138 := Tryz.sizeOf280
 v138 := Tryz.zeroValue280
 t139 := Tryz.underlying281
 a139 := Tryz.isAgg281
 z139 := Tryz.sizeOf281
 v139 := Tryz.zeroValue281
 t146 := Tryz.underlying233
 a146 := Tryz.isAgg233
 z146 := Tryz.sizeOf233
 v146 := Tryz.zeroValue233
 g1 := by kernel_rfl
 g3 := by kernel_rfl
 g4 := by kernel_rfl }
open Go.RowKit Go.Lib in
theorem Tryz.strings_Split (s sep : ByteArray) (m : Int) (w : World) (hs : s.size < 4294967281) (hm : w.cell? ⟨0, 0, none⟩ = some (.int .i64 m)) (h1 : 1 ≤ sep.size) :
  Calls Tryz.prog 51 #[.string s, .string sep] w fun e w' =>
   e = .returned (.slice (some ⟨w.heap.size, 0, none⟩) (Lib.countB s sep + 1) (Lib.countB s sep + 1)) ∧ w' = w.alloc (.cells ((Lib.splitB sep 0 (Lib.countB s sep) s).map Value.string).toArray 9) := Any.strings_Split Tryz.lays146 (by kernel_rfl) s sep m w hs hm h1
end Go.Proofs
namespace Go.Proofs.YtjmnolhkkpaodaaGreatDoor
open Go Go.Sx Go.RowKit
set_option maxRecDepth 100000
theorem below_refl (w : World) : Below w.heap.size w w := ⟨rfl, rfl, rfl, Nat.le_refl _, fun _ _ => rfl⟩
def ixB (c : Int) : Int := Lib.indexByte digs.data.toList c.toNat.toUInt8
def FIb : List TV → Option (SB × TV)
 | [.one (.str s), .one (.int .u8 c)] => some (.lit true, .one (.int .i64 (.sym (Lib.indexByte s.data.toList c.val.toNat.toUInt8))))
 | _ => none
theorem ib_ok (W : World) : SpecOk W Tryz.prog 86 (specV FIb) := by
 refine specV_calls ⟨Tryz.f86, Tryz.func86, by kernel_rfl, by kernel_rfl⟩ fun args c v hv hc => ?_
 unfold FIb at hv
 split at hv <;> try contradiction
 rename_i s n
 simp only [Option.some.injEq, Prod.mk.injEq] at hv
 obtain ⟨rfl, rfl⟩ := hv
 refine ⟨by simp, fun w _ f => ?_⟩
 refine (Tryz.strings_IndexByte s n.val w).mono ?_
 rintro en w' ⟨rfl, rfl⟩
 exact ⟨rfl, below_refl _⟩
def gMax (W : World) : Bool := isInt W .i64 ⟨0, 0, none⟩
theorem gMax_cell {W w : World} (h : gMax W = true) (ho : Old W w) : w.cell? ⟨0, 0, none⟩ = some (.int .i64 (rdInt W ⟨0, 0, none⟩)) := ho.cell (isInt_cell h)
def cutL (s sep : ByteArray) : ByteArray := ⟨(Lib.cut s.data.toList sep.data.toList).1.toArray⟩
def cutR (s sep : ByteArray) : ByteArray := ⟨(Lib.cut s.data.toList sep.data.toList).2.1.toArray⟩
def cutF (s sep : ByteArray) : Bool := (Lib.cut s.data.toList sep.data.toList).2.2
def FCut (W : World) : List TV → Option (SB × TV)
 | [.one (.str s), .one (.str sep)] => some (.sym (decide (s.size ≤ 4000000000) && gMax W), .tup [(false, [.str (cutL s sep)]), (false, [.str (cutR s sep)]), (false, [.bool (.sym (cutF s sep))])])
 | _ => none
theorem cut_ok (W : World) : SpecOk W Tryz.prog 22 (specV (FCut W)) := by
 refine specV_calls ⟨Tryz.f22, Tryz.func22, by kernel_rfl, by kernel_rfl⟩ fun args c v hv hc => ?_
 unfold FCut at hv
 split at hv <;> try contradiction
 rename_i s sep
 simp only [Option.some.injEq, Prod.mk.injEq] at hv
 obtain ⟨rfl, rfl⟩ := hv
 rw [SB.val_sym, Bool.and_eq_true, decide_eq_true_eq] at hc
 refine ⟨by simp, fun w ho f => ?_⟩
 refine (Tryz.strings_Cut s sep _ w (by omega) (gMax_cell hc.2 ho)).mono ?_
 rintro en w' ⟨rfl, n, rfl⟩
 exact ⟨rfl, rfl, rfl, rfl, Nat.le_refl _, fun _ _ => rfl⟩
noncomputable def lb52 : Code := match bodyOf Tryz.f52 with
 | .seq _ (.seq _ (.seq (.seq _ (.block _ (.loop b))) _)) => b
 | _ => .skip
def G52 : List (Nat × Sx.Spec) := [(86, specV FIb)]
theorem gok52 (W : World) : GOk W Tryz.prog G52 := gok_cons (ib_ok W) (gok_nil W)
def SP52 (s : ByteArray) (v n : Int) : SL := [(0, .one (.str s)), (6, .one (.int .i64 (.sym (s.size : Int)))), (7, .one (.int .i64 (.sym v))), (3, .one (.int .i64 (.sym n)))]
def ks52 : List (Nat × Bool) := [(0, false), (6, false), (7, true), (3, true)]
noncomputable def r52 (W : World) (s : ByteArray) (v n : Int) : RG := (runG Tryz.prog W G52 100000 20 .plain lb52 (SP52 s v n) ⟨[], [], 0⟩ []).slim 0 ks52 [] [(3, true)] []
def stD (c n : Int) : Int := bits .or .i64 (gshl .i64 n 4) (bits .and .i64 (ixB c) 15)
theorem r52_eq (W : World) (s : ByteArray) (v n : Int) : r52 W s v n = .br (decide (v < (s.size : Int))) (.leaf .nrm (.sym (inStr s v)) (SP52 s (gadd .i64 v 1) (stD (byteAt s v) n)) ⟨[], [], 0⟩ []) (.leaf (.exit 0) (.lit true) [(3, .one (.int .i64 (.sym n)))] ⟨[], [], 0⟩ []) := by kernel_rfl
def ndD (s : ByteArray) : Nat → Int
 | 0 => 0
 | j + 1 => stD (byteAt s (j : Int)) (ndD s j)
theorem inStr_ok {s : ByteArray} {v : Nat} (h : v < s.size) : inStr s (v : Int) = true := by
 unfold inStr
 rw [Bool.and_eq_true, decide_eq_true_eq, decide_eq_true_eq]
 omega
def EndN (q : Int) : RG := .leaf (.exit 0) (.lit true) [(3, .one (.int .i64 (.sym q)))] ⟨[], [], 0⟩ []
theorem step52 {W : World} {s : ByteArray} (hs : s.size ≤ 4000000000) : StepOk (W : Bs) Tryz.prog G52 100000 20 .plain lb52 0 ks52 [] [(3, true)] [] (fun v : Nat => v ≤ s.size) (fun v => s.size - v) (fun v => SP52 s (v : Int) (ndD s v)) (fun _ => []) (fun _ => []) (EndN (ndD s s.size)) := by
 constructor
 intro v hv
 have hr := r52_eq W s (v : Int) (ndD s v)
 unfold r52 at hr
 rw [show (Bs.of W).W = W from rfl, hr]
 constructor
 · intro h0
   have h0 : v < s.size := by have := of_decide_eq_true h0; omega
   refine ⟨inStr_ok h0, .inl ⟨rfl, v + 1, by show v + 1 ≤ s.size; omega, by show s.size - (v + 1) < s.size - v; omega, ?_, rfl, rfl⟩⟩
   rw [gadd_nat (by omega)]
   rfl
 · intro h0
   have h0 : ¬ v < s.size := by have := of_decide_eq_false h0; omega
   have h0 : v = s.size := by omega
   subst h0
   exact ⟨rfl, .inr ⟨by simp, fun f a w hst e' he' => ⟨he', f, hst⟩⟩⟩
noncomputable def hN (ks : List (Nat × Bool)) (S0 : SL) (q : Int) : LG := ⟨ks, [], 0, fun S B g => (EndN q).addVc (.sym (@decide (S = S0 ∧ B = [] ∧ g = []) (Classical.propDecidable _)))⟩
theorem loop52 {W : World} {s : ByteArray} (hs : s.size ≤ 4000000000) : LoopGOk (W : Bs) Tryz.prog 20 lb52 (hN ks52 (SP52 s 0 0) (ndD s s.size)) := by
 intro S Bl g f ac w hgood hst
 obtain ⟨h1, h2⟩ := RG.good_addVc hgood
 have h3 := h2 (RG.good_is h1)
 rw [SB.val_sym] at h3
 obtain ⟨rfl, rfl, rfl⟩ := @of_decide_eq_true _ (Classical.propDecidable _) h3
 refine wp_mono (loopG_core (gok52 W) (fun v : Nat => v ≤ s.size) (fun _ => .plain) (fun _ _ => trivial) (fun v => s.size - v) (fun v => SP52 s (v : Int) (ndD s v)) (fun _ => []) (fun _ => []) (EndN (ndD s s.size)) [(3, true)] [] rfl rfl (step52 hs).step 0 f ac w (Nat.zero_le _) hst (fun i hi => by cases hi)) (fun e a w hp => RG.is_addVc hp)
noncomputable def t52 (s : ByteArray) (q : Int) : HG := .seq .plain (.seq .plain (.seq (.seq .plain (.block (.loop (hN ks52 (SP52 s 0 0) q)))) .plain))
noncomputable def x52 (W : World) (s : ByteArray) (q : Int) : RG := runG Tryz.prog W G52 100000 20 (t52 s q) (bodyOf Tryz.f52) (argSlots 0 [.one (.str s)]) noMem []
noncomputable def qN (S : SL) : Bool := @decide (S = S ∧ ([] : List (Nat × BI)) = [] ∧ ([] : Gh) = []) (Classical.propDecidable _)
theorem qN_true (S : SL) : qN S = true := @decide_eq_true _ (Classical.propDecidable _) ⟨rfl, rfl, rfl⟩
theorem x52_b (W : World) (s : ByteArray) (q : Int) : retOf Tryz.prog Tryz.f52.results.toList (x52 W s q) = some (.sym (qN (SP52 s 0 0)), .one (.int .i64 (.sym q)), []) := by kernel_rfl
theorem run52 (W : World) (s : ByteArray) (q : Int) : runG Tryz.prog W G52 100000 Tryz.f52.ntmps (t52 s q) (bodyOf Tryz.f52) (argSlots 0 [.one (.str s)]) noMem [] = x52 W s q := by kernel_rfl
theorem hg52 {W : World} {s : ByteArray} (hs : s.size ≤ 4000000000) : HGW (Bs.of W) Tryz.prog 20 (t52 s (ndD s s.size)) (bodyOf Tryz.f52) := by
 obtain ⟨e, he⟩ : ∃ e : Code × Code × Code × Nat × Code, bodyOf Tryz.f52 = .seq e.1 (.seq e.2.1 (.seq (.seq e.2.2.1 (.block e.2.2.2.1 (.loop lb52))) e.2.2.2.2)) :=
  ⟨match bodyOf Tryz.f52 with | .seq x1 (.seq x2 (.seq (.seq x3 (.block i _)) x4w)) => (x1, x2, x3, i, x4w) | _ => (.skip, .skip, .skip, 0, .skip), by kernel_rfl⟩
 constructor
 rw [he]
 exact ⟨trivial, trivial, ⟨trivial, loop52 hs⟩, trivial⟩
def numD (s : ByteArray) : Int := ndD s s.size
theorem num52_calls {W : World} {s : ByteArray} (hs : s.size ≤ 4000000000) : Calls Tryz.prog 52 #[.string s] W fun en w' => en = .returned (.int .i64 (numD s)) ∧ Below W.heap.size W w' := by
 have hn : Tryz.f52.ntmps = 20 := by kernel_rfl
 refine (calls_of_runW (gok52 W) (n := 100000) (g := 52) Tryz.func52 (show Tryz.f52.body = some (bodyOf Tryz.f52) by kernel_rfl) (t := t52 s (ndD s s.size)) (by rw [hn]; exact hg52 hs) (args := [.one (.str s)]) (by rw [hn]; simp) (run52 W s (ndD s s.size)) (R := fun v _ _ => v = .one (.int .i64 (.sym (ndD s s.size))))
  (retOf_all (R := fun v _ _ => v = .one (.int .i64 (.sym (ndD s s.size)))) (x52_b W s (ndD s s.size)) (by rw [SB.val_sym]; exact qN_true _) (fun _ => rfl))).mono ?_
 rintro en w' ⟨v, m, g, f, rfl, rfl, _, hb, _⟩
 exact ⟨rfl, hb⟩
def FNum (num : ByteArray → Int) : List TV → Option (SB × TV)
 | [.one (.str s)] => some (.sym (decide (s.size ≤ 4000000000)), .one (.int .i64 (.sym (num s))))
 | _ => none
theorem num52_ok (W : World) : SpecOk W Tryz.prog 52 (specV (FNum numD)) := by
 refine specV_calls ⟨Tryz.f52, Tryz.func52, by kernel_rfl, by kernel_rfl⟩ fun args c v hv hc => ?_
 unfold FNum at hv
 split at hv <;> try contradiction
 rename_i s
 simp only [Option.some.injEq, Prod.mk.injEq] at hv
 obtain ⟨rfl, rfl⟩ := hv
 rw [SB.val_sym, decide_eq_true_eq] at hc
 exact ⟨by simp, fun w _ f => num52_calls hc⟩
def stR1 (c : Int) (n : Int) (k : Nat) : Int := bif (byteAt digs (k : Int)) == c then bits .or .i64 (gshl .i64 (bits .and .i64 n 4095) 4) (k : Int) else n
def stR (c : Int) : Nat → Int → Int
 | 0, n => n
 | k + 1, n => stR1 c (stR c k n) k
def ndR (s : ByteArray) : Nat → Int
 | 0 => 0
 | j + 1 => stR (byteAt s (j : Int)) 16 (ndR s j)
def numR (s : ByteArray) : Int := ndR s s.size
end Go.Proofs.YtjmnolhkkpaodaaGreatDoor
namespace Go.Proofs.YtjmnolhkkpaodaaGreatDoor
open Go Go.Sx Go.RowKit
set_option maxRecDepth 100000
def cd81 (s : ByteArray) (v : Int) : Bool := bif decide (v = (s.size : Int)) then true else decide (byteAt s v = 32)
def wd (s : ByteArray) (b v : Int) : ByteArray := s.extract b.toNat v.toNat
def wsN (s : ByteArray) : Nat → Nat × List ByteArray
 | 0 => (0, [])
 | v + 1 => bif cd81 s (v : Int) then (v + 1, (wsN s v).2 ++ [wd s ((wsN s v).1 : Int) (v : Int)]) else wsN s v
def wdsR (s : ByteArray) : List ByteArray := (wsN s (s.size + 1)).2
structure Q81 where
 v : Nat
 oa : Option Addr
 oc : Nat
def Q81.k (s : ByteArray) (q : Q81) : Nat := (wsN s q.v).2.length
def strs (l : List ByteArray) : List SV := l.map SV.str
end Go.Proofs.YtjmnolhkkpaodaaGreatDoor
namespace Go.Proofs.YtjmnolhkkpaodaaGreatDoor
open Go Go.Sx Go.RowKit
set_option maxRecDepth 100000
theorem toL_loop (s : ByteArray) : ∀ (k i : Nat) (r : List UInt8), i + k = s.size → ByteArray.toList.loop s i r = r.reverse ++ s.data.toList.drop i
 | 0, i, r, h => by
  unfold ByteArray.toList.loop
  rw [if_neg (by omega), List.drop_eq_nil_of_le (by rw [Array.length_toList]; show s.size ≤ i; omega), List.append_nil]
 | k + 1, i, r, h => by
  unfold ByteArray.toList.loop
  have hi : i < s.data.toList.length := by rw [Array.length_toList]; show i < s.size; omega
  rw [if_pos (by omega), toL_loop s k (i + 1) _ (by omega), List.drop_eq_getElem_cons hi, List.reverse_cons, List.append_assoc]
  congr 1
  show (s.get! i) :: _ = _
  congr 1
  show s.data[i]! = _
  rw [Array.getElem_toList, getElem!_pos s.data i (by rw [← Array.length_toList]; exact hi)]
theorem toL_eq (s : ByteArray) : s.toList = s.data.toList := by
 unfold ByteArray.toList
 rw [toL_loop s s.size 0 [] (by omega)]
 rfl
def sEq (a b : ByteArray) : Bool := a.toList == b.toList
theorem sEq_eq (a b : ByteArray) : sEq a b = decide (a = b) := by
 unfold sEq
 rw [toL_eq, toL_eq]
 by_cases h : a = b
 · subst h
   simp
 · rw [decide_eq_false h, beq_eq_false_iff_ne]
   intro h2
   exact h (ByteArray.ext (Array.toList_inj.1 h2))
def stA (a : Option Addr) (v : Int) : Addr := (atRow a v 1).add 0
def stW (W : World) (a : Option Addr) (v : Int) : ByteArray := rdStr W (stA a v)
def okS (W : World) (a : Option Addr) (v : Int) : Bool := isStr W (stA a v)
structure RowS (W : World) (a : Option Addr) (n c : Nat) : Prop where
 lim : n ≤ 4000000000
 nil : a = none → n = 0
 at_ : ∀ j : Nat, j < n → okS W a j = true
def memN (W : World) (a : Option Addr) (s : ByteArray) : Nat → Bool
 | 0 => false
 | v + 1 => memN W a s v || sEq (stW W a (v : Int)) s
theorem okS_old {W w : World} {a : Option Addr} {v : Int} (h : okS W a v = true) (ho : Old W w) : okS w a v = true ∧ stW w a v = stW W a v := by
 have h1 := ho.cell (isStr_cell h)
 unfold okS stW isStr rdStr
 rw [h1]
 exact ⟨rfl, (by unfold rdStr; rfl)⟩
theorem RowS.old {W w : World} {a : Option Addr} {n c : Nat} (h : RowS W a n c) (ho : Old W w) : RowS w a n c := ⟨h.lim, h.nil, fun j hj => (okS_old (h.at_ j hj) ho).1⟩
end Go.Proofs.YtjmnolhkkpaodaaGreatDoor
