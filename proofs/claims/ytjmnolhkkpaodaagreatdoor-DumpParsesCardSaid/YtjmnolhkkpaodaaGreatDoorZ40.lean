/- A part of the proof: the reference is safe, both packages write and read alike. Several texts in one; printed by slim28.py out of the texts of wip. -/
import Derived.Test.YtjmnolhkkpaodaaGreatDoorZ39
set_option linter.all false
namespace Go.Proofs.YtjmnolhkkpaodaaGreatDoor
open Go Go.Sx Go.RowKit
set_option maxRecDepth 100000
noncomputable def lb13 : Code := match bodyOf Tryz.f13 with
 | .seq _ (.seq (.block _ (.loop b)) _) => b
 | _ => .skip
def g13 : GapSp := ⟨3, 32, 34, 35, 22, 34, 17, 32, 0⟩
def hb13 : HG := .seq .plain (.block (.seq .plain (.seq .plain (.seq .plain (.seq .plain (.seq (.gap g13) .plain))))))
def G13 (W : World) : List (Nat × Sx.Spec) := [(22, specV (FCut W)), (23, specV (F23 W))]
def SP13 (s : ByteArray) (oa : Option Addr) (k oc : Nat) (v : Int) : SL := [(0, .one (.str s)), (2, .one (.sl oa k oc)), (3, .one (.int .i64 (.sym v)))]
def ks13 : List (Nat × Bool) := [(0, false), (2, true), (3, true)]
def GP13 (oa : Option Addr) (k oc : Nat) (xs : List SV) : Gh := [⟨34, 17, oa, k, oc, xs⟩]
noncomputable def r13 (W : World) (s : ByteArray) (oa : Option Addr) (k oc : Nat) (xs : List SV) (v : Int) : RG := (runG Tryz.prog W (G13 W) 100000 38 hb13 lb13 (SP13 s oa k oc v) ⟨[], [], 0⟩ (GP13 oa k oc xs)).slim 0 ks13 [] [(2, false), (3, true), (4, true)] []
def bad13 (s : ByteArray) : Bool := bif !cutF s nlB then true else !okLd (cutL s nlB)
def gv32 (oa : Option Addr) (k oc : Nat) : Bool := (decide (oa = oa) && (decide (k = k) && decide (oc = oc))) && (decide (k + 1 ≤ maxLen) && decide ((k + 1) * 32 ≤ 140737488355328))
def l4 (s : ByteArray) : Bool := decide (s.size ≤ 4000000000)
def cA13 (W : World) (s : ByteArray) : Bool := (l4 s && gMax W) && (lim3 (cutL s nlB) && gMax W)
def cB13 (W : World) (s : ByteArray) (oa : Option Addr) (k oc : Nat) : Bool := (l4 s && gMax W) && ((lim3 (cutL s nlB) && gMax W) && gv32 oa k oc)
def X13 (oa : Option Addr) (k oc : Nat) (xs : List SV) (v : Int) : RG := .leaf (.exit 0) (.lit true) [(2, .one (.sl oa k oc)), (3, .one (.int .i64 (.sym v)))] ⟨[], [], 0⟩ (GP13 oa k oc xs)
def R13 (c : SB) (oa : Option Addr) (k oc : Nat) (xs : List SV) (v : Int) : RG := .leaf .ret c [(2, .one (.sl none 0 0)), (3, .one (.int .i64 (.sym v))), (4, .one (.int .i64 (.sym 2)))] ⟨[], [], 0⟩ (GP13 oa k oc xs)
theorem r13_eq (W : World) (s : ByteArray) (oa : Option Addr) (k oc : Nat) (xs : List SV) (v : Int) : r13 W s oa k oc xs v = .br (!sEq s emp) (.br (bad13 s) (R13 (.sym (cA13 W s)) oa k oc xs (gadd .i64 v 1))
  (.any fun a' c' => .leaf .nrm (.sym (cB13 W s oa k oc)) (SP13 (cutR s nlB) a' (k + 1) c' (gadd .i64 v 1)) ⟨[], [], 0⟩ (GP13 a' (k + 1) c' (xs ++ (rdLd (cutL s nlB)).cells)))) (X13 oa k oc xs v) := by kernel_rfl
def cellsL (l : List Rq) : List SV := l.flatMap Rq.cells
theorem cellsL_snoc (l : List Rq) (r : Rq) : cellsL l ++ r.cells = cellsL (l ++ [r]) := by
 unfold cellsL
 rw [List.flatMap_append, List.flatMap_singleton]
theorem cellsL_length (l : List Rq) : (cellsL l).length = l.length * 17 := by
 induction l with
 | nil => rfl
 | cons r l ih =>
  have e : cellsL (r :: l) = r.cells ++ cellsL l := rfl
  rw [e, List.length_append, ih, List.length_cons]
  have : r.cells.length = 17 := rfl
  omega
def pD : Nat → ByteArray → List Rq → Bool × List Rq
 | 0, _, l => (true, l)
 | k + 1, s, l => bif sEq s emp then (true, l) else bif bad13 s then (false, l) else pD k (cutR s nlB) (l ++ [rdLd (cutL s nlB)])
theorem cut_nl (s : ByteArray) : (cutF s nlB = false) ∨ (cutF s nlB = true ∧ ∃ i, i + 1 ≤ s.size ∧ cutL s nlB = s.extract 0 i ∧ cutR s nlB = s.extract (i + 1) s.size ∧ Lib.indexB s nlB = i) := by
 rcases Lib.indexB_cases s nlB with h | ⟨i, h, hi⟩
 · exact .inl (Lib.cutB_miss s nlB h).2.2
 · obtain ⟨h1, h2, h3⟩ := Lib.cutB_hit s nlB i h
   exact .inr ⟨h3, i, hi, h1, h2, h⟩
theorem sEq_emp {s : ByteArray} (h : sEq s emp = false) : 1 ≤ s.size := by
 rw [sEq_eq, decide_eq_false_iff_not] at h
 rcases Nat.eq_zero_or_pos s.size with h0 | h0
 · exfalso
   refine h (ByteArray.ext (Array.toList_inj.1 ?_))
   have : s.data.toList.length = 0 := by rw [Array.length_toList]; exact h0
   rw [List.length_eq_zero_iff.1 this]
   rfl
 · exact h0
theorem bad13_no {s : ByteArray} (h : bad13 s = false) : cutF s nlB = true ∧ okLd (cutL s nlB) = true := by
 unfold bad13 at h
 cases hf : cutF s nlB
 · rw [hf] at h; cases h
 · rw [hf] at h
   exact ⟨rfl, by simpa using h⟩
theorem cutL_le (s : ByteArray) : (cutL s nlB).size ≤ s.size := by
 rcases Lib.indexB_cases s nlB with h | ⟨i, h, hi⟩
 · have : cutL s nlB = s := (Lib.cutB_miss s nlB h).1
   rw [this]
   exact Nat.le_refl _
 · have : cutL s nlB = s.extract 0 i := (Lib.cutB_hit s nlB i h).1
   rw [this, ByteArray.size_extract]
   omega
theorem cutR_lt {s : ByteArray} (h : cutF s nlB = true) : (cutR s nlB).size + 1 ≤ s.size := by
 rcases cut_nl s with h1 | ⟨_, i, h2, _, h3, _⟩
 · rw [h1] at h; cases h
 · rw [h3, ByteArray.size_extract]
   omega
structure Pa where
 l : List Rq
 ln : Int
 er : Int
def paOf (F : Bool × List Rq) : Pa := bif F.1 then ⟨F.2, 0, 0⟩ else ⟨[], ((F.2.length + 1 : Nat) : Int), 2⟩
structure Q13 where
 s : ByteArray
 l : List Rq
 oa : Option Addr
 oc : Nat
structure Inv13 (s : ByteArray) (F : Bool × List Rq) (q : Q13) : Prop where
 le : q.l.length + q.s.size ≤ s.size
 go : ∃ k, q.s.size ≤ k ∧ pD k q.s q.l = F
def End13 (F : Bool × List Rq) : RG := match F.1 with
 | true => .any fun a c => X13 a F.2.length c (cellsL F.2) (F.2.length : Int)
 | false => .leaf .ret (.lit true) [(2, .one (.sl none 0 0)), (3, .one (.int .i64 (.sym ((F.2.length + 1 : Nat) : Int)))), (4, .one (.int .i64 (.sym 2)))] ⟨[], [], 0⟩ []
theorem gv32_ok {oa : Option Addr} {k oc : Nat} (h : (k + 1) * 32 ≤ 140737488355328) : gv32 oa k oc = true := by
 unfold gv32
 have hm : maxLen = 9223372036854775807 := by decide
 simp only [decide_true, Bool.true_and, Bool.and_eq_true, decide_eq_true_eq, Bool.and_self]
 omega
theorem gst_noG {W : Bs} {nt : Nat} {s : SL} {m : Mem} {g : Gh} {f : Nat → Nat} {a : Act} {w : World} (h : GSt W nt s m g f a w) : GSt W nt s m [] f a w := by
 refine ⟨h.size, h.defers, h.slots, h.mem, h.base, h.fr, h.pin, ?_, ?_, ?_, ?_⟩
 · intro q o ho; simp at ho
 · intro q o ho; simp at ho
 · intro q o ho; simp at ho
 · intro q q' o p ho; simp at ho
theorem step13 {W : World} {s : ByteArray} (hs : lim3 s = true) (hm : gMax W = true) (F : Bool × List Rq) : StepOk (W : Bs) Tryz.prog (G13 W) 100000 38 hb13 lb13 0 ks13 [] [(2, false), (3, true), (4, true)] [] (Inv13 s F) (fun q => q.s.size) (fun q => SP13 q.s q.oa q.l.length q.oc (q.l.length : Int)) (fun _ => []) (fun q => GP13 q.oa q.l.length q.oc (cellsL q.l)) (End13 F) := by
 constructor
 rintro ⟨t, l, oa, oc⟩ ⟨hle, k, hk, hF⟩
 have hlim := of_decide_eq_true hs
 dsimp only at hle hk hF ⊢
 have hr := r13_eq W t oa l.length oc (cellsL l) (l.length : Int)
 unfold r13 at hr
 rw [show (Bs.of W).W = W from rfl, hr]
 have hcl := cutL_le t
 have hA : cA13 W t = true := by
  unfold cA13 l4 lim3
  rw [hm, decide_eq_true (by omega), decide_eq_true (by omega)]
  rfl
 refine ⟨fun h0 => ?_, fun h0 => ?_⟩
 · have h1 : sEq t emp = false := by simpa using h0
   have hsz := sEq_emp h1
   obtain ⟨k, rfl⟩ : ∃ k', k = k' + 1 := ⟨k - 1, by omega⟩
   have hF' : (bif sEq t emp then (true, l) else bif bad13 t then (false, l) else pD k (cutR t nlB) (l ++ [rdLd (cutL t nlB)])) = F := hF
   rw [h1, cond_false] at hF'
   have hg := gadd_nat (v := l.length) (by omega)
   refine ⟨fun hb => ?_, fun hb => ?_⟩
   · rw [hb, cond_true] at hF'
     subst hF'
     refine ⟨by rw [SB.val_sym]; exact hA, .inr ⟨by simp, fun f a w hst e' he' => ?_⟩⟩
     rw [hg] at hst
     exact ⟨he', f, gst_noG hst⟩
   · rw [hb, cond_false] at hF'
     obtain ⟨hf, hok⟩ := bad13_no hb
     have hcr := cutR_lt hf
     intro a' c'
     refine ⟨?_, .inl ⟨rfl, ⟨cutR t nlB, l ++ [rdLd (cutL t nlB)], a', c'⟩, ⟨?_, k, by show (cutR t nlB).size ≤ k; omega, hF'⟩, by show (cutR t nlB).size < t.size; omega, ?_, rfl, ?_⟩⟩
     · rw [SB.val_sym]
       unfold cB13 l4 lim3
       rw [hm, decide_eq_true (by omega), decide_eq_true (by omega), gv32_ok (by omega)]
       rfl
     · show (l ++ [rdLd (cutL t nlB)]).length + (cutR t nlB).size ≤ s.size
       rw [List.length_append, List.length_singleton]
       omega
     · rw [hg, List.length_append, List.length_singleton]
     · rw [cellsL_snoc, List.length_append, List.length_singleton]
 · have h1 : sEq t emp = true := by simpa using h0
   have hF' : F = (true, l) := by
    rw [← hF]
    cases k with
    | zero => rfl
    | succ k =>
     show (bif sEq t emp then (true, l) else _) = _
     rw [h1]
     rfl
   subst hF'
   exact ⟨rfl, .inr ⟨by simp, fun f a w hst e' he' => ⟨oa, oc, he', f, hst⟩⟩⟩
noncomputable def h13w (s : ByteArray) (E : RG) : LG := .at_ true ks13 [] 0 (SP13 s none 0 0 0) [] [] E
theorem hgb13 : hgB Tryz.prog 38 hb13 lb13 = true := by kernel_rfl
theorem gok13 (W : World) : GOk W Tryz.prog (G13 W) := gok_cons (cut_ok W) (gok_cons (read23_ok W) (gok_nil W))
def FD (s : ByteArray) : Bool × List Rq := pD s.size s []
def paD (s : ByteArray) : Pa := paOf (FD s)
theorem loop13 {W : World} {s : ByteArray} (hs : lim3 s = true) (hm : gMax W = true) : LoopGOk (W : Bs) Tryz.prog 38 lb13 (h13w s (End13 (FD s))) := by
 refine loopG_step (t := hb13) (gok13 W) (hgB_ok (W := (W : Bs)) (P := Tryz.prog) (nt := 38) hb13 lb13 hgb13) rfl rfl (step13 hs hm (FD s)) ?_
 intro _
 exact ⟨⟨s, [], none, 0⟩, ⟨by show 0 + s.size ≤ s.size; omega, s.size, Nat.le_refl _, rfl⟩, rfl, rfl, .inr ⟨34, 17, rfl⟩⟩
noncomputable def t13 (s : ByteArray) (E : RG) : HG := .seq .plain (.seq (.block (.loop (h13w s E))) .plain)
noncomputable def x13w (W : World) (s : ByteArray) (E : RG) : RG := (runG Tryz.prog W (G13 W) 100000 38 (t13 s E) (bodyOf Tryz.f13) (argSlots 0 [.one (.str s)]) noMem []).slim 0 [] [] [(2, false), (3, true), (4, true)] []
noncomputable def v13 (s : ByteArray) : Bool := true && (sameS (SP13 s none 0 0 0) (SP13 s none 0 0 0) && (sameB [] [] && @decide (([] : Gh) = []) (Classical.propDecidable _)))
def PR3 (c : SB) (a : Option Addr) (n k : Nat) (ln er : Int) (g : Gh) : RG := .leaf .ret c [(2, .one (.sl a n k)), (3, .one (.int .i64 (.sym ln))), (4, .one (.int .i64 (.sym er)))] ⟨[], [], 0⟩ g
theorem x13_t (W : World) (s : ByteArray) (l : List Rq) : x13w W s (End13 (true, l)) = .any fun a c => PR3 (.sym (v13 s)) a l.length c 0 0 (GP13 a l.length c (cellsL l)) := by kernel_rfl
theorem x13_f (W : World) (s : ByteArray) (l : List Rq) : x13w W s (End13 (false, l)) = PR3 (.sym (v13 s)) none 0 0 ((l.length + 1 : Nat) : Int) 2 [] := by kernel_rfl
theorem v13_ok (s : ByteArray) : v13 s = true := by
 unfold v13
 rw [sameS_refl (by rfl), sameB_refl (by rfl), @decide_eq_true _ (Classical.propDecidable _) rfl]
 rfl
def valsL (l : List Rq) : List Value := (cellsL l).map (SV.den fun _ => 0)
def PaC (W : World) (g : FuncId) (s : ByteArray) (p : Pa) : Prop := Calls Tryz.prog g #[.string s] W fun en w' =>
 ∃ a' c', en = .returned (.tuple #[.slice a' p.l.length c', .int .i64 p.ln, .int .i64 p.er]) ∧ w'.ownsRow W.heap.size 34 17 (.slice a' p.l.length c') p.l.length (valsL p.l) ∧ Below W.heap.size W w'
theorem parse13_calls {W : World} {s : ByteArray} (hs : lim3 s = true) (hm : gMax W = true) : PaC W 13 s (paD s) := by
 have hn : Tryz.f13.ntmps = 38 := by kernel_rfl
 have hcalls := calls_of_runG (gok13 W) (n := 100000) (g := 13) Tryz.func13 (show Tryz.f13.body = some (bodyOf Tryz.f13) by kernel_rfl) (t := t13 s (End13 (FD s))) (args := [.one (.str s)]) ?_ (by rw [hn]; simp)
  (R := fun v g => ∃ a' c', v = .tup [(false, [.sl a' (paD s).l.length c']), (false, [.int .i64 (.sym (paD s).ln)]), (false, [.int .i64 (.sym (paD s).er)])] ∧ (g = GP13 a' (paD s).l.length c' (cellsL (paD s).l) ∨ (a' = none ∧ c' = 0 ∧ (paD s).l = []))) (N := 0) (ks := []) (bs := []) (ke := [(2, false), (3, true), (4, true)]) (be := []) rfl rfl ?_
 · refine hcalls.mono ?_
   rintro en w' ⟨v, g, f, ⟨a', c', rfl, hg⟩, rfl, hown, hb⟩
   refine ⟨a', c', rfl, ?_, hb⟩
   rcases hg with rfl | ⟨rfl, rfl, hl⟩
   · exact hown 0 _ rfl
   · rw [hl]
     exact World.ownsRow_nil _ _ _ _
 · have e : HGOk (W : Bs) Tryz.prog Tryz.f13.ntmps (t13 s (End13 (FD s))) (bodyOf Tryz.f13) = (True ∧ LoopGOk (W : Bs) Tryz.prog 38 lb13 (h13w s (End13 (FD s))) ∧ True) := by kernel_rfl
   rw [e]
   exact ⟨trivial, loop13 hs hm, trivial⟩
 · rw [hn]
   show (x13w W s (End13 (FD s))).All _
   have hp : paD s = paOf (FD s) := rfl
   cases hF : FD s with
   | mk ok l =>
    rw [hF] at hp
    cases ok with
    | true =>
     rw [x13_t, hp]
     intro a' c'
     exact ⟨by rw [SB.val_sym, v13_ok], .inr rfl, [(false, [.sl a' l.length c']), (false, [.int .i64 (.sym 0)]), (false, [.int .i64 (.sym 0)])], .tup [(false, [.sl a' l.length c']), (false, [.int .i64 (.sym 0)]), (false, [.int .i64 (.sym 0)])], by kernel_rfl, rfl, a', c', rfl, .inl rfl⟩
    | false =>
     rw [x13_f, hp]
     exact ⟨by rw [SB.val_sym, v13_ok], .inr rfl, [(false, [.sl none 0 0]), (false, [.int .i64 (.sym ((l.length + 1 : Nat) : Int))]), (false, [.int .i64 (.sym 2)])], .tup [(false, [.sl none 0 0]), (false, [.int .i64 (.sym ((l.length + 1 : Nat) : Int))]), (false, [.int .i64 (.sym 2)])], by kernel_rfl, rfl, none, 0, rfl, .inr ⟨rfl, rfl, rfl⟩⟩
end Go.Proofs.YtjmnolhkkpaodaaGreatDoor
namespace Go.Proofs.YtjmnolhkkpaodaaGreatDoor
open Go Go.Sx Go.RowKit
set_option maxRecDepth 100000
noncomputable def lb21 : Code := match bodyOf Tryz.f21 with
 | .seq _ (.seq _ (.seq _ (.seq (.seq _ (.block _ (.loop b))) _))) => b
 | _ => .skip
def g21 : GapSp := ⟨3, 38, 40, 41, 22, 34, 17, 32, 0⟩
def hb21 : HG := .seq .plain (.seq (.block (.seq .plain (.seq .plain (.seq .plain (.seq (.gap g21) .plain))))) .plain)
def G21 : List (Nat × Sx.Spec) := [(49, specV F49), (20, specV F20)]
def SP21 (s : ByteArray) (oa : Option Addr) (k oc : Nat) (b n v : Int) : SL := [(0, .one (.str s)), (5, .one (.sl oa k oc)), (6, .one (.int .i64 (.sym b))), (7, .one (.int .i64 (.sym n))), (8, .one (.int .i64 (.sym v)))]
def ks21 : List (Nat × Bool) := [(0, false), (5, true), (6, true), (7, true), (8, true)]
noncomputable def r21 (W : World) (s : ByteArray) (oa : Option Addr) (k oc : Nat) (xs : List SV) (b n v : Int) : RG := (runG Tryz.prog W G21 100000 52 hb21 lb21 (SP21 s oa k oc b n v) ⟨[], [], 0⟩ (GP13 oa k oc xs)).slim 0 ks21 [] [(0, false), (2, false), (3, true), (4, true), (5, false), (6, false), (7, false)] []
def Rq.pw (r : Rq) : PinV := pvB r.st r.a r.d r.b
def bad21 (ln : ByteArray) : Bool := bif decide ((rdLn ln).st = 0) then true else !sEq (rdLn ln).pw.txt ln
def cN21 (s : ByteArray) (b v : Int) (oa : Option Addr) (k oc : Nat) : Bool := inStr s v && ((sl81 s b v && lim3 (wd s b v)) && ((bif decide ((rdLn (wd s b v)).st = 0) then true else sl81 s b v) && gv32 oa k oc))
def cR21 (s : ByteArray) (b v : Int) : Bool := inStr s v && ((sl81 s b v && lim3 (wd s b v)) && (bif decide ((rdLn (wd s b v)).st = 0) then true else sl81 s b v))
def Rt21 (c : SB) (s : ByteArray) (oa : Option Addr) (k oc : Nat) (xs : List SV) (b n : Int) : RG := .leaf .ret c [(0, .one (.str s)), (2, .one (.sl none 0 0)), (3, .one (.int .i64 (.sym n))), (4, .one (.int .i64 (.sym 2))), (5, .one (.sl oa k oc)), (6, .one (.int .i64 (.sym b))), (7, .one (.int .i64 (.sym n)))] ⟨[], [], 0⟩ (GP13 oa k oc xs)
def X21 (s : ByteArray) (oa : Option Addr) (k oc : Nat) (xs : List SV) (b n : Int) : RG := .leaf (.exit 0) (.lit true) [(0, .one (.str s)), (5, .one (.sl oa k oc)), (6, .one (.int .i64 (.sym b))), (7, .one (.int .i64 (.sym n)))] ⟨[], [], 0⟩ (GP13 oa k oc xs)
theorem r21_eq (W : World) (s : ByteArray) (oa : Option Addr) (k oc : Nat) (xs : List SV) (b n v : Int) : r21 W s oa k oc xs b n v = .br (decide (v < (s.size : Int)))
  (.br (!decide (byteAt s v = 10)) (.leaf .nrm (.sym (inStr s v)) (SP21 s oa k oc b n (gadd .i64 v 1)) ⟨[], [], 0⟩ (GP13 oa k oc xs))
   (.br (bad21 (wd s b v)) (Rt21 (.sym (cR21 s b v)) s oa k oc xs b n)
    (.any fun a' c' => .leaf .nrm (.sym (cN21 s b v oa k oc)) (SP21 s a' (k + 1) c' (gadd .i64 v 1) (gadd .i64 n 1) (gadd .i64 v 1)) ⟨[], [], 0⟩ (GP13 a' (k + 1) c' (xs ++ (rdLn (wd s b v)).cells)))))
  (X21 s oa k oc xs b n) := by kernel_rfl
structure Pr where
 ok : Bool
 l : List Rq
 b : Nat
def pR (s : ByteArray) : Nat → Nat → Nat → List Rq → Pr
 | 0, _, b, l => ⟨true, l, b⟩
 | k + 1, v, b, l => bif !decide (byteAt s (v : Int) = 10) then pR s k (v + 1) b l else bif bad21 (wd s (b : Int) (v : Int)) then ⟨false, l, b⟩ else pR s k (v + 1) (v + 1) (l ++ [rdLn (wd s (b : Int) (v : Int))])
structure Q21 where
 v : Nat
 b : Nat
 l : List Rq
 oa : Option Addr
 oc : Nat
structure Inv21 (s : ByteArray) (F : Pr) (q : Q21) : Prop where
 le : q.v ≤ s.size
 bv : q.b ≤ q.v
 lv : q.l.length ≤ q.v
 go : pR s (s.size - q.v) q.v q.b q.l = F
def End21 (s : ByteArray) (F : Pr) : RG := match F.ok with
 | true => .any fun a c => X21 s a F.l.length c (cellsL F.l) (F.b : Int) ((F.l.length + 1 : Nat) : Int)
 | false => .leaf .ret (.lit true) [(2, .one (.sl none 0 0)), (3, .one (.int .i64 (.sym ((F.l.length + 1 : Nat) : Int)))), (4, .one (.int .i64 (.sym 2)))] ⟨[], [], 0⟩ []
theorem step21 {W : World} {s : ByteArray} (hs : lim3 s = true) (F : Pr) : StepOk (W : Bs) Tryz.prog G21 100000 52 hb21 lb21 0 ks21 [] [(0, false), (2, false), (3, true), (4, true), (5, false), (6, false), (7, false)] [] (Inv21 s F) (fun q => s.size - q.v) (fun q => SP21 s q.oa q.l.length q.oc (q.b : Int) ((q.l.length + 1 : Nat) : Int) (q.v : Int)) (fun _ => []) (fun q => GP13 q.oa q.l.length q.oc (cellsL q.l)) (End21 s F) := by
 constructor
 rintro ⟨v, b, l, oa, oc⟩ ⟨hv, hbv, hlv, hF⟩
 have hlim := of_decide_eq_true hs
 dsimp only at hv hbv hlv hF ⊢
 have hr := r21_eq W s oa l.length oc (cellsL l) (b : Int) ((l.length + 1 : Nat) : Int) (v : Int)
 unfold r21 at hr
 rw [show (Bs.of W).W = W from rfl, hr]
 refine ⟨fun h0 => ?_, fun h0 => ?_⟩
 · have h0 : v < s.size := by have := of_decide_eq_true h0; omega
   have hin := inStr_ok h0
   have hgv := gadd_nat (v := v) (by omega)
   have hgn := gadd_nat (v := l.length + 1) (by omega)
   have hsl : sl81 s (b : Int) (v : Int) = true := by
    unfold sl81
    rw [decide_eq_true (by omega), decide_eq_true (by omega), decide_eq_true (by omega)]
    rfl
   have hl3 : lim3 (wd s (b : Int) (v : Int)) = true := by
    unfold lim3 wd
    rw [ByteArray.size_extract]
    exact decide_eq_true (by omega)
   have hc : (bif decide ((rdLn (wd s (b : Int) (v : Int))).st = 0) then true else sl81 s (b : Int) (v : Int)) = true := by
    rw [hsl]
    cases decide ((rdLn (wd s (b : Int) (v : Int))).st = 0) <;> rfl
   obtain ⟨k, hk⟩ : ∃ k, s.size - v = k + 1 := ⟨s.size - v - 1, by omega⟩
   have hk' : s.size - (v + 1) = k := by omega
   rw [hk] at hF
   have hF' : (bif !decide (byteAt s (v : Int) = 10) then pR s k (v + 1) b l else bif bad21 (wd s (b : Int) (v : Int)) then ⟨false, l, b⟩ else pR s k (v + 1) (v + 1) (l ++ [rdLn (wd s (b : Int) (v : Int))])) = F := hF
   refine ⟨fun hn => ?_, fun hn => ?_⟩
   · rw [hn, cond_true] at hF'
     exact ⟨by rw [SB.val_sym]; exact hin, .inl ⟨rfl, ⟨v + 1, b, l, oa, oc⟩, ⟨by dsimp only; omega, by dsimp only; omega, by dsimp only; omega, by dsimp only; rw [hk']; exact hF'⟩, by dsimp only; omega, by rw [hgv], rfl, rfl⟩⟩
   · rw [hn, cond_false] at hF'
     refine ⟨fun hb => ?_, fun hb => ?_⟩
     · rw [hb, cond_true] at hF'
       subst hF'
       refine ⟨?_, .inr ⟨by simp, fun f a w hst e' he' => ⟨he', f, gst_noG (hst.fewer fun t x hx => ?_)⟩⟩⟩
       · rw [SB.val_sym]
         unfold cR21
         rw [hin, hsl, hl3]
         cases decide ((rdLn (wd s (b : Int) (v : Int))).st = 0) <;> rfl
       · rw [look_cons] at hx
         split at hx
         · rename_i e; subst e; exact hx
         · rw [look_cons] at hx
           split at hx
           · rename_i e; subst e; exact hx
           · rw [look_cons] at hx
             split at hx
             · rename_i e; subst e; exact hx
             · simp [Sx.look] at hx
     · rw [hb, cond_false] at hF'
       intro a' c'
       refine ⟨?_, .inl ⟨rfl, ⟨v + 1, v + 1, l ++ [rdLn (wd s (b : Int) (v : Int))], a', c'⟩, ⟨by dsimp only; omega, by dsimp only; omega, by dsimp only; rw [List.length_append, List.length_singleton]; omega, by dsimp only; rw [hk']; exact hF'⟩, by dsimp only; omega, ?_, rfl, ?_⟩⟩
       · rw [SB.val_sym]
         unfold cN21
         rw [hin, hsl, hl3, gv32_ok (by omega)]
         cases decide ((rdLn (wd s (b : Int) (v : Int))).st = 0) <;> rfl
       · rw [hgv, hgn, List.length_append, List.length_singleton]
       · rw [cellsL_snoc, List.length_append, List.length_singleton]
 · have h0 := of_decide_eq_false h0
   have hv' : s.size - v = 0 := by omega
   rw [hv'] at hF
   have hF' : F = ⟨true, l, b⟩ := hF.symm
   subst hF'
   exact ⟨rfl, .inr ⟨by simp, fun f a w hst e' he' => ⟨oa, oc, he', f, hst⟩⟩⟩
noncomputable def h21w (s : ByteArray) (E : RG) : LG := .at_ true ks21 [] 0 (SP21 s none 0 0 0 1 0) [] [] E
theorem hgb21 : hgB Tryz.prog 52 hb21 lb21 = true := by kernel_rfl
theorem gok21 (W : World) : GOk W Tryz.prog G21 := gok_cons (read49_ok W) (gok_cons (rec_ok W) (gok_nil W))
def FR (s : ByteArray) : Pr := pR s s.size 0 0 []
def paR (s : ByteArray) : Pa := paOf ((FR s).ok && !decide ((FR s).b < s.size), (FR s).l)
theorem loop21 {W : World} {s : ByteArray} (hs : lim3 s = true) : LoopGOk (W : Bs) Tryz.prog 52 lb21 (h21w s (End21 s (FR s))) := by
 refine loopG_step (t := hb21) (gok21 W) (hgB_ok (W := (W : Bs)) (P := Tryz.prog) (nt := 52) hb21 lb21 hgb21) rfl rfl (step21 hs (FR s)) ?_
 intro _
 exact ⟨⟨0, 0, [], none, 0⟩, ⟨Nat.zero_le _, Nat.le_refl _, Nat.le_refl _, by dsimp only; rw [Nat.sub_zero]; rfl⟩, rfl, rfl, .inr ⟨34, 17, rfl⟩⟩
noncomputable def t21 (s : ByteArray) (E : RG) : HG := .seq .plain (.seq .plain (.seq .plain (.seq (.seq .plain (.block (.loop (h21w s E)))) .plain)))
noncomputable def x21w (W : World) (s : ByteArray) (E : RG) : RG := (runG Tryz.prog W G21 100000 52 (t21 s E) (bodyOf Tryz.f21) (argSlots 0 [.one (.str s)]) noMem []).slim 0 [] [] [(2, false), (3, true), (4, true)] []
noncomputable def v21 (s : ByteArray) : Bool := true && (sameS (SP21 s none 0 0 0 1 0) (SP21 s none 0 0 0 1 0) && (sameB [] [] && @decide (([] : Gh) = []) (Classical.propDecidable _)))
theorem x21_t (W : World) (s : ByteArray) (l : List Rq) (b : Nat) : x21w W s (End21 s ⟨true, l, b⟩) = .any fun a c => .br (decide ((b : Int) < (s.size : Int))) (PR3 (.sym (v21 s)) none 0 0 ((l.length + 1 : Nat) : Int) 2 (GP13 a l.length c (cellsL l))) (PR3 (.sym (v21 s)) a l.length c 0 0 (GP13 a l.length c (cellsL l))) := by kernel_rfl
theorem x21_f (W : World) (s : ByteArray) (l : List Rq) (b : Nat) : x21w W s (End21 s ⟨false, l, b⟩) = PR3 (.sym (v21 s)) none 0 0 ((l.length + 1 : Nat) : Int) 2 [] := by kernel_rfl
theorem v21_ok (s : ByteArray) : v21 s = true := by
 unfold v21
 rw [sameS_refl (by rfl), sameB_refl (by rfl), @decide_eq_true _ (Classical.propDecidable _) rfl]
 rfl
theorem parse21_calls {W : World} {s : ByteArray} (hs : lim3 s = true) : PaC W 21 s (paR s) := by
 have hn : Tryz.f21.ntmps = 52 := by kernel_rfl
 have hcalls := calls_of_runG (gok21 W) (n := 100000) (g := 21) Tryz.func21 (show Tryz.f21.body = some (bodyOf Tryz.f21) by kernel_rfl) (t := t21 s (End21 s (FR s))) (args := [.one (.str s)]) ?_ (by rw [hn]; simp)
  (R := fun v g => ∃ a' c', v = .tup [(false, [.sl a' (paR s).l.length c']), (false, [.int .i64 (.sym (paR s).ln)]), (false, [.int .i64 (.sym (paR s).er)])] ∧ (g = GP13 a' (paR s).l.length c' (cellsL (paR s).l) ∨ (a' = none ∧ c' = 0 ∧ (paR s).l = []))) (N := 0) (ks := []) (bs := []) (ke := [(2, false), (3, true), (4, true)]) (be := []) rfl rfl ?_
 · refine hcalls.mono ?_
   rintro en w' ⟨v, g, f, ⟨a', c', rfl, hg⟩, rfl, hown, hb⟩
   refine ⟨a', c', rfl, ?_, hb⟩
   rcases hg with rfl | ⟨rfl, rfl, hl⟩
   · exact hown 0 _ rfl
   · rw [hl]
     exact World.ownsRow_nil _ _ _ _
 · have e : HGOk (W : Bs) Tryz.prog Tryz.f21.ntmps (t21 s (End21 s (FR s))) (bodyOf Tryz.f21) = (True ∧ True ∧ True ∧ (True ∧ LoopGOk (W : Bs) Tryz.prog 52 lb21 (h21w s (End21 s (FR s)))) ∧ True) := by kernel_rfl
   rw [e]
   exact ⟨trivial, trivial, trivial, ⟨trivial, loop21 hs⟩, trivial⟩
 · rw [hn]
   show (x21w W s (End21 s (FR s))).All _
   have hp : paR s = paOf ((FR s).ok && !decide ((FR s).b < s.size), (FR s).l) := rfl
   cases hF : FR s with
   | mk ok l b =>
    rw [hF] at hp
    dsimp only at hp
    cases ok with
    | true =>
     rw [x21_t]
     intro a' c'
     refine ⟨fun h0 => ?_, fun h0 => ?_⟩
     · have h0 := of_decide_eq_true h0
       rw [decide_eq_true (show b < s.size by omega)] at hp
       rw [hp]
       exact ⟨by rw [SB.val_sym, v21_ok], .inr rfl, [(false, [.sl none 0 0]), (false, [.int .i64 (.sym ((l.length + 1 : Nat) : Int))]), (false, [.int .i64 (.sym 2)])], .tup [(false, [.sl none 0 0]), (false, [.int .i64 (.sym ((l.length + 1 : Nat) : Int))]), (false, [.int .i64 (.sym 2)])], by kernel_rfl, rfl, none, 0, rfl, .inr ⟨rfl, rfl, rfl⟩⟩
     · have h0 := of_decide_eq_false h0
       rw [decide_eq_false (show ¬ b < s.size by omega)] at hp
       rw [hp]
       exact ⟨by rw [SB.val_sym, v21_ok], .inr rfl, [(false, [.sl a' l.length c']), (false, [.int .i64 (.sym 0)]), (false, [.int .i64 (.sym 0)])], .tup [(false, [.sl a' l.length c']), (false, [.int .i64 (.sym 0)]), (false, [.int .i64 (.sym 0)])], by kernel_rfl, rfl, a', c', rfl, .inl rfl⟩
    | false =>
     rw [x21_f, hp]
     exact ⟨by rw [SB.val_sym, v21_ok], .inr rfl, [(false, [.sl none 0 0]), (false, [.int .i64 (.sym ((l.length + 1 : Nat) : Int))]), (false, [.int .i64 (.sym 2)])], .tup [(false, [.sl none 0 0]), (false, [.int .i64 (.sym ((l.length + 1 : Nat) : Int))]), (false, [.int .i64 (.sym 2)])], by kernel_rfl, rfl, none, 0, rfl, .inr ⟨rfl, rfl, rfl⟩⟩
end Go.Proofs.YtjmnolhkkpaodaaGreatDoor
namespace Go.Proofs.YtjmnolhkkpaodaaGreatDoor
open Go Go.Sx Go.RowKit
set_option maxRecDepth 100000
noncomputable def lb14 : Code := match bodyOf Tryz.f14 with
 | .seq _ (.seq _ (.seq (.seq _ (.block _ (.loop b))) _)) => b
 | _ => .skip
def SP14 (a : Option Addr) (n c : Nat) (a' : Option Addr) (n' c' : Nat) (v : Int) : SL := [(0, .one (.sl a n c)), (1, .one (.sl a' n' c')), (12, .one (.int .i64 (.sym (n : Int)))), (13, .one (.int .i64 (.sym v)))]
def ks14 : List (Nat × Bool) := [(0, false), (1, false), (12, false), (13, true)]
noncomputable def r14 (W : World) (a : Option Addr) (n c : Nat) (a' : Option Addr) (n' c' : Nat) (v : Int) : RG := (runG Tryz.prog W [] 100000 26 .plain lb14 (SP14 a n c a' n' c' v) ⟨[], [], 0⟩ []).slim 0 ks14 [] [(4, false)] []
def eqA (W : World) (a a' : Option Addr) (v : Int) : Bool := (rdInt W (adP a v 0) == rdInt W (adP a' v 0)) && ((rdInt W (adP a v 1) == rdInt W (adP a' v 1)) && ((rdInt W (adP a v 2) == rdInt W (adP a' v 2)) && ((rdBool W (adP a v 3) == rdBool W (adP a' v 3)) && ((rdBool W (adP a v 4) == rdBool W (adP a' v 4)) && ((rdBool W (adP a v 5) == rdBool W (adP a' v 5)) && ((rdBool W (adP a v 6) == rdBool W (adP a' v 6)) && ((rdBool W (adP a v 7) == rdBool W (adP a' v 7)) && ((rdBool W (adP a v 8) == rdBool W (adP a' v 8)) && ((rdBool W (adP a v 9) == rdBool W (adP a' v 9)) && ((rdBool W (adP a v 10) == rdBool W (adP a' v 10)) && ((rdBool W (adP a v 11) == rdBool W (adP a' v 11)) && ((rdBool W (adP a v 12) == rdBool W (adP a' v 12)) && ((rdBool W (adP a v 13) == rdBool W (adP a' v 13)) && ((rdBool W (adP a v 14) == rdBool W (adP a' v 14)) && ((rdBool W (adP a v 15) == rdBool W (adP a' v 15)) && ((rdBool W (adP a v 16) == rdBool W (adP a' v 16))))))))))))))))))
def cS14 (W : World) (a : Option Addr) (n : Nat) (a' : Option Addr) (n' : Nat) (v : Int) : Bool := inRow a n v && (okP W a v && (inRow a' n' v && okP W a' v))
theorem r14_eq (W : World) (a : Option Addr) (n c : Nat) (a' : Option Addr) (n' c' : Nat) (v : Int) : r14 W a n c a' n' c' v = .br (decide (v < (n : Int))) (.br (!eqA W a a' v) (.leaf .ret (.sym (cS14 W a n a' n' v)) [(4, .one (.bool (.lit false)))] ⟨[], [], 0⟩ []) (.leaf .nrm (.sym (cS14 W a n a' n' v)) (SP14 a n c a' n' c' (gadd .i64 v 1)) ⟨[], [], 0⟩ []))
 (.leaf (.exit 0) (.lit true) [] ⟨[], [], 0⟩ []) := by kernel_rfl
def eqN (W : World) (a a' : Option Addr) : Nat → Bool
 | 0 => true
 | v + 1 => eqN W a a' v && eqA W a a' (v : Int)
theorem eqN_mono {W : World} {a a' : Option Addr} {v : Nat} (h : eqN W a a' v = false) : ∀ {n : Nat}, v ≤ n → eqN W a a' n = false
 | 0, hn => by rwa [show v = 0 by omega] at h
 | n + 1, hn => by
  by_cases hv : v = n + 1
  · rwa [hv] at h
  · unfold eqN
    rw [eqN_mono h (show v ≤ n by omega)]
    rfl
structure RowK (W : World) (a : Option Addr) (n : Nat) : Prop where
 lim : n ≤ 3900000000
 nil : a = none → n = 0
 at_ : ∀ j : Nat, j < n → okP W a j = true
def End14 (z : Bool) : RG := match z with
 | false => .leaf .ret (.lit true) [(4, .one (.bool (.lit false)))] ⟨[], [], 0⟩ []
 | true => .leaf (.exit 0) (.lit true) [] ⟨[], [], 0⟩ []
structure Inv14 (W : World) (a a' : Option Addr) (n : Nat) (v : Nat) : Prop where
 hi : v ≤ n
 eq : eqN W a a' v = true
theorem step14 {W : World} {a a' : Option Addr} {n c c' : Nat} (h : RowK W a n) (h' : RowK W a' n) : StepOk (W : Bs) Tryz.prog [] 100000 26 .plain lb14 0 ks14 [] [(4, false)] [] (Inv14 W a a' n) (fun v => n - v) (fun v => SP14 a n c a' n c' (v : Int)) (fun _ => []) (fun _ => []) (End14 (eqN W a a' n)) := by
 constructor
 intro v hv
 have hr := r14_eq W a n c a' n c' (v : Int)
 unfold r14 at hr
 rw [show (Bs.of W).W = W from rfl, hr]
 obtain ⟨hhi, heq⟩ := hv
 have hl := h.lim
 have hs : eqN W a a' (v + 1) = (eqN W a a' v && eqA W a a' (v : Int)) := rfl
 rw [heq, Bool.true_and] at hs
 constructor
 · intro h0
   have h0 : v < n := by have := of_decide_eq_true h0; omega
   have hvc : (SB.sym (cS14 W a n a' n (v : Int))).val = true := by
    rw [SB.val_sym]
    unfold cS14
    rw [inRow_ok h.nil h0, h.at_ v h0, inRow_ok h'.nil h0, h'.at_ v h0]
    rfl
   constructor
   · intro hc
     have hc : eqA W a a' (v : Int) = false := by simpa using hc
     rw [hc] at hs
     refine ⟨hvc, .inr ⟨by simp, fun f ac w hst e' he' => ?_⟩⟩
     rw [eqN_mono hs (show v + 1 ≤ n by omega)]
     exact ⟨he', f, hst⟩
   · intro hc
     have hc : eqA W a a' (v : Int) = true := by simpa using hc
     rw [hc] at hs
     exact ⟨hvc, .inl ⟨rfl, v + 1, ⟨by omega, hs⟩, by omega, by rw [gadd_nat (by omega)], rfl, rfl⟩⟩
 · intro h0
   have h0 := of_decide_eq_false h0
   refine ⟨rfl, .inr ⟨by simp, fun f ac w hst e' he' => ?_⟩⟩
   rw [show n = v by omega, heq]
   exact ⟨he', f, hst⟩
noncomputable def h14w (cf : Bool) (a : Option Addr) (n c : Nat) (a' : Option Addr) (n' c' : Nat) (z : Bool) : LG := .at_ cf ks14 [] 0 (SP14 a n c a' n' c' 0) [] [] (End14 z)
theorem loop14 {W : World} {a a' : Option Addr} {n c n' c' : Nat} (h : RowK W a n) (h' : RowK W a' n') : LoopGOk (W : Bs) Tryz.prog 26 lb14 (h14w (decide (n = n')) a n c a' n' c' (eqN W a a' n)) := by
 by_cases hn : n = n'
 · subst hn
   unfold h14w
   rw [decide_eq_true rfl]
   refine loopG_step (t := .plain) (gok_nil W) (hgB_ok (W := (W : Bs)) (P := Tryz.prog) (nt := 26) .plain lb14 rfl) rfl rfl (step14 (c := c) (c' := c') h h') ?_
   intro _
   exact ⟨0, ⟨by omega, rfl⟩, rfl, rfl, .inl rfl⟩
 · unfold h14w
   rw [decide_eq_false hn]
   exact LG.at_no
noncomputable def t14 (cf : Bool) (a : Option Addr) (n c : Nat) (a' : Option Addr) (n' c' : Nat) (z : Bool) : HG := .seq .plain (.seq .plain (.seq (.seq .plain (.block (.loop (h14w cf a n c a' n' c' z)))) .plain))
noncomputable def x14w (W : World) (cf : Bool) (a : Option Addr) (n c : Nat) (a' : Option Addr) (n' c' : Nat) (z : Bool) : RG := (runG Tryz.prog W [] 100000 26 (t14 cf a n c a' n' c' z) (bodyOf Tryz.f14) (argSlots 0 [.one (.sl a n c), .one (.sl a' n' c')]) noMem []).slim 0 [] [] [(4, false)] []
noncomputable def v14 (cf : Bool) (a : Option Addr) (n c : Nat) (a' : Option Addr) (n' c' : Nat) : Bool := cf && (sameS (SP14 a n c a' n' c' 0) (SP14 a n c a' n' c' 0) && (sameB [] [] && @decide (([] : Gh) = []) (Classical.propDecidable _)))
def LB14 (c : SB) (b : Bool) : RG := .leaf .ret c [(4, .one (.bool (.lit b)))] ⟨[], [], 0⟩ []
theorem x14_f (W : World) (cf : Bool) (a : Option Addr) (n c : Nat) (a' : Option Addr) (n' c' : Nat) : x14w W cf a n c a' n' c' false = .br (!decide ((n : Int) = (n' : Int))) (LB14 (.lit true) false) (LB14 (.sym (v14 cf a n c a' n' c')) false) := by kernel_rfl
theorem x14_t (W : World) (cf : Bool) (a : Option Addr) (n c : Nat) (a' : Option Addr) (n' c' : Nat) : x14w W cf a n c a' n' c' true = .br (!decide ((n : Int) = (n' : Int))) (LB14 (.lit true) false) (LB14 (.sym (v14 cf a n c a' n' c')) true) := by kernel_rfl
def sameA (W : World) (a : Option Addr) (n : Nat) (a' : Option Addr) (n' : Nat) : Bool := bif !decide ((n : Int) = (n' : Int)) then false else eqN W a a' n
theorem same_calls {W : World} {a a' : Option Addr} {n c n' c' : Nat} (h : RowK W a n) (h' : RowK W a' n') : Calls Tryz.prog 14 #[.slice a n c, .slice a' n' c'] W fun en w' => en = .returned (.bool (sameA W a n a' n')) ∧ Below W.heap.size W w' := by
 have hn : Tryz.f14.ntmps = 26 := by kernel_rfl
 have hcalls := calls_of_runG (gok_nil W) (n := 100000) (g := 14) Tryz.func14 (show Tryz.f14.body = some (bodyOf Tryz.f14) by kernel_rfl) (t := t14 (decide (n = n')) a n c a' n' c' (eqN W a a' n)) (args := [.one (.sl a n c), .one (.sl a' n' c')]) ?_ (by rw [hn]; simp)
  (R := fun v _ => ∃ q, v = .one (.bool q) ∧ q.val = sameA W a n a' n') (N := 0) (ks := []) (bs := []) (ke := [(4, false)]) (be := []) rfl rfl ?_
 · refine hcalls.mono ?_
   rintro en w' ⟨v, g, f, ⟨q, rfl, hq⟩, rfl, _, hb⟩
   refine ⟨?_, hb⟩
   rw [← hq]
   rfl
 · have e : HGOk (W : Bs) Tryz.prog Tryz.f14.ntmps (t14 (decide (n = n')) a n c a' n' c' (eqN W a a' n)) (bodyOf Tryz.f14) = (True ∧ True ∧ (True ∧ LoopGOk (W : Bs) Tryz.prog 26 lb14 (h14w (decide (n = n')) a n c a' n' c' (eqN W a a' n))) ∧ True) := by kernel_rfl
   rw [e]
   exact ⟨trivial, trivial, ⟨trivial, loop14 h h'⟩, trivial⟩
 · rw [hn]
   show (x14w W (decide (n = n')) a n c a' n' c' (eqN W a a' n)).All _
   have hs : sameA W a n a' n' = bif !decide ((n : Int) = (n' : Int)) then false else eqN W a a' n := rfl
   have hv : n = n' → (SB.sym (v14 (decide (n = n')) a n c a' n' c')).val = true := by
    intro he
    rw [SB.val_sym]
    unfold v14
    rw [decide_eq_true he, sameS_refl (by rfl), sameB_refl (by rfl), @decide_eq_true _ (Classical.propDecidable _) rfl]
    rfl
   cases hz : eqN W a a' n with
   | false =>
    rw [x14_f]
    rw [hz] at hs
    refine ⟨fun h0 => ?_, fun h0 => ?_⟩
    · rw [h0] at hs
      exact ⟨rfl, .inr rfl, [(false, [.bool (.lit false)])], _, by kernel_rfl, rfl, _, rfl, by rw [hs]; rfl⟩
    · rw [h0] at hs
      have h0 : n = n' := by
       have h1 : (n : Int) = (n' : Int) := by simpa using h0
       omega
      exact ⟨hv h0, .inr rfl, [(false, [.bool (.lit false)])], _, by kernel_rfl, rfl, _, rfl, by rw [hs]; rfl⟩
   | true =>
    rw [x14_t]
    rw [hz] at hs
    refine ⟨fun h0 => ?_, fun h0 => ?_⟩
    · rw [h0] at hs
      exact ⟨rfl, .inr rfl, [(false, [.bool (.lit false)])], _, by kernel_rfl, rfl, _, rfl, by rw [hs]; rfl⟩
    · rw [h0] at hs
      have h0 : n = n' := by
       have h1 : (n : Int) = (n' : Int) := by simpa using h0
       omega
      exact ⟨hv h0, .inr rfl, [(false, [.bool (.lit true)])], _, by kernel_rfl, rfl, _, rfl, by rw [hs]; rfl⟩
end Go.Proofs.YtjmnolhkkpaodaaGreatDoor
