/- A part of the proof: the reference is safe, both packages write and read alike. Several texts in one; printed by slim28.py out of the texts of wip. -/
import Derived.Test.YtjmnolhkkpaodaaGreatDoorZ26
import Derived.Laws.AppendOwn
set_option linter.all false
namespace Go.Proofs.YtjmnolhkkpaodaaGreatDoor
open Go Go.Sx Go.RowKit
set_option maxRecDepth 100000
noncomputable def lb88 : Code := match bodyOf Tryz.f88 with
 | .seq _ (.seq _ (.seq (.seq _ (.block _ (.loop b))) _)) => b
 | _ => .skip
def SP88 (a : Option Addr) (n c : Nat) (v : Int) : SL := [(8, .one (.sl a n c)), (9, .one (.int .i64 (.sym (n : Int)))), (10, .one (.int .i64 (.sym v)))]
def ks88 : List (Nat × Bool) := [(8, false), (9, false), (10, true)]
noncomputable def r88 (W : World) (a : Option Addr) (n c : Nat) (v : Int) : RG := (runG Tryz.prog W [] 100000 30 .plain lb88 (SP88 a n c v) ⟨[], [], 0⟩ []).slim 0 ks88 [] [(2, false)] []
def badR (W : World) (a : Option Addr) (v : Int) : Bool := bif decide (rI W a v 1 < rI W a v 0) then true else bif decide (rI W a v 3 < 0) then true else decide (rI W a v 3 > 100)
theorem r88_eq (W : World) (a : Option Addr) (n c : Nat) (v : Int) : r88 W a n c v = .br (decide (v < (n : Int))) (.br (badR W a v) (.leaf .ret (.sym (inRow a n v && okF W a v)) [(2, .one (.int .i64 (.lit 1)))] ⟨[], [], 0⟩ []) (.leaf .nrm (.sym (inRow a n v && okF W a v)) (SP88 a n c (gadd .i64 v 1)) ⟨[], [], 0⟩ []))
 (.leaf (.exit 0) (.lit true) [] ⟨[], [], 0⟩ []) := by kernel_rfl
def vlrO (W : World) (a : Option Addr) (n : Nat) : Nat → Bool
 | 0 => true
 | k + 1 => bif badR W a ((n - (k + 1) : Nat) : Int) then false else vlrO W a n k
theorem vlrO_step {W : World} {a : Option Addr} {n v : Nat} (hv : v < n) : vlrO W a n (n - v) = bif badR W a (v : Int) then false else vlrO W a n (n - (v + 1)) := by
 have e : n - v = (n - (v + 1)) + 1 := by omega
 rw [e]
 show (bif badR W a ((n - ((n - (v + 1)) + 1) : Nat) : Int) then false else vlrO W a n (n - (v + 1))) = _
 rw [show n - ((n - (v + 1)) + 1) = v by omega]
def End88 (z : Bool) : RG := match z with
 | false => .leaf .ret (.lit true) [(2, .one (.int .i64 (.lit 1)))] ⟨[], [], 0⟩ []
 | true => .leaf (.exit 0) (.lit true) [] ⟨[], [], 0⟩ []
structure Inv88 (W : World) (a : Option Addr) (n : Nat) (v : Nat) : Prop where
 hi : v ≤ n
 sc : vlrO W a n (n - v) = vlrO W a n n
theorem step88 {W : World} {a : Option Addr} {n c : Nat} (h : RegRow W a n c) : StepOk (W : Bs) Tryz.prog [] 100000 30 .plain lb88 0 ks88 [] [(2, false)] [] (Inv88 W a n) (fun v => n - v) (fun v => SP88 a n c (v : Int)) (fun _ => []) (fun _ => []) (End88 (vlrO W a n n)) := by
 constructor
 intro v hv
 have hr := r88_eq W a n c (v : Int)
 unfold r88 at hr
 rw [show (Bs.of W).W = W from rfl, hr]
 obtain ⟨hhi, hsc⟩ := hv
 have hmx := h.max
 have hle := h.le
 have hml : maxLen = 9223372036854775807 := rfl
 constructor
 · intro h0
   have h0 : v < n := by have := of_decide_eq_true h0; omega
   have hvc : (SB.sym (inRow a n (v : Int) && okF W a (v : Int))).val = true := by
    rw [SB.val_sym, inRow_ok h.nil h0, (h.at_ v h0).1]
    rfl
   have hs := vlrO_step (W := W) (a := a) h0
   constructor
   · intro hc
     rw [hc, cond_true, hsc] at hs
     refine ⟨hvc, .inr ⟨by simp, fun f a w hst e' he' => ?_⟩⟩
     rw [hs]
     exact ⟨he', f, hst⟩
   · intro hc
     rw [hc, cond_false] at hs
     have hg : gadd .i64 (v : Int) 1 = ((v + 1 : Nat) : Int) := by
      unfold gadd
      rw [IntKind.wrap_i64]
      omega
     exact ⟨hvc, .inl ⟨rfl, v + 1, ⟨by omega, by rw [← hsc, hs]⟩, by omega, by rw [hg], rfl, rfl⟩⟩
 · intro h0
   have h0 := of_decide_eq_false h0
   refine ⟨rfl, .inr ⟨by simp, fun f a w hst e' he' => ?_⟩⟩
   rw [show n - v = 0 by omega] at hsc
   rw [← hsc]
   exact ⟨he', f, hst⟩
noncomputable def h88 (a : Option Addr) (n c : Nat) (z : Bool) : LG := .at_ true ks88 [] 0 (SP88 a n c 0) [] [] (End88 z)
theorem loop88 {W : World} {a : Option Addr} {n c : Nat} (h : RegRow W a n c) : LoopGOk (W : Bs) Tryz.prog 30 lb88 (h88 a n c (vlrO W a n n)) := by
 refine loopG_step (t := .plain) (gok_nil W) (hgB_ok (W := (W : Bs)) (P := Tryz.prog) (nt := 30) .plain lb88 rfl) rfl rfl (step88 h) ?_
 intro _
 exact ⟨0, ⟨by omega, rfl⟩, rfl, rfl, .inl rfl⟩
noncomputable def t88 (a : Option Addr) (n c : Nat) (z : Bool) : HG := .seq .plain (.seq .plain (.seq (.seq .plain (.block (.loop (h88 a n c z)))) .plain))
noncomputable def x88 (W : World) (a : Option Addr) (n c : Nat) (z : Bool) : RG := (runG Tryz.prog W [] 100000 30 (t88 a n c z) (bodyOf Tryz.f88) (argSlots 0 [.one (.sl a n c)]) noMem []).slim 0 [] [] [(2, false)] []
noncomputable def v88 (a : Option Addr) (n c : Nat) : Bool := true && (sameS (SP88 a n c 0) (SP88 a n c 0) && (sameB [] [] && @decide (([] : Gh) = []) (Classical.propDecidable _)))
theorem x88_no (W : World) (a : Option Addr) (n c : Nat) : x88 W a n c false = .br (decide ((n : Int) > 16)) (.leaf .ret (.lit true) [(2, .one (.int .i64 (.lit 3)))] ⟨[], [], 0⟩ []) (.leaf .ret (.sym (v88 a n c)) [(2, .one (.int .i64 (.lit 1)))] ⟨[], [], 0⟩ []) := by kernel_rfl
theorem x88_yes (W : World) (a : Option Addr) (n c : Nat) : x88 W a n c true = .br (decide ((n : Int) > 16)) (.leaf .ret (.lit true) [(2, .one (.int .i64 (.lit 3)))] ⟨[], [], 0⟩ []) (.leaf .ret (.sym (v88 a n c)) [(2, .one (.int .i64 (.lit 0)))] ⟨[], [], 0⟩ []) := by kernel_rfl
def vlrR (W : World) (a : Option Addr) (n : Nat) : Int := bif decide ((n : Int) > 16) then 3 else bif vlrO W a n n then 0 else 1
theorem validate_calls {W : World} {a : Option Addr} {n c : Nat} (h : RegRow W a n c) : Calls Tryz.prog 88 #[.slice a n c] W fun en w' => en = .returned (.int .i64 (vlrR W a n)) ∧ Below W.heap.size W w' := by
 have hv : (SB.sym (v88 a n c)).val = true := by
  rw [SB.val_sym]
  unfold v88
  rw [sameS_refl (by rfl), sameB_refl (by rfl), @decide_eq_true _ (Classical.propDecidable _) rfl]
  rfl
 have hcalls := calls_of_runG (gok_nil W) (n := 100000) (g := 88) Tryz.func88 (show Tryz.f88.body = some (bodyOf Tryz.f88) by kernel_rfl) (t := t88 a n c (vlrO W a n n)) (args := [.one (.sl a n c)]) ?_ (by rw [show Tryz.f88.ntmps = 30 by kernel_rfl]; simp)
  (R := fun v _ => ∃ q, v = .one (.int .i64 q) ∧ q.val = vlrR W a n) (N := 0) (ks := []) (bs := []) (ke := [(2, false)]) (be := []) rfl rfl ?_
 · refine hcalls.mono ?_
   rintro en w' ⟨v, g, f, ⟨q, rfl, hq⟩, rfl, _, hb⟩
   refine ⟨?_, hb⟩
   rw [← hq]
   rfl
 · have e : HGOk (W : Bs) Tryz.prog Tryz.f88.ntmps (t88 a n c (vlrO W a n n)) (bodyOf Tryz.f88) = (True ∧ (True ∧ ((True ∧ LoopGOk (W : Bs) Tryz.prog 30 lb88 (h88 a n c (vlrO W a n n))) ∧ True))) := by kernel_rfl
   rw [e]
   exact ⟨trivial, trivial, ⟨trivial, loop88 h⟩, trivial⟩
 · rw [show Tryz.f88.ntmps = 30 by kernel_rfl]
   show (x88 W a n c (vlrO W a n n)).All _
   unfold vlrR
   cases hz : vlrO W a n n with
   | false =>
    rw [x88_no]
    refine ⟨fun hb => ?_, fun hb => ?_⟩
    · rw [hb]
      exact ⟨rfl, .inr rfl, [(false, [.int .i64 (.lit 3)])], _, by kernel_rfl, rfl, _, rfl, rfl⟩
    · rw [hb]
      exact ⟨hv, .inr rfl, [(false, [.int .i64 (.lit 1)])], _, by kernel_rfl, rfl, _, rfl, rfl⟩
   | true =>
    rw [x88_yes]
    refine ⟨fun hb => ?_, fun hb => ?_⟩
    · rw [hb]
      exact ⟨rfl, .inr rfl, [(false, [.int .i64 (.lit 3)])], _, by kernel_rfl, rfl, _, rfl, rfl⟩
    · rw [hb]
      exact ⟨hv, .inr rfl, [(false, [.int .i64 (.lit 0)])], _, by kernel_rfl, rfl, _, rfl, rfl⟩
end Go.Proofs.YtjmnolhkkpaodaaGreatDoor
namespace Go.Proofs.YtjmnolhkkpaodaaGreatDoor
open Go Go.Sx Go.RowKit
set_option maxRecDepth 100000
noncomputable def lb56 : Code := match bodyOf Tryz.f56 with
 | .seq _ (.seq _ (.seq _ (.seq (.seq _ (.block _ (.loop b))) _))) => b
 | _ => .skip
def g8 : GapSp := ⟨3, 27, 29, 30, 44, 97, 2, 4, 0⟩
def g11 : GapSp := ⟨3, 36, 38, 39, 44, 97, 2, 4, 0⟩
def hb56 : HG := .seq .plain (.seq .plain (.seq (.block (.seq .plain (.seq (.seq .plain (.cond (.seq (.seq .plain (.cond (.gap g8) .plain)) .plain) .plain)) (.seq .plain (.cond (.gap g11) .plain))))) .plain))
def SP56 (am : Option Addr) (n c : Nat) (oa : Option Addr) (k oc : Nat) (d : Bool) (v : Int) : SL := [(3, .one (.ptr 0 0)), (5, .one (.sl oa k oc)), (6, .one (.bool (.lit d))), (9, .one (.sl am n c)), (10, .one (.int .i64 (.sym (n : Int)))), (11, .one (.int .i64 (.sym v)))]
def ks56 : List (Nat × Bool) := [(3, false), (5, true), (6, false), (9, false), (10, false), (11, true)]
def BP56 (p q : Int) : List (Nat × BI) := [(0, ⟨97, [.int .u16 (.sym p), .int .u8 (.sym q)], true⟩)]
def GP56 (oa : Option Addr) (k oc : Nat) (xs : List SV) : Gh := [⟨97, 2, oa, k, oc, xs⟩]
def ke56 : List (Nat × Bool) := [(5, false), (6, false), (3, false)]
noncomputable def r56 (W : World) (am : Option Addr) (n c : Nat) (oa : Option Addr) (k oc : Nat) (xs : List SV) (d : Bool) (p q v : Int) : RG := (runG Tryz.prog W [] 100000 53 hb56 lb56 (SP56 am n c oa k oc d v) ⟨[], BP56 p q, 1⟩ (GP56 oa k oc xs)).slim 1 ks56 [(0, false)] ke56 [(0, false)]
def gv4 (oa : Option Addr) (k oc : Nat) : Bool := (decide (oa = oa) && (decide (k = k) && decide (oc = oc))) && (decide (k + 1 ≤ maxLen) && decide ((k + 1) * 4 ≤ 140737488355328))
def rowG (W : World) (am : Option Addr) (n : Nat) (v : Int) : Bool := inRow am n v && (iAt W am v && (iVal W am v && true))
def cl (x y : Int) : List SV := [.int .u16 (.sym x), .int .u8 (.sym y)]
def nx (v : Int) : Int := gadd .i64 v 1
def E56 (p q : Int) (oa : Option Addr) (k oc : Nat) (xs : List SV) (d : Bool) : RG := .leaf (.exit 0) (.lit true) [(5, .one (.sl oa k oc)), (6, .one (.bool (.lit d))), (3, .one (.ptr 0 0))] ⟨[], BP56 p q, 1⟩ (GP56 oa k oc xs)
def tl56 (W : World) (am : Option Addr) (n c : Nat) (g g' : Bool) (oa : Option Addr) (k oc : Nat) (xs : List SV) (d : Bool) (p q v : Int) : RG :=
 .br (!decide (cAt W am v = p)) (.any fun a' c' => .leaf .nrm (.sym g) (SP56 am n c a' (k + 1) c' d (nx v)) ⟨[], BP56 p q, 1⟩ (GP56 a' (k + 1) c' (xs ++ cl (cAt W am v) (cVal W am v))))
  (.leaf .nrm (.sym g') (SP56 am n c oa k oc d (nx v)) ⟨[], BP56 p q, 1⟩ (GP56 oa k oc xs))
theorem r56_t (W : World) (am : Option Addr) (n c : Nat) (oa : Option Addr) (k oc : Nat) (xs : List SV) (p q v : Int) : r56 W am n c oa k oc xs true p q v =
  .br (decide (v < (n : Int))) (tl56 W am n c (rowG W am n v && gv4 oa k oc) (rowG W am n v) oa k oc xs true p q v) (E56 p q oa k oc xs true) := by kernel_rfl
theorem r56_f (W : World) (am : Option Addr) (n c : Nat) (oa : Option Addr) (k oc : Nat) (xs : List SV) (p q v : Int) : r56 W am n c oa k oc xs false p q v =
  .br (decide (v < (n : Int))) (.br (decide (cAt W am v ≥ p)) (.br (!decide (q = 0)) (.any fun a' c' => tl56 W am n c (rowG W am n v && (gv4 oa k oc && gv4 a' (k + 1) c')) (rowG W am n v && gv4 oa k oc) a' (k + 1) c' (xs ++ cl p q) true p q v) (tl56 W am n c (rowG W am n v && gv4 oa k oc) (rowG W am n v) oa k oc xs true p q v)) (tl56 W am n c (rowG W am n v && gv4 oa k oc) (rowG W am n v) oa k oc xs false p q v)) (E56 p q oa k oc xs false) := by kernel_rfl
end Go.Proofs.YtjmnolhkkpaodaaGreatDoor
namespace Go.Proofs.YtjmnolhkkpaodaaGreatDoor
open Go Go.Sx Go.RowKit
set_option maxRecDepth 100000
structure PS where
 k : Nat
 xs : List SV
 d : Bool
def PS.new (p q : Int) (s : PS) : PS := bif !decide (q = 0) then ⟨s.k + 1, s.xs ++ cl p q, true⟩ else ⟨s.k, s.xs, true⟩
def PS.old (W : World) (am : Option Addr) (p : Int) (v : Nat) (s : PS) : PS := bif !decide (cAt W am (v : Int) = p) then ⟨s.k + 1, s.xs ++ cl (cAt W am (v : Int)) (cVal W am (v : Int)), s.d⟩ else s
def PS.rnd (W : World) (am : Option Addr) (p q : Int) (v : Nat) (s : PS) : PS := (bif s.d then s else bif decide (cAt W am (v : Int) ≥ p) then s.new p q else s).old W am p v
def putN (W : World) (am : Option Addr) (p q : Int) : Nat → PS
 | 0 => ⟨0, [], false⟩
 | v + 1 => (putN W am p q v).rnd W am p q v
theorem new_k (p q : Int) (s : PS) : (s.new p q).k ≤ s.k + 1 ∧ (s.new p q).d = true := by
 unfold PS.new
 cases (!decide (q = 0)) <;> exact ⟨by dsimp only [cond_true, cond_false]; omega, rfl⟩
theorem old_k (W : World) (am : Option Addr) (p : Int) (v : Nat) (s : PS) : (s.old W am p v).k ≤ s.k + 1 ∧ (s.old W am p v).d = s.d := by
 unfold PS.old
 cases (!decide (cAt W am (v : Int) = p)) <;> exact ⟨by dsimp only [cond_true, cond_false]; omega, rfl⟩
theorem putN_k (W : World) (am : Option Addr) (p q : Int) : ∀ v, (putN W am p q v).k ≤ v + (bif (putN W am p q v).d then 1 else 0)
 | 0 => Nat.le_refl 0
 | v + 1 => by
  have ih := putN_k W am p q v
  unfold putN PS.rnd
  cases hd : (putN W am p q v).d
  · rw [hd] at ih
    rw [cond_false]
    cases decide (cAt W am (v : Int) ≥ p)
    · have h1 := old_k W am p v (putN W am p q v)
      rw [cond_false, h1.2, hd]
      simp only [cond_false] at ih ⊢
      omega
    · have h2 := new_k p q (putN W am p q v)
      have h1 := old_k W am p v ((putN W am p q v).new p q)
      rw [cond_true, h1.2, h2.2]
      simp only [cond_false, cond_true] at ih ⊢
      omega
  · rw [hd] at ih
    have h1 := old_k W am p v (putN W am p q v)
    rw [cond_true, h1.2, hd]
    simp only [cond_true] at ih ⊢
    omega
structure Pp where
 v : Nat
 k : Nat
 oa : Option Addr
 oc : Nat
 xs : List SV
 d : Bool
structure Inv56 (W : World) (am : Option Addr) (n : Nat) (p q : Int) (s : Pp) : Prop where
 hi : s.v ≤ n
 st : putN W am p q s.v = ⟨s.k, s.xs, s.d⟩
def End56 (p q : Int) (s : PS) : RG := .any fun a' c' => E56 p q a' s.k c' s.xs s.d
theorem gv4_ok {oa : Option Addr} {k oc : Nat} (h : (k + 1) * 4 ≤ 140737488355328) : gv4 oa k oc = true := by
 unfold gv4
 have hm : maxLen = 9223372036854775807 := by decide
 simp only [decide_true, Bool.true_and, Bool.and_eq_true, decide_eq_true_eq, Bool.and_self]
 omega
theorem nx_nat {v n : Nat} (h0 : v < n) (h : n ≤ maxLen) : nx (v : Int) = ((v + 1 : Nat) : Int) := by
 have hml : maxLen = 9223372036854775807 := rfl
 unfold nx gadd
 rw [IntKind.wrap_i64]
 omega
theorem tl56_ok {W : World} {am : Option Addr} {n c : Nat} {p q : Int} {v : Nat} (h0 : v < n) (hm : n ≤ maxLen) {g g' : Bool} (hg : g = true) (hg' : g' = true) {oa : Option Addr} {k oc : Nat} {xs : List SV} {d : Bool}
  (hput : putN W am p q (v + 1) = (PS.mk k xs d).old W am p v) {Q : Ex → SL → Mem → Gh → Prop} : (tl56 W am n c g g' oa k oc xs d p q (v : Int)).All fun e vc s m g => vc.val = true ∧
   ((e = .nrm ∧ ∃ p', Inv56 W am n p q p' ∧ n - p'.v < n - v ∧ s = SP56 am n c p'.oa p'.k p'.oc p'.d (p'.v : Int) ∧ m = ⟨[], BP56 p q, 1⟩ ∧ g = GP56 p'.oa p'.k p'.oc p'.xs) ∨ Q e s m g) := by
 have hnx := nx_nat h0 hm
 subst hg hg'
 unfold tl56
 refine ⟨fun hc a' c' => ⟨rfl, .inl ⟨rfl, ⟨v + 1, k + 1, a', c', xs ++ cl (cAt W am (v : Int)) (cVal W am (v : Int)), d⟩, ⟨by dsimp only; omega, ?_⟩, by dsimp only; omega, by rw [hnx], rfl, rfl⟩⟩, fun hc => ⟨rfl, .inl ⟨rfl, ⟨v + 1, k, oa, oc, xs, d⟩, ⟨by dsimp only; omega, ?_⟩, by dsimp only; omega, by rw [hnx], rfl, rfl⟩⟩⟩
 · dsimp only
   rw [hput]
   unfold PS.old
   rw [hc]
   rfl
 · dsimp only
   rw [hput]
   unfold PS.old
   rw [hc]
   rfl
theorem step56 {W : World} {am : Option Addr} {n c : Nat} (h : CellRow W am n c) (hn : (n + 2) * 4 ≤ 140737488355328) (p q : Int) :
  StepOk (W : Bs) Tryz.prog [] 100000 53 hb56 lb56 1 ks56 [(0, false)] ke56 [(0, false)] (Inv56 W am n p q) (fun s => n - s.v) (fun s => SP56 am n c s.oa s.k s.oc s.d (s.v : Int)) (fun _ => BP56 p q) (fun s => GP56 s.oa s.k s.oc s.xs) (End56 p q (putN W am p q n)) := by
 constructor
 rintro ⟨v, k, oa, oc, xs, d⟩ ⟨hhi, hst⟩
 dsimp only at hhi hst ⊢
 have hk := putN_k W am p q v
 rw [hst] at hk
 dsimp only at hk
 have hkv : k ≤ v + 1 := by
  cases d <;> simp only [cond_true, cond_false] at hk <;> omega
 have hrow : v < n → rowG W am n (v : Int) = true := by
  intro h0
  unfold rowG
  obtain ⟨h1, h2, _⟩ := h.at_ v h0
  rw [inRow_ok h.nil h0, h1, h2]
  rfl
 have hend : ∀ (hv : ¬ ((v : Int) < (n : Int))), putN W am p q n = ⟨k, xs, d⟩ := by
  intro hv
  rw [show n = v by omega]
  exact hst
 have hm : n ≤ maxLen := Nat.le_trans h.le h.max
 have hr := r56_t W am n c oa k oc xs p q (v : Int)
 have hr' := r56_f W am n c oa k oc xs p q (v : Int)
 unfold r56 at hr hr'
 rw [show (Bs.of W).W = W from rfl]
 have hnxt : putN W am p q (v + 1) = (PS.mk k xs d).rnd W am p q v := by rw [← hst]; rfl
 cases d with
 | true =>
  rw [hr]
  refine ⟨fun h0 => ?_, fun h0 => ?_⟩
  · have h0 : v < n := by have := of_decide_eq_true h0; omega
    exact tl56_ok h0 hm (by rw [hrow h0, gv4_ok (by omega)]; rfl) (hrow h0) hnxt
  · refine ⟨rfl, .inr ⟨by simp, fun f a w hgst e' he' => ?_⟩⟩
    rw [hend (of_decide_eq_false h0)]
    exact ⟨oa, oc, he', f, hgst⟩
 | false =>
  rw [hr']
  refine ⟨fun h0 => ?_, fun h0 => ?_⟩
  · have h0 : v < n := by have := of_decide_eq_true h0; omega
    have hkv : k ≤ v := by simpa using hk
    refine ⟨fun hc => ?_, fun hc => ?_⟩
    · refine ⟨fun hq a' c' => ?_, fun hq => ?_⟩
      · refine tl56_ok h0 hm (by rw [hrow h0, gv4_ok (by omega), gv4_ok (by omega)]; rfl) (by rw [hrow h0, gv4_ok (by omega)]; rfl) ?_
        rw [hnxt]
        unfold PS.rnd PS.new
        dsimp only
        rw [hc, hq]
        rfl
      · refine tl56_ok h0 hm (by rw [hrow h0, gv4_ok (by omega)]; rfl) (hrow h0) ?_
        rw [hnxt]
        unfold PS.rnd PS.new
        dsimp only
        rw [hc, hq]
        rfl
    · refine tl56_ok h0 hm (by rw [hrow h0, gv4_ok (by omega)]; rfl) (hrow h0) ?_
      rw [hnxt]
      unfold PS.rnd
      dsimp only
      rw [hc]
      rfl
  · refine ⟨rfl, .inr ⟨by simp, fun f a w hgst e' he' => ?_⟩⟩
    rw [hend (of_decide_eq_false h0)]
    exact ⟨oa, oc, he', f, hgst⟩
end Go.Proofs.YtjmnolhkkpaodaaGreatDoor
namespace Go.Proofs.YtjmnolhkkpaodaaGreatDoor
open Go Go.Sx Go.RowKit
set_option maxRecDepth 100000
noncomputable def h56 (am : Option Addr) (n c : Nat) (p q : Int) (z : PS) : LG := .at_ true ks56 [(0, false)] 1 (SP56 am n c none 0 0 false 0) (BP56 p q) [] (End56 p q z)
theorem hgb56 : hgB Tryz.prog 53 hb56 lb56 = true := by kernel_rfl
theorem loop56 {W : World} {am : Option Addr} {n c : Nat} (h : CellRow W am n c) (hn : (n + 2) * 4 ≤ 140737488355328) (p q : Int) : LoopGOk (W : Bs) Tryz.prog 53 lb56 (h56 am n c p q (putN W am p q n)) := by
 refine loopG_step (t := hb56) (gok_nil W) (hgB_ok (W := (W : Bs)) (P := Tryz.prog) (nt := 53) hb56 lb56 hgb56) rfl rfl (step56 h hn p q) ?_
 intro _
 exact ⟨⟨0, 0, none, 0, [], false⟩, ⟨Nat.zero_le _, rfl⟩, rfl, rfl, .inr ⟨97, 2, rfl⟩⟩
def g14 : GapSp := ⟨3, 48, 50, 51, 44, 97, 2, 4, 0⟩
noncomputable def t56 (am : Option Addr) (n c : Nat) (p q : Int) (z : PS) : HG := .seq .plain (.seq .plain (.seq .plain (.seq (.seq .plain (.block (.loop (h56 am n c p q z)))) (.seq (.seq .plain (.cond (.gap g14) .plain)) .plain))))
noncomputable def x56 (W : World) (am : Option Addr) (n c : Nat) (p q : Int) (z : PS) : RG := (runG Tryz.prog W [] 100000 53 (t56 am n c p q z) (bodyOf Tryz.f56) (argSlots 0 [.one (.sl am n c), .agg [.int .u16 (.sym p), .int .u8 (.sym q)]]) noMem []).slim 0 [] [] [(4, false)] []
noncomputable def v56 (am : Option Addr) (n c : Nat) (p q : Int) : Bool := true && (sameS (SP56 am n c none 0 0 false 0) (SP56 am n c none 0 0 false 0) && (sameB (BP56 p q) (BP56 p q) && @decide (([] : Gh) = []) (Classical.propDecidable _)))
theorem x56_t (W : World) (am : Option Addr) (n c : Nat) (p q : Int) (k : Nat) (xs : List SV) : x56 W am n c p q ⟨k, xs, true⟩ = .any fun a' c' => .leaf .ret (.sym (v56 am n c p q)) [(4, .one (.sl a' k c'))] ⟨[], [], 0⟩ (GP56 a' k c' xs) := by kernel_rfl
theorem x56_f (W : World) (am : Option Addr) (n c : Nat) (p q : Int) (k : Nat) (xs : List SV) : x56 W am n c p q ⟨k, xs, false⟩ = .any fun a' c' => .br (!decide (q = 0)) (.any fun a2 c2 => .leaf .ret (.sym (v56 am n c p q && gv4 a' k c')) [(4, .one (.sl a2 (k + 1) c2))] ⟨[], [], 0⟩ (GP56 a2 (k + 1) c2 (xs ++ cl p q)))
  (.leaf .ret (.sym (v56 am n c p q)) [(4, .one (.sl a' k c'))] ⟨[], [], 0⟩ (GP56 a' k c' xs)) := by kernel_rfl
def putR (W : World) (am : Option Addr) (n : Nat) (p q : Int) : PS := bif (putN W am p q n).d then putN W am p q n else (putN W am p q n).new p q
theorem putR_k (W : World) (am : Option Addr) (n : Nat) (p q : Int) : (putR W am n p q).k ≤ n + 1 := by
 have h := putN_k W am p q n
 unfold putR
 cases hd : (putN W am p q n).d
 · rw [hd] at h
   have := (new_k p q (putN W am p q n)).1
   simp only [cond_false] at h ⊢
   omega
 · rw [hd] at h
   simpa using h
theorem v56_ok (am : Option Addr) (n c : Nat) (p q : Int) : v56 am n c p q = true := by
 unfold v56
 rw [sameS_refl (by rfl), sameB_refl (by rfl), @decide_eq_true _ (Classical.propDecidable _) rfl]
 rfl
theorem put_calls {W : World} {am : Option Addr} {n c : Nat} (h : CellRow W am n c) (hn : (n + 2) * 4 ≤ 140737488355328) (p q : Int) : Calls Tryz.prog 56 #[.slice am n c, .agg #[.int .u16 p, .int .u8 q]] W fun en w' =>
  ∃ a' c', en = .returned (.slice a' (putR W am n p q).k c') ∧ w'.ownsRow W.heap.size 97 2 (.slice a' (putR W am n p q).k c') (putR W am n p q).k ((putR W am n p q).xs.map (SV.den fun _ => 0)) ∧ Below W.heap.size W w' := by
 have hcalls := calls_of_runG (gok_nil W) (n := 100000) (g := 56) Tryz.func56 (show Tryz.f56.body = some (bodyOf Tryz.f56) by kernel_rfl) (t := t56 am n c p q (putN W am p q n)) (args := [.one (.sl am n c), .agg [.int .u16 (.sym p), .int .u8 (.sym q)]]) ?_ (by rw [show Tryz.f56.ntmps = 53 by kernel_rfl]; simp)
  (R := fun v g => ∃ a' c', v = .one (.sl a' (putR W am n p q).k c') ∧ g = GP56 a' (putR W am n p q).k c' (putR W am n p q).xs) (N := 0) (ks := []) (bs := []) (ke := [(4, false)]) (be := []) rfl rfl ?_
 · refine hcalls.mono ?_
   rintro en w' ⟨v, g, f, ⟨a', c', rfl, rfl⟩, rfl, hown, hb⟩
   exact ⟨a', c', rfl, hown 0 _ rfl, hb⟩
 · have e : HGOk (W : Bs) Tryz.prog Tryz.f56.ntmps (t56 am n c p q (putN W am p q n)) (bodyOf Tryz.f56) = (True ∧ True ∧ True ∧ (True ∧ LoopGOk (W : Bs) Tryz.prog 53 lb56 (h56 am n c p q (putN W am p q n))) ∧ (True ∧ HGOk (W : Bs) Tryz.prog 53 (.gap g14) (match bodyOf Tryz.f56 with | .seq _ (.seq _ (.seq _ (.seq _ (.seq (.seq _ (.cond _ b _)) _)))) => b | _ => .skip) ∧ True) ∧ True) := by kernel_rfl
   rw [e]
   exact ⟨trivial, trivial, trivial, ⟨trivial, loop56 h hn p q⟩, ⟨trivial, hgB_ok (W := (W : Bs)) (P := Tryz.prog) (nt := 53) (.gap g14) _ (by kernel_rfl), trivial⟩, trivial⟩
 · rw [show Tryz.f56.ntmps = 53 by kernel_rfl]
   show (x56 W am n c p q (putN W am p q n)).All _
   have hk := putN_k W am p q n
   unfold putR PS.new
   cases hz : putN W am p q n with
   | mk k xs d =>
    rw [hz] at hk
    cases d with
    | true =>
     rw [x56_t]
     intro a' c'
     exact ⟨by rw [SB.val_sym, v56_ok], .inr rfl, [(false, [.sl a' k c'])], .one (.sl a' k c'), by kernel_rfl, rfl, a', c', rfl, rfl⟩
    | false =>
     rw [x56_f]
     intro a' c'
     have hkn : k ≤ n := by simpa using hk
     refine ⟨fun hq => ?_, fun hq => ?_⟩
     · rw [hq]
       intro a2 c2
       exact ⟨by rw [SB.val_sym, v56_ok, gv4_ok (by omega)]; rfl, .inr rfl, [(false, [.sl a2 (k + 1) c2])], .one (.sl a2 (k + 1) c2), by kernel_rfl, rfl, a2, c2, rfl, rfl⟩
     · rw [hq]
       exact ⟨by rw [SB.val_sym, v56_ok], .inr rfl, [(false, [.sl a' k c'])], .one (.sl a' k c'), by kernel_rfl, rfl, a', c', rfl, rfl⟩
end Go.Proofs.YtjmnolhkkpaodaaGreatDoor
namespace Go.Proofs.YtjmnolhkkpaodaaGreatDoor
open Go Go.Sx Go.RowKit
set_option maxRecDepth 100000
abbrev CL := List (Int × Int)
def newL (p q : Int) (s : CL × Bool) : CL × Bool := (bif !decide (q = 0) then s.1 ++ [(p, q)] else s.1, true)
def oldL (p : Int) (x : Int × Int) (s : CL × Bool) : CL × Bool := (bif !decide (x.1 = p) then s.1 ++ [x] else s.1, s.2)
def rndL (p q : Int) (s : CL × Bool) (x : Int × Int) : CL × Bool := oldL p x (bif s.2 then s else bif decide (x.1 ≥ p) then newL p q s else s)
def putNL (p q : Int) (L : CL) : CL × Bool := L.foldl (rndL p q) ([], false)
def putL (p q : Int) (L : CL) : CL := bif (putNL p q L).2 then (putNL p q L).1 else (newL p q (putNL p q L)).1
def toXs (L : CL) : List SV := L.flatMap fun x => cl x.1 x.2
def toPS (s : CL × Bool) : PS := ⟨s.1.length, toXs s.1, s.2⟩
structure RowIs (W : World) (a : Option Addr) (n c : Nat) (L : CL) : Prop where
 row : CellRow W a n c
 len : L.length = n
 at_ : ∀ j : Nat, j < n → L[j]? = some (cAt W a j, cVal W a j)
theorem toXs_snoc (L : CL) (x : Int × Int) : toXs (L ++ [x]) = toXs L ++ cl x.1 x.2 := by
 unfold toXs
 rw [List.flatMap_append]
 simp
theorem new_toPS (p q : Int) (s : CL × Bool) : (toPS s).new p q = toPS (newL p q s) := by
 unfold PS.new newL toPS
 dsimp only
 cases (!decide (q = 0))
 · rfl
 · dsimp only [cond_true]
   rw [toXs_snoc, List.length_append]
   rfl
theorem old_toPS (W : World) (a : Option Addr) (p : Int) (v : Nat) (s : CL × Bool) : (toPS s).old W a p v = toPS (oldL p (cAt W a (v : Int), cVal W a (v : Int)) s) := by
 unfold PS.old oldL toPS
 dsimp only
 cases (!decide (cAt W a (v : Int) = p))
 · rfl
 · dsimp only [cond_true]
   rw [toXs_snoc, List.length_append]
   rfl
theorem rnd_toPS (W : World) (a : Option Addr) (p q : Int) (v : Nat) (s : CL × Bool) : (toPS s).rnd W a p q v = toPS (rndL p q s (cAt W a (v : Int), cVal W a (v : Int))) := by
 unfold PS.rnd rndL
 rw [← old_toPS]
 congr 1
 show (bif s.2 then toPS s else bif decide (cAt W a (v : Int) ≥ p) then (toPS s).new p q else toPS s) = _
 rw [new_toPS]
 cases s.2
 · dsimp only [cond_false]
   cases decide (cAt W a (v : Int) ≥ p) <;> rfl
 · rfl
theorem putN_list {W : World} {a : Option Addr} {n c : Nat} {L : CL} (h : RowIs W a n c L) (p q : Int) : ∀ v, v ≤ n → putN W a p q v = toPS (putNL p q (L.take v))
 | 0, _ => rfl
 | v + 1, hv => by
  unfold putN
  rw [putN_list h p q v (by omega), rnd_toPS]
  unfold putNL
  rw [List.take_add_one, h.at_ v (by omega), List.foldl_append]
  rfl
theorem putR_list {W : World} {a : Option Addr} {n c : Nat} {L : CL} (h : RowIs W a n c L) (p q : Int) : (putR W a n p q).k = (putL p q L).length ∧ (putR W a n p q).xs = toXs (putL p q L) := by
 have e := putN_list h p q n (Nat.le_refl n)
 rw [List.take_of_length_le (by rw [h.len]; exact Nat.le_refl n)] at e
 unfold putR putL
 rw [e, new_toPS]
 rw [show (toPS (putNL p q L)).d = (putNL p q L).2 from rfl]
 cases (putNL p q L).2
 · exact ⟨rfl, rfl⟩
 · exact ⟨rfl, rfl⟩
theorem putL_len {W : World} {a : Option Addr} {n c : Nat} {L : CL} (h : RowIs W a n c L) (p q : Int) : (putL p q L).length ≤ L.length + 1 := by
 rw [← (putR_list h p q).1, h.len]
 exact putR_k W a n p q
end Go.Proofs.YtjmnolhkkpaodaaGreatDoor
namespace Go.Proofs.YtjmnolhkkpaodaaGreatDoor
open Go Go.Sx Go.RowKit
set_option maxRecDepth 100000
theorem toXs_get : ∀ (L : CL) (j : Nat) (x : Int × Int), L[j]? = some x → (toXs L)[j * 2]? = some (.int .u16 (.sym x.1)) ∧ (toXs L)[j * 2 + 1]? = some (.int .u8 (.sym x.2))
 | [], j, x, h => by simp at h
 | y :: L, 0, x, h => by
  simp only [List.getElem?_cons_zero, Option.some.injEq] at h
  subst h
  exact ⟨rfl, rfl⟩
 | y :: L, j + 1, x, h => by
  rw [List.getElem?_cons_succ] at h
  have ih := toXs_get L j x h
  have e : toXs (y :: L) = .int .u16 (.sym y.1) :: .int .u8 (.sym y.2) :: toXs L := rfl
  rw [e, show (j + 1) * 2 = (j * 2 + 1) + 1 by omega, show (j * 2 + 1) + 1 + 1 = (j * 2 + 1 + 1) + 1 by omega]
  simp only [List.getElem?_cons_succ]
  exact ih
structure Rng (L : CL) : Prop where
 rng : ∀ x ∈ L, (0 ≤ x.1 ∧ x.1 ≤ 65535) ∧ (0 ≤ x.2 ∧ x.2 ≤ 255)
end Go.Proofs.YtjmnolhkkpaodaaGreatDoor
namespace Go.Proofs.YtjmnolhkkpaodaaGreatDoor
open Go Go.Sx Go.RowKit
theorem Rng.snoc {L : CL} {x : Int × Int} (h : Rng L) (hx : (0 ≤ x.1 ∧ x.1 ≤ 65535) ∧ (0 ≤ x.2 ∧ x.2 ≤ 255)) : Rng (L ++ [x]) := by
 refine ⟨fun y hy => ?_⟩
 rcases List.mem_append.1 hy with h1 | h1
 · exact h.rng y h1
 · rw [List.mem_singleton.1 h1]
   exact hx
theorem Rng.new {p q : Int} {s : CL × Bool} (h : Rng s.1) (hx : (0 ≤ p ∧ p ≤ 65535) ∧ (0 ≤ q ∧ q ≤ 255)) : Rng (newL p q s).1 := by
 unfold newL
 cases (!decide (q = 0))
 · exact h
 · exact h.snoc hx
theorem Rng.old {p : Int} {x : Int × Int} {s : CL × Bool} (h : Rng s.1) (hx : (0 ≤ x.1 ∧ x.1 ≤ 65535) ∧ (0 ≤ x.2 ∧ x.2 ≤ 255)) : Rng (oldL p x s).1 := by
 unfold oldL
 cases (!decide (x.1 = p))
 · exact h
 · exact h.snoc hx
theorem Rng.fold {p q : Int} (hx : (0 ≤ p ∧ p ≤ 65535) ∧ (0 ≤ q ∧ q ≤ 255)) : ∀ (L : CL) (s : CL × Bool), Rng L → Rng s.1 → Rng (L.foldl (rndL p q) s).1
 | [], _, _, hs => hs
 | y :: L, s, hL, hs => by
  refine Rng.fold hx L _ ⟨fun z hz => hL.rng z (List.mem_cons_of_mem _ hz)⟩ ?_
  unfold rndL
  refine Rng.old ?_ (hL.rng y (List.mem_cons_self ..))
  cases s.2
  · rw [cond_false]
    cases decide (y.1 ≥ p)
    · exact hs
    · exact hs.new hx
  · exact hs
theorem Rng.put {p q : Int} (hx : (0 ≤ p ∧ p ≤ 65535) ∧ (0 ≤ q ∧ q ≤ 255)) {L : CL} (h : Rng L) : Rng (putL p q L) := by
 have h1 : Rng (putNL p q L).1 := Rng.fold hx L ([], false) h ⟨fun x hx => by cases hx⟩
 unfold putL
 cases (putNL p q L).2
 · exact h1.new hx
 · exact h1
theorem RowIs.rng {W : World} {a : Option Addr} {n c : Nat} {L : CL} (h : RowIs W a n c L) : Rng L := by
 refine ⟨fun x hx => ?_⟩
 obtain ⟨j, hj⟩ := List.getElem?_of_mem hx
 have hl : j < n := by
  rw [← h.len]
  exact (List.getElem?_eq_some_iff.1 hj).1
 rw [h.at_ j hl, Option.some.injEq] at hj
 subst hj
 exact (h.row.at_ j hl).2.2
end Go.Proofs.YtjmnolhkkpaodaaGreatDoor
namespace Go.Proofs.YtjmnolhkkpaodaaGreatDoor
open Go Go.Sx Go.Ty Go.RowKit
section
variable {p : Par} {S : SB'} {L : Int} {w w' : World}
theorem heap_lt {w : World} {b : Nat} {o : Obj} (h : w.heap[b]? = some o) : b < w.heap.size := (Array.getElem?_eq_some_iff.1 h).1
theorem WT.below (h : WT p S L w) (hb : Below w.heap.size w w') : WT p S L w' := by
 refine ⟨⟨fun {a v} hc => ?_⟩, Nat.le_trans h.size hb.size, fun b x hx => ?_⟩
 · have h1 := h.old.cell hc
   have h2 := cell_lt h1
   simp only [World.cell?, hb.block _ h2] at h1 ⊢
   exact h1
 · obtain ⟨h1, h2, h3, ts, arr, h4, h5, h6, h7⟩ := h.blk b x hx
   exact ⟨h1, h2, h3, ts, arr, h4, h5, (hb.block _ (heap_lt h6)).trans h6, h7⟩
theorem spOut_below {sp : Sp} {M : Nat} {vs : List Value} {u : Value} (hw : WT p S M w) (hb : Below w.heap.size w w') (hpm : sp.pm = none) (hv : sp.rs.ok S p.v0 ((M : Int) + sp.k) u) : SpOut p sp S w M vs S w' u :=
 ⟨.refl _, (WT.below hw hb).mono (by omega), hb.os, hb.tape, hb.output, hb.size, fun b x h => .inl ⟨x, h⟩, fun b hlt _ => hb.block b hlt, hv, fun i c h => by rw [hpm] at h; cases h⟩
theorem cellAt (h : WT p S L w) {b k c : Nat} {t : TypeId} {ts : List CT} (hS : S b = some ⟨true, t, k, c⟩) (hts : p.T true t = some ts) {j o : Nat} {ct : CT} (hj : j < k) (ho : ts[o]? = some ct) (j' : Nat) (hj' : j' = j * ts.length + o) : ∃ v, w.cell? ((⟨b, 0, none⟩ : Addr).add j') = some v ∧ ct.has S p.v0 L v := by
 obtain ⟨_, _, _, ts', arr, h4, _, h6, _, h8⟩ := h.blk b _ hS
 simp only at h4 h6
 rw [hts] at h4
 simp only [Option.some.injEq] at h4
 subst h4
 obtain ⟨v, h9, h10⟩ := h8 j o ct hj ho
 refine ⟨v, ?_, h10⟩
 have ha : (⟨b, 0, none⟩ : Addr).add j' = ⟨b, j', none⟩ := by
  unfold Addr.add
  split
  · rename_i h0; rw [h0]
  · simp
 rw [ha]
 subst hj'
 simp only [World.cell?, h6]
 exact h9
theorem atRow_add (b j s o : Nat) : (atRow (some (⟨b, 0, none⟩ : Addr)) (j : Int) s).add o = (⟨b, 0, none⟩ : Addr).add (j * s + o) := by
 unfold atRow
 rw [Addr.add_add]
 rfl
theorem cellRow (hT : p.T = T28) (h : WT p S L w) {v : Value} {n : Int} (hs : Sl S 97 v n) : ∃ a len c, v = .slice a len c ∧ (len : Int) = n ∧ CellRow w a len c := by
 obtain ⟨a, len, c, rfl, hn, hc⟩ := hs
 refine ⟨a, len, c, rfl, hn, ?_⟩
 rcases hc with ⟨rfl, rfl, rfl⟩ | ⟨b, k, rfl, hS, hk⟩
 · exact ⟨Nat.le_refl _, Nat.zero_le _, fun _ => rfl, fun j hj => by omega⟩
 · obtain ⟨_, h2, h3, _⟩ := h.blk b _ hS
   refine ⟨by simp only at h2; omega, h3, fun hh => by simp at hh, fun j hj => ?_⟩
   have hts : p.T true 97 = some [kU16, kU8] := by rw [hT]; rfl
   obtain ⟨v0, e1, x, rfl, e2, e3⟩ := cellAt h hS hts (j := j) (o := 0) (ct := kU16) (by omega) rfl (j * 2 + 0) rfl
   obtain ⟨v1, e4, y, rfl, e5, e6⟩ := cellAt h hS hts (j := j) (o := 1) (ct := kU8) (by omega) rfl (j * 2 + 1) rfl
   rw [← atRow_add b j 2 0] at e1
   rw [← atRow_add b j 2 1] at e4
   refine ⟨?_, ?_, ?_, ?_⟩
   · unfold iAt isInt; rw [e1]; simp
   · unfold iVal isInt; rw [e4]; simp
   · unfold cAt rdInt; rw [e1]; exact ⟨by simpa [klo, kU16] using e2, by simpa [khi, kU16] using e3⟩
   · unfold cVal rdInt; rw [e4]; exact ⟨by simpa [klo, kU8] using e5, by simpa [khi, kU8] using e6⟩
theorem regRow (hT : p.T = T28) (h : WT p S L w) {v : Value} {n : Int} (hs : Sl S 132 v n) : ∃ a len c, v = .slice a len c ∧ (len : Int) = n ∧ RegRow w a len c := by
 obtain ⟨a, len, c, rfl, hn, hc⟩ := hs
 refine ⟨a, len, c, rfl, hn, ?_⟩
 rcases hc with ⟨rfl, rfl, rfl⟩ | ⟨b, k, rfl, hS, hk⟩
 · exact ⟨Nat.le_refl _, Nat.zero_le _, fun _ => rfl, fun j hj => by omega⟩
 · obtain ⟨_, h2, h3, _⟩ := h.blk b _ hS
   refine ⟨by simp only at h2; omega, h3, fun hh => by simp at hh, fun j hj => ?_⟩
   have hts : p.T true 132 = some [kU16, kU16, .bool, kI64] := by rw [hT]; rfl
   obtain ⟨v0, e1, x, rfl, e2, e3⟩ := cellAt h hS hts (j := j) (o := 0) (ct := kU16) (by omega) rfl (j * 4 + 0) rfl
   obtain ⟨v1, e4, y, rfl, e5, e6⟩ := cellAt h hS hts (j := j) (o := 1) (ct := kU16) (by omega) rfl (j * 4 + 1) rfl
   obtain ⟨v2, e7, z, rfl⟩ := cellAt h hS hts (j := j) (o := 2) (ct := .bool) (by omega) rfl (j * 4 + 2) rfl
   obtain ⟨v3, e8, u, rfl, e9, e10⟩ := cellAt h hS hts (j := j) (o := 3) (ct := kI64) (by omega) rfl (j * 4 + 3) rfl
   rw [← atRow_add b j 4 0] at e1
   rw [← atRow_add b j 4 1] at e4
   rw [← atRow_add b j 4 2] at e7
   rw [← atRow_add b j 4 3] at e8
   refine ⟨?_, ?_, ?_, ?_⟩
   · unfold okF isInt isBool; rw [e1, e4, e7, e8]; simp
   · unfold rI rdInt; rw [e1]; exact ⟨by simpa [klo, kU16] using e2, by simpa [khi, kU16] using e3⟩
   · unfold rI rdInt; rw [e4]; exact ⟨by simpa [klo, kU16] using e5, by simpa [khi, kU16] using e6⟩
   · unfold rI rdInt; rw [e8]; exact ⟨e9, e10⟩
theorem getR_rng {W : World} {a : Option Addr} {n c : Nat} (h : CellRow W a n c) (at' : Int) : ∀ k, k ≤ n → 0 ≤ getR W a at' k ∧ getR W a at' k ≤ 255
 | 0, _ => by simp [getR]
 | k + 1, hk => by
  have ih := getR_rng h at' k (by omega)
  have h1 := (h.at_ k (by omega)).2.2.2
  unfold getR
  cases decide (cAt W a (k : Int) = at')
  · exact ih
  · exact h1
theorem sp55 (hT : p.T = T28) : SpOk Tryz.prog p 55 s55 := by
 refine ⟨⟨Tryz.f55, Tryz.func55, by kernel_rfl, by kernel_rfl⟩, ?_⟩
 intro S w M vs _ hW hv _
 match vs, hv with
 | [v], ⟨⟨n, hs, _⟩, _⟩ =>
  obtain ⟨a, len, c, rfl, _, hr⟩ := cellRow hT hW hs
  refine (valid_calls hr).mono ?_
  rintro en w' ⟨rfl, hb⟩
  exact ⟨_, S, rfl, spOut_below hW hb rfl ⟨_, rfl⟩⟩
theorem sp88 (hT : p.T = T28) : SpOk Tryz.prog p 88 s88 := by
 refine ⟨⟨Tryz.f88, Tryz.func88, by kernel_rfl, by kernel_rfl⟩, ?_⟩
 intro S w M vs _ hW hv _
 match vs, hv with
 | [v], ⟨⟨n, hs, _⟩, _⟩ =>
  obtain ⟨a, len, c, rfl, _, hr⟩ := regRow hT hW hs
  refine (validate_calls hr).mono ?_
  rintro en w' ⟨rfl, hb⟩
  refine ⟨_, S, rfl, spOut_below hW hb rfl ⟨_, rfl, ?_⟩⟩
  unfold vlrR klo khi
  cases decide ((len : Int) > 16) <;> cases vlrO w a len len <;> simp
theorem sp129 (hT : p.T = T28) : SpOk Tryz.prog p 129 s129 := by
 refine ⟨⟨Tryz.f129, Tryz.func129, by kernel_rfl, by kernel_rfl⟩, ?_⟩
 intro S w M vs _ hW hv _
 match vs, hv with
 | [v, u], ⟨⟨n, hs, _⟩, ⟨x, hu, _⟩, _⟩ =>
  subst hu
  obtain ⟨a, len, c, rfl, _, hr⟩ := cellRow hT hW hs
  refine (get_calls hr x).mono ?_
  rintro en w' ⟨rfl, hb⟩
  exact ⟨_, S, rfl, spOut_below hW hb rfl ⟨_, rfl, getR_rng hr x len (Nat.le_refl _)⟩⟩
end
end Go.Proofs.YtjmnolhkkpaodaaGreatDoor
