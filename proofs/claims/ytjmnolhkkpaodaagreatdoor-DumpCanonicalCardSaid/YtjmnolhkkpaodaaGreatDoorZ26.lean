/- A part of the proof: the reference is safe, both packages write and read alike. Several texts in one; printed by slim28.py out of the texts of wip. -/
import Derived.Test.YtjmnolhkkpaodaaGreatDoorZ25
import Derived.Test.YtjmnolhkkpaodaaGreatDoorProg
set_option linter.all false
namespace Go.Proofs.YtjmnolhkkpaodaaGreatDoor
open Go Go.Sx Go.RowKit
set_option maxRecDepth 100000
noncomputable def bodyOf (f : Func) : Code := match f.body with
 | some c => c
 | none => .skip
noncomputable def lb129 : Code := match bodyOf Tryz.f129 with
 | .seq _ (.seq (.seq _ (.block _ (.loop b))) _) => b
 | _ => .skip
def SP129 (a : Option Addr) (n c : Nat) (at' v : Int) : SL := [(0, .one (.sl a n c)), (1, .one (.int .u16 (.sym at'))), (5, .one (.int .i64 (.sym v)))]
noncomputable def r129 (W : World) (a : Option Addr) (n c : Nat) (at' v : Int) : RG := (runG Tryz.prog W [] 100000 25 .plain lb129 (SP129 a n c at' v) ⟨[], [], 0⟩ []).slim 0 [(0, false), (1, false), (5, true)] [] [(4, false)] []
def cAt (W : World) (a : Option Addr) (v : Int) : Int := rdInt W ((atRow a v 2).add 0)
def cVal (W : World) (a : Option Addr) (v : Int) : Int := rdInt W ((atRow a v 2).add 1)
def iAt (W : World) (a : Option Addr) (v : Int) : Bool := isInt W .u16 ((atRow a v 2).add 0)
def iVal (W : World) (a : Option Addr) (v : Int) : Bool := isInt W .u8 ((atRow a v 2).add 1)
structure CellRow (W : World) (a : Option Addr) (n c : Nat) : Prop where
 le : n ≤ c
 max : c ≤ maxLen
 nil : a = none → n = 0
 at_ : ∀ j : Nat, j < n → iAt W a j = true ∧ iVal W a j = true ∧ (0 ≤ cAt W a j ∧ cAt W a j ≤ 65535) ∧ (0 ≤ cVal W a j ∧ cVal W a j ≤ 255)
def v1G (W : World) (a : Option Addr) (n : Nat) (v : Int) : Bool := inRow a n v && iAt W a v
theorem r129_eq (W : World) (a : Option Addr) (n c : Nat) (at' v : Int) : r129 W a n c at' v = .br (decide (v ≥ 0)) (.br (decide (cAt W a v = at')) (.leaf .ret (.sym (v1G W a n v && (inRow a n v && iVal W a v))) [(4, .one (.int .u8 (.sym (cVal W a v))))] ⟨[], [], 0⟩ []) (.leaf .nrm (.sym (v1G W a n v)) (SP129 a n c at' (gsub .i64 v 1)) ⟨[], [], 0⟩ []))
 (.leaf (.exit 0) (.lit true) [] ⟨[], [], 0⟩ []) := by kernel_rfl
def getR (W : World) (a : Option Addr) (at' : Int) : Nat → Int
 | 0 => 0
 | n + 1 => bif decide (cAt W a (n : Int) = at') then cVal W a (n : Int) else getR W a at' n
def End129 (z : Option Int) : RG := match z with
 | some q => .leaf .ret (.lit true) [(4, .one (.int .u8 (.sym q)))] ⟨[], [], 0⟩ []
 | none => .leaf (.exit 0) (.lit true) [] ⟨[], [], 0⟩ []
def getO (W : World) (a : Option Addr) (at' : Int) : Nat → Option Int
 | 0 => none
 | n + 1 => bif decide (cAt W a (n : Int) = at') then some (cVal W a (n : Int)) else getO W a at' n
theorem getO_succ (W : World) (a : Option Addr) (at' : Int) (n : Nat) : getO W a at' (n + 1) = bif decide (cAt W a (n : Int) = at') then some (cVal W a (n : Int)) else getO W a at' n := rfl
theorem getO_R (W : World) (a : Option Addr) (at' : Int) : ∀ n, getR W a at' n = (getO W a at' n).getD 0
 | 0 => rfl
 | n + 1 => by
  unfold getR getO
  cases decide (cAt W a (n : Int) = at')
  · exact getO_R W a at' n
  · rfl
theorem inRow_ok {a : Option Addr} {n : Nat} {v : Nat} (hn : a = none → n = 0) (h : v < n) : inRow a n (v : Int) = true := by
 unfold inRow
 cases a with
 | none => have := hn rfl; omega
 | some q =>
  rw [decide_eq_true (by omega), decide_eq_true (by omega)]
  rfl
structure Inv129 (W : World) (a : Option Addr) (n : Nat) (at' : Int) (v : Int) : Prop where
 lo : -1 ≤ v
 hi : v < n
 sc : getO W a at' (v + 1).toNat = getO W a at' n
theorem step129 {W : World} {a : Option Addr} {n c : Nat} (h : CellRow W a n c) (at' : Int) : StepOk (W : Bs) Tryz.prog [] 100000 25 .plain lb129 0 [(0, false), (1, false), (5, true)] [] [(4, false)] [] (Inv129 W a n at') (fun v => (v + 1).toNat) (SP129 a n c at') (fun _ => []) (fun _ => []) (End129 (getO W a at' n)) := by
 constructor
 intro v hv
 have hr := r129_eq W a n c at' v
 unfold r129 at hr
 rw [show (Bs.of W).W = W from rfl, hr]
 obtain ⟨hlo, hhi, hsc⟩ := hv
 have hmx := h.max
 have hle := h.le
 have hml : maxLen = 9223372036854775807 := rfl
 constructor
 · intro h0
   have h0 := of_decide_eq_true h0
   obtain ⟨m, rfl⟩ : ∃ m : Nat, v = m := ⟨v.toNat, by omega⟩
   obtain ⟨h1, h2, _, _⟩ := h.at_ m (by omega)
   have hin := inRow_ok h.nil (show m < n by omega)
   have e1 : ((m : Int) + 1).toNat = m + 1 := by omega
   rw [e1, getO_succ] at hsc
   have hg : gsub .i64 (m : Int) 1 = (m : Int) - 1 := by
    unfold gsub
    rw [IntKind.wrap_i64]
    omega
   constructor
   · intro hc
     rw [hc, cond_true] at hsc
     refine ⟨?_, .inr ⟨by simp, fun f a w hst e' he' => ?_⟩⟩
     · rw [SB.val_sym]
       unfold v1G
       rw [hin, h1, h2]
       rfl
     · rw [← hsc]
       exact ⟨he', f, hst⟩
   · intro hc
     rw [hc, cond_false] at hsc
     refine ⟨?_, .inl ⟨rfl, (m : Int) - 1, ⟨by omega, by omega, ?_⟩, by omega, by rw [hg], rfl, rfl⟩⟩
     · rw [SB.val_sym]
       unfold v1G
       rw [hin, h1]
       rfl
     · rw [show ((m : Int) - 1 + 1).toNat = m by omega]
       exact hsc
 · intro h0
   have h0 := of_decide_eq_false h0
   refine ⟨rfl, .inr ⟨by simp, fun f a w hst e' he' => ?_⟩⟩
   rw [show (v + 1).toNat = 0 by omega] at hsc
   rw [← hsc]
   exact ⟨he', f, hst⟩
noncomputable def h129 (a : Option Addr) (n c : Nat) (at' : Int) (z : Option Int) : LG := .at_ true [(0, false), (1, false), (5, true)] [] 0 (SP129 a n c at' (gsub .i64 (n : Int) 1)) [] [] (End129 z)
theorem loop129 {W : World} {a : Option Addr} {n c : Nat} (h : CellRow W a n c) (at' : Int) : LoopGOk (W : Bs) Tryz.prog 25 lb129 (h129 a n c at' (getO W a at' n)) := by
 refine loopG_step (t := .plain) (gok_nil W) (hgB_ok (W := (W : Bs)) (P := Tryz.prog) (nt := 25) .plain lb129 rfl) rfl rfl (step129 h at') ?_
 intro _
 have hmx := h.max
 have hle := h.le
 have hml : maxLen = 9223372036854775807 := rfl
 have hg : gsub .i64 (n : Int) 1 = (n : Int) - 1 := by
  unfold gsub
  rw [IntKind.wrap_i64]
  omega
 exact ⟨(n : Int) - 1, ⟨by omega, by omega, by rw [show ((n : Int) - 1 + 1).toNat = n by omega]⟩, by rw [hg], rfl, .inl rfl⟩
noncomputable def t129 (a : Option Addr) (n c : Nat) (at' : Int) (z : Option Int) : HG := .seq .plain (.seq (.seq .plain (.block (.loop (h129 a n c at' z)))) .plain)
noncomputable def x129 (W : World) (a : Option Addr) (n c : Nat) (at' : Int) (z : Option Int) : RG := (runG Tryz.prog W [] 100000 25 (t129 a n c at' z) (bodyOf Tryz.f129) (argSlots 0 [.one (.sl a n c), .one (.int .u16 (.sym at'))]) noMem []).slim 0 [] [] [(4, false)] []
noncomputable def v129 (a : Option Addr) (n c : Nat) (at' : Int) : Bool := true && (sameS (SP129 a n c at' (gsub .i64 (n : Int) 1)) (SP129 a n c at' (gsub .i64 (n : Int) 1)) && (sameB [] [] && @decide (([] : Gh) = []) (Classical.propDecidable _)))
theorem x129_no (W : World) (a : Option Addr) (n c : Nat) (at' : Int) : x129 W a n c at' none = .leaf .ret (.sym (v129 a n c at')) [(4, .one (.int .u8 (.lit 0)))] ⟨[], [], 0⟩ [] := by kernel_rfl
theorem x129_yes (W : World) (a : Option Addr) (n c : Nat) (at' q : Int) : x129 W a n c at' (some q) = .leaf .ret (.sym (v129 a n c at')) [(4, .one (.int .u8 (.sym q)))] ⟨[], [], 0⟩ [] := by kernel_rfl
theorem get_calls {W : World} {a : Option Addr} {n c : Nat} (h : CellRow W a n c) (at' : Int) : Calls Tryz.prog 129 #[.slice a n c, .int .u16 at'] W fun en w' => en = .returned (.int .u8 (getR W a at' n)) ∧ Below W.heap.size W w' := by
 have hv : (SB.sym (v129 a n c at')).val = true := by
  rw [SB.val_sym]
  unfold v129
  rw [sameS_refl (by rfl), sameB_refl (by rfl), @decide_eq_true _ (Classical.propDecidable _) rfl]
  rfl
 have hcalls := calls_of_runG (gok_nil W) (n := 100000) (g := 129) Tryz.func129 (show Tryz.f129.body = some (bodyOf Tryz.f129) by kernel_rfl) (t := t129 a n c at' (getO W a at' n)) (args := [.one (.sl a n c), .one (.int .u16 (.sym at'))]) ?_ (by rw [show Tryz.f129.ntmps = 25 by kernel_rfl]; simp)
  (R := fun v _ => ∃ q, v = .one (.int .u8 q) ∧ q.val = getR W a at' n) (N := 0) (ks := []) (bs := []) (ke := [(4, false)]) (be := []) rfl rfl ?_
 · refine hcalls.mono ?_
   rintro en w' ⟨v, g, f, ⟨q, rfl, hq⟩, rfl, _, hb⟩
   refine ⟨?_, hb⟩
   rw [← hq]
   rfl
 · have e : HGOk (W : Bs) Tryz.prog Tryz.f129.ntmps (t129 a n c at' (getO W a at' n)) (bodyOf Tryz.f129) = (True ∧ (True ∧ LoopGOk (W : Bs) Tryz.prog 25 lb129 (h129 a n c at' (getO W a at' n))) ∧ True) := by kernel_rfl
   rw [e]
   exact ⟨trivial, ⟨trivial, loop129 h at'⟩, trivial⟩
 · rw [show Tryz.f129.ntmps = 25 by kernel_rfl]
   show (x129 W a n c at' (getO W a at' n)).All _
   rw [getO_R]
   cases hz : getO W a at' n with
   | none =>
    rw [x129_no]
    exact ⟨hv, .inr rfl, [(false, [.int .u8 (.lit 0)])], _, by kernel_rfl, rfl, _, rfl, rfl⟩
   | some q =>
    rw [x129_yes]
    exact ⟨hv, .inr rfl, [(false, [.int .u8 (.sym q)])], _, by kernel_rfl, rfl, _, rfl, rfl⟩
end Go.Proofs.YtjmnolhkkpaodaaGreatDoor
namespace Go.Proofs.YtjmnolhkkpaodaaGreatDoor
open Go Go.Sx Go.RowKit
set_option maxRecDepth 100000
noncomputable def lb111 : Code := match bodyOf Tryz.f111 with
 | .seq _ (.seq (.seq _ (.block _ (.loop b))) _) => b
 | _ => .skip
def SP111 (a : Option Addr) (n c : Nat) (at' v : Int) : SL := [(1, .one (.int .u16 (.sym at'))), (7, .one (.sl a n c)), (8, .one (.int .i64 (.sym (n : Int)))), (9, .one (.int .i64 (.sym v)))]
def ks111 : List (Nat × Bool) := [(1, false), (7, false), (8, false), (9, true)]
noncomputable def r111 (W : World) (a : Option Addr) (n c : Nat) (at' v : Int) : RG := (runG Tryz.prog W [] 100000 26 .plain lb111 (SP111 a n c at' v) ⟨[], [], 0⟩ []).slim 0 ks111 [] [(4, false)] []
def rI (W : World) (a : Option Addr) (v : Int) (o : Nat) : Int := rdInt W ((atRow a v 4).add o)
def hitF (W : World) (a : Option Addr) (at' v : Int) : Bool := bif decide (rI W a v 0 ≤ at') then decide (at' ≤ rI W a v 1) else false
def okF (W : World) (a : Option Addr) (v : Int) : Bool := isInt W .u16 ((atRow a v 4).add 0) && (isInt W .u16 ((atRow a v 4).add 1) && (isBool W ((atRow a v 4).add 2) && (isInt W .i64 ((atRow a v 4).add 3) && true)))
structure RegRow (W : World) (a : Option Addr) (n c : Nat) : Prop where
 le : n ≤ c
 max : c ≤ maxLen
 nil : a = none → n = 0
 at_ : ∀ j : Nat, j < n → okF W a j = true ∧ (0 ≤ rI W a j 0 ∧ rI W a j 0 ≤ 65535) ∧ (0 ≤ rI W a j 1 ∧ rI W a j 1 ≤ 65535) ∧ (IntKind.i64.min ≤ rI W a j 3 ∧ rI W a j 3 ≤ IntKind.i64.max)
theorem r111_eq (W : World) (a : Option Addr) (n c : Nat) (at' v : Int) : r111 W a n c at' v = .br (decide (v < (n : Int))) (.br (hitF W a at' v) (.leaf .ret (.sym (inRow a n v && okF W a v)) [(4, .one (.int .i64 (.sym v)))] ⟨[], [], 0⟩ []) (.leaf .nrm (.sym (inRow a n v && okF W a v)) (SP111 a n c at' (gadd .i64 v 1)) ⟨[], [], 0⟩ []))
 (.leaf (.exit 0) (.lit true) [] ⟨[], [], 0⟩ []) := by kernel_rfl
def fndO (W : World) (a : Option Addr) (at' : Int) (n : Nat) : Nat → Option Nat
 | 0 => none
 | k + 1 => bif hitF W a at' ((n - (k + 1) : Nat) : Int) then some (n - (k + 1)) else fndO W a at' n k
theorem fndO_step {W : World} {a : Option Addr} {at' : Int} {n v : Nat} (hv : v < n) : fndO W a at' n (n - v) = bif hitF W a at' (v : Int) then some v else fndO W a at' n (n - (v + 1)) := by
 have e : n - v = (n - (v + 1)) + 1 := by omega
 rw [e]
 show (bif hitF W a at' ((n - ((n - (v + 1)) + 1) : Nat) : Int) then some (n - ((n - (v + 1)) + 1)) else fndO W a at' n (n - (v + 1))) = _
 rw [show n - ((n - (v + 1)) + 1) = v by omega]
theorem fndO_lt {W : World} {a : Option Addr} {at' : Int} {n u : Nat} : ∀ {k : Nat}, k ≤ n → fndO W a at' n k = some u → u < n
 | 0, _, h => by cases h
 | k + 1, hk, h => by
  unfold fndO at h
  cases hb : hitF W a at' ((n - (k + 1) : Nat) : Int)
  · rw [hb, cond_false] at h
    exact fndO_lt (by omega) h
  · rw [hb, cond_true, Option.some.injEq] at h
    omega
def End111 (z : Option Nat) : RG := match z with
 | some u => .leaf .ret (.lit true) [(4, .one (.int .i64 (.sym (u : Int))))] ⟨[], [], 0⟩ []
 | none => .leaf (.exit 0) (.lit true) [] ⟨[], [], 0⟩ []
structure Inv111 (W : World) (a : Option Addr) (n : Nat) (at' : Int) (v : Nat) : Prop where
 hi : v ≤ n
 sc : fndO W a at' n (n - v) = fndO W a at' n n
theorem step111 {W : World} {a : Option Addr} {n c : Nat} (h : RegRow W a n c) (at' : Int) : StepOk (W : Bs) Tryz.prog [] 100000 26 .plain lb111 0 ks111 [] [(4, false)] [] (Inv111 W a n at') (fun v => n - v) (fun v => SP111 a n c at' (v : Int)) (fun _ => []) (fun _ => []) (End111 (fndO W a at' n n)) := by
 constructor
 intro v hv
 have hr := r111_eq W a n c at' (v : Int)
 unfold r111 at hr
 rw [show (Bs.of W).W = W from rfl, hr]
 obtain ⟨hhi, hsc⟩ := hv
 have hmx := h.max
 have hle := h.le
 have hml : maxLen = 9223372036854775807 := rfl
 constructor
 · intro h0
   have h0 : v < n := by have := of_decide_eq_true h0; omega
   obtain ⟨h1, _⟩ := h.at_ v h0
   have hin := inRow_ok h.nil h0
   have hvc : (SB.sym (inRow a n (v : Int) && okF W a (v : Int))).val = true := by
    rw [SB.val_sym, hin, h1]
    rfl
   have hs := fndO_step (W := W) (a := a) (at' := at') h0
   constructor
   · intro hc
     rw [hc, cond_true, hsc] at hs
     refine ⟨hvc, .inr ⟨by simp, fun f a w hst e' he' => ?_⟩⟩
     rw [hs]
     exact ⟨he', f, hst⟩
   · intro hc
     rw [hc, cond_false] at hs
     have hg : gadd .i64 (v : Int) 1 = ((v + 1 : Nat) : Int) := by
      unfold gadd
      rw [IntKind.wrap_i64]
      omega
     exact ⟨hvc, .inl ⟨rfl, v + 1, ⟨by omega, by rw [← hsc, hs]⟩, by omega, by rw [hg], rfl, rfl⟩⟩
 · intro h0
   have h0 := of_decide_eq_false h0
   refine ⟨rfl, .inr ⟨by simp, fun f a w hst e' he' => ?_⟩⟩
   rw [show n - v = 0 by omega] at hsc
   rw [← hsc]
   exact ⟨he', f, hst⟩
noncomputable def h111 (a : Option Addr) (n c : Nat) (at' : Int) (z : Option Nat) : LG := .at_ true ks111 [] 0 (SP111 a n c at' 0) [] [] (End111 z)
theorem loop111 {W : World} {a : Option Addr} {n c : Nat} (h : RegRow W a n c) (at' : Int) : LoopGOk (W : Bs) Tryz.prog 26 lb111 (h111 a n c at' (fndO W a at' n n)) := by
 refine loopG_step (t := .plain) (gok_nil W) (hgB_ok (W := (W : Bs)) (P := Tryz.prog) (nt := 26) .plain lb111 rfl) rfl rfl (step111 h at') ?_
 intro _
 exact ⟨0, ⟨by omega, rfl⟩, rfl, rfl, .inl rfl⟩
noncomputable def t111 (a : Option Addr) (n c : Nat) (at' : Int) (z : Option Nat) : HG := .seq .plain (.seq (.seq .plain (.block (.loop (h111 a n c at' z)))) .plain)
noncomputable def x111 (W : World) (a : Option Addr) (n c : Nat) (at' : Int) (z : Option Nat) : RG := (runG Tryz.prog W [] 100000 26 (t111 a n c at' z) (bodyOf Tryz.f111) (argSlots 0 [.one (.sl a n c), .one (.int .u16 (.sym at'))]) noMem []).slim 0 [] [] [(4, false)] []
noncomputable def v111 (a : Option Addr) (n c : Nat) (at' : Int) : Bool := true && (sameS (SP111 a n c at' 0) (SP111 a n c at' 0) && (sameB [] [] && @decide (([] : Gh) = []) (Classical.propDecidable _)))
theorem x111_no (W : World) (a : Option Addr) (n c : Nat) (at' : Int) : x111 W a n c at' none = .leaf .ret (.sym (v111 a n c at')) [(4, .one (.int .i64 (.lit (-1))))] ⟨[], [], 0⟩ [] := by kernel_rfl
theorem x111_yes (W : World) (a : Option Addr) (n c : Nat) (at' : Int) (u : Nat) : x111 W a n c at' (some u) = .leaf .ret (.sym (v111 a n c at')) [(4, .one (.int .i64 (.sym (u : Int))))] ⟨[], [], 0⟩ [] := by kernel_rfl
def fndR (W : World) (a : Option Addr) (at' : Int) (n : Nat) : Int := match fndO W a at' n n with
 | some u => (u : Int)
 | none => -1
theorem find_calls {W : World} {a : Option Addr} {n c : Nat} (h : RegRow W a n c) (at' : Int) : Calls Tryz.prog 111 #[.slice a n c, .int .u16 at'] W fun en w' => en = .returned (.int .i64 (fndR W a at' n)) ∧ Below W.heap.size W w' := by
 have hv : (SB.sym (v111 a n c at')).val = true := by
  rw [SB.val_sym]
  unfold v111
  rw [sameS_refl (by rfl), sameB_refl (by rfl), @decide_eq_true _ (Classical.propDecidable _) rfl]
  rfl
 have hcalls := calls_of_runG (gok_nil W) (n := 100000) (g := 111) Tryz.func111 (show Tryz.f111.body = some (bodyOf Tryz.f111) by kernel_rfl) (t := t111 a n c at' (fndO W a at' n n)) (args := [.one (.sl a n c), .one (.int .u16 (.sym at'))]) ?_ (by rw [show Tryz.f111.ntmps = 26 by kernel_rfl]; simp)
  (R := fun v _ => ∃ q, v = .one (.int .i64 q) ∧ q.val = fndR W a at' n) (N := 0) (ks := []) (bs := []) (ke := [(4, false)]) (be := []) rfl rfl ?_
 · refine hcalls.mono ?_
   rintro en w' ⟨v, g, f, ⟨q, rfl, hq⟩, rfl, _, hb⟩
   refine ⟨?_, hb⟩
   rw [← hq]
   rfl
 · have e : HGOk (W : Bs) Tryz.prog Tryz.f111.ntmps (t111 a n c at' (fndO W a at' n n)) (bodyOf Tryz.f111) = (True ∧ (True ∧ LoopGOk (W : Bs) Tryz.prog 26 lb111 (h111 a n c at' (fndO W a at' n n))) ∧ True) := by kernel_rfl
   rw [e]
   exact ⟨trivial, ⟨trivial, loop111 h at'⟩, trivial⟩
 · rw [show Tryz.f111.ntmps = 26 by kernel_rfl]
   show (x111 W a n c at' (fndO W a at' n n)).All _
   unfold fndR
   cases hz : fndO W a at' n n with
   | none =>
    rw [x111_no]
    exact ⟨hv, .inr rfl, [(false, [.int .i64 (.lit (-1))])], _, by kernel_rfl, rfl, _, rfl, rfl⟩
   | some u =>
    rw [x111_yes]
    exact ⟨hv, .inr rfl, [(false, [.int .i64 (.sym (u : Int))])], _, by kernel_rfl, rfl, _, rfl, rfl⟩
theorem fndR_rng (W : World) (a : Option Addr) (at' : Int) (n : Nat) : -1 ≤ fndR W a at' n ∧ fndR W a at' n < (n : Int) ∨ n = 0 ∧ fndR W a at' n = -1 := by
 unfold fndR
 cases hz : fndO W a at' n n with
 | none =>
  show -1 ≤ (-1 : Int) ∧ (-1 : Int) < n ∨ _
  left
  omega
 | some u =>
  have := fndO_lt (Nat.le_refl n) hz
  show -1 ≤ (u : Int) ∧ (u : Int) < n ∨ _
  left
  omega
end Go.Proofs.YtjmnolhkkpaodaaGreatDoor
namespace Go.Proofs.YtjmnolhkkpaodaaGreatDoor
open Go Go.Sx Go.RowKit
set_option maxRecDepth 100000
noncomputable def lb55 : Code := match bodyOf Tryz.f55 with
 | .seq _ (.seq (.seq _ (.block _ (.loop b))) _) => b
 | _ => .skip
def SP55 (a : Option Addr) (n c : Nat) (v : Int) : SL := [(0, .one (.sl a n c)), (5, .one (.int .i64 (.sym (n : Int)))), (6, .one (.int .i64 (.sym v)))]
def ks55 : List (Nat × Bool) := [(0, false), (5, false), (6, true)]
noncomputable def r55 (W : World) (a : Option Addr) (n c : Nat) (v : Int) : RG := (runG Tryz.prog W [] 100000 34 .plain lb55 (SP55 a n c v) ⟨[], [], 0⟩ []).slim 0 ks55 [] [(2, false)] []
def vm (v : Int) : Int := gsub .i64 v 1
def badV (W : World) (a : Option Addr) (v : Int) : Bool := bif (cVal W a v == 0) then true else bif decide (v > 0) then decide (cAt W a v ≤ cAt W a (vm v)) else false
def q1 (W : World) (a : Option Addr) (n : Nat) (v : Int) : Bool := inRow a n v && iVal W a v
def q2 (W : World) (a : Option Addr) (n : Nat) (v : Int) : Bool := bif (cVal W a v == 0) then q1 W a n v else bif decide (v > 0) then (inRow a n v && (iVal W a v && (inRow a n v && (iAt W a v && (inRow a n (vm v) && iAt W a (vm v)))))) else q1 W a n v
theorem r55_eq (W : World) (a : Option Addr) (n c : Nat) (v : Int) : r55 W a n c v = .br (decide (v < (n : Int))) (.br (badV W a v) (.leaf .ret (.sym (q2 W a n v)) [(2, .one (.bool (.lit false)))] ⟨[], [], 0⟩ []) (.leaf .nrm (.sym (q2 W a n v)) (SP55 a n c (gadd .i64 v 1)) ⟨[], [], 0⟩ []))
 (.leaf (.exit 0) (.lit true) [] ⟨[], [], 0⟩ []) := by kernel_rfl
def vldO (W : World) (a : Option Addr) (n : Nat) : Nat → Bool
 | 0 => true
 | k + 1 => bif badV W a ((n - (k + 1) : Nat) : Int) then false else vldO W a n k
theorem vldO_step {W : World} {a : Option Addr} {n v : Nat} (hv : v < n) : vldO W a n (n - v) = bif badV W a (v : Int) then false else vldO W a n (n - (v + 1)) := by
 have e : n - v = (n - (v + 1)) + 1 := by omega
 rw [e]
 show (bif badV W a ((n - ((n - (v + 1)) + 1) : Nat) : Int) then false else vldO W a n (n - (v + 1))) = _
 rw [show n - ((n - (v + 1)) + 1) = v by omega]
def End55 (z : Bool) : RG := match z with
 | false => .leaf .ret (.lit true) [(2, .one (.bool (.lit false)))] ⟨[], [], 0⟩ []
 | true => .leaf (.exit 0) (.lit true) [] ⟨[], [], 0⟩ []
structure Inv55 (W : World) (a : Option Addr) (n : Nat) (v : Nat) : Prop where
 hi : v ≤ n
 sc : vldO W a n (n - v) = vldO W a n n
theorem step55 {W : World} {a : Option Addr} {n c : Nat} (h : CellRow W a n c) : StepOk (W : Bs) Tryz.prog [] 100000 34 .plain lb55 0 ks55 [] [(2, false)] [] (Inv55 W a n) (fun v => n - v) (fun v => SP55 a n c (v : Int)) (fun _ => []) (fun _ => []) (End55 (vldO W a n n)) := by
 constructor
 intro v hv
 have hr := r55_eq W a n c (v : Int)
 unfold r55 at hr
 rw [show (Bs.of W).W = W from rfl, hr]
 obtain ⟨hhi, hsc⟩ := hv
 have hmx := h.max
 have hle := h.le
 have hml : maxLen = 9223372036854775807 := rfl
 constructor
 · intro h0
   have h0 : v < n := by have := of_decide_eq_true h0; omega
   obtain ⟨h1, h2, _⟩ := h.at_ v h0
   have hin := inRow_ok h.nil h0
   have hvc : (SB.sym (q2 W a n (v : Int))).val = true := by
    rw [SB.val_sym]
    have hq1 : q1 W a n (v : Int) = true := by
     unfold q1
     rw [hin, h2]
     rfl
    unfold q2
    cases (cVal W a (v : Int) == 0)
    · cases hd : decide ((v : Int) > 0)
      · exact hq1
      · have hd := of_decide_eq_true hd
        have hvm : vm (v : Int) = ((v - 1 : Nat) : Int) := by
         unfold vm gsub
         rw [IntKind.wrap_i64]
         omega
        obtain ⟨h3, _⟩ := h.at_ (v - 1) (by omega)
        have hin2 := inRow_ok h.nil (show v - 1 < n by omega)
        rw [hvm, hin, hin2, h1, h2, h3]
        rfl
    · exact hq1
   have hs := vldO_step (W := W) (a := a) h0
   constructor
   · intro hc
     rw [hc, cond_true, hsc] at hs
     refine ⟨hvc, .inr ⟨by simp, fun f a w hst e' he' => ?_⟩⟩
     rw [hs]
     exact ⟨he', f, hst⟩
   · intro hc
     rw [hc, cond_false] at hs
     have hg : gadd .i64 (v : Int) 1 = ((v + 1 : Nat) : Int) := by
      unfold gadd
      rw [IntKind.wrap_i64]
      omega
     exact ⟨hvc, .inl ⟨rfl, v + 1, ⟨by omega, by rw [← hsc, hs]⟩, by omega, by rw [hg], rfl, rfl⟩⟩
 · intro h0
   have h0 := of_decide_eq_false h0
   refine ⟨rfl, .inr ⟨by simp, fun f a w hst e' he' => ?_⟩⟩
   rw [show n - v = 0 by omega] at hsc
   rw [← hsc]
   exact ⟨he', f, hst⟩
noncomputable def h55 (a : Option Addr) (n c : Nat) (z : Bool) : LG := .at_ true ks55 [] 0 (SP55 a n c 0) [] [] (End55 z)
theorem loop55 {W : World} {a : Option Addr} {n c : Nat} (h : CellRow W a n c) : LoopGOk (W : Bs) Tryz.prog 34 lb55 (h55 a n c (vldO W a n n)) := by
 refine loopG_step (t := .plain) (gok_nil W) (hgB_ok (W := (W : Bs)) (P := Tryz.prog) (nt := 34) .plain lb55 rfl) rfl rfl (step55 h) ?_
 intro _
 exact ⟨0, ⟨by omega, rfl⟩, rfl, rfl, .inl rfl⟩
noncomputable def t55 (a : Option Addr) (n c : Nat) (z : Bool) : HG := .seq .plain (.seq (.seq .plain (.block (.loop (h55 a n c z)))) .plain)
noncomputable def x55 (W : World) (a : Option Addr) (n c : Nat) (z : Bool) : RG := (runG Tryz.prog W [] 100000 34 (t55 a n c z) (bodyOf Tryz.f55) (argSlots 0 [.one (.sl a n c)]) noMem []).slim 0 [] [] [(2, false)] []
noncomputable def v55 (a : Option Addr) (n c : Nat) : Bool := true && (sameS (SP55 a n c 0) (SP55 a n c 0) && (sameB [] [] && @decide (([] : Gh) = []) (Classical.propDecidable _)))
theorem x55_no (W : World) (a : Option Addr) (n c : Nat) : x55 W a n c false = .leaf .ret (.sym (v55 a n c)) [(2, .one (.bool (.lit false)))] ⟨[], [], 0⟩ [] := by kernel_rfl
theorem x55_yes (W : World) (a : Option Addr) (n c : Nat) : x55 W a n c true = .leaf .ret (.sym (v55 a n c)) [(2, .one (.bool (.lit true)))] ⟨[], [], 0⟩ [] := by kernel_rfl
theorem valid_calls {W : World} {a : Option Addr} {n c : Nat} (h : CellRow W a n c) : Calls Tryz.prog 55 #[.slice a n c] W fun en w' => en = .returned (.bool (vldO W a n n)) ∧ Below W.heap.size W w' := by
 have hv : (SB.sym (v55 a n c)).val = true := by
  rw [SB.val_sym]
  unfold v55
  rw [sameS_refl (by rfl), sameB_refl (by rfl), @decide_eq_true _ (Classical.propDecidable _) rfl]
  rfl
 have hcalls := calls_of_runG (gok_nil W) (n := 100000) (g := 55) Tryz.func55 (show Tryz.f55.body = some (bodyOf Tryz.f55) by kernel_rfl) (t := t55 a n c (vldO W a n n)) (args := [.one (.sl a n c)]) ?_ (by rw [show Tryz.f55.ntmps = 34 by kernel_rfl]; simp)
  (R := fun v _ => v = .one (.bool (.lit (vldO W a n n)))) (N := 0) (ks := []) (bs := []) (ke := [(2, false)]) (be := []) rfl rfl ?_
 · refine hcalls.mono ?_
   rintro en w' ⟨v, g, f, rfl, rfl, _, hb⟩
   exact ⟨rfl, hb⟩
 · have e : HGOk (W : Bs) Tryz.prog Tryz.f55.ntmps (t55 a n c (vldO W a n n)) (bodyOf Tryz.f55) = (True ∧ (True ∧ LoopGOk (W : Bs) Tryz.prog 34 lb55 (h55 a n c (vldO W a n n))) ∧ True) := by kernel_rfl
   rw [e]
   exact ⟨trivial, ⟨trivial, loop55 h⟩, trivial⟩
 · rw [show Tryz.f55.ntmps = 34 by kernel_rfl]
   show (x55 W a n c (vldO W a n n)).All _
   cases hz : vldO W a n n with
   | false =>
    rw [x55_no]
    exact ⟨hv, .inr rfl, [(false, [.bool (.lit false)])], _, by kernel_rfl, rfl, rfl⟩
   | true =>
    rw [x55_yes]
    exact ⟨hv, .inr rfl, [(false, [.bool (.lit true)])], _, by kernel_rfl, rfl, rfl⟩
end Go.Proofs.YtjmnolhkkpaodaaGreatDoor
namespace Go.Sx
open Go Go.RowKit
theorem specV_calls {W : World} {P : Program} {g : FuncId} {F : List TV → Option (SB × TV)}
  (fn : ∃ fn, P.funcs[g]? = some fn ∧ (fn.name == "runtime.NumGoroutine") = false ∧ fn.body.isNone = false)
  (h : ∀ args c v, F args = some (c, v) → c.val = true → v ≠ .un ∧ ∀ w, Old W w → ∀ f : Nat → Nat, Calls P g (args.map (TV.den f)).toArray w fun en w' => en = .returned (v.den f) ∧ Below w.heap.size w w') : SpecOk W P g (specV F) := by
 refine ⟨fn, ?_⟩
 intro args C K e f w he _ hvc _ _ hW _
 simp only [specV] at he
 split at he
 · rename_i c v hv
   simp only [Option.some.injEq] at he
   subst he
   obtain ⟨h3, h4⟩ := h args c v hv hvc
   refine ⟨h3, fun p hp => by simp at hp, ?_⟩
   exact (h4 w hW f).mono fun en w' ⟨hf, hb⟩ => ⟨hf, ⟨hb.os, hb.tape, hb.output, hb.size, fun i hi => hb.block i hi⟩⟩
 · simp at he
theorem Old.int {W w : World} (h : Old W w) {k : IntKind} {a : Addr} (hi : isInt W k a = true) : isInt w k a = true ∧ rdInt w a = rdInt W a := by
 have h1 := isInt_cell hi
 have h2 := h.cell h1
 refine ⟨?_, ?_⟩
 · unfold isInt
   rw [h2]
   simp
 · unfold rdInt
   rw [h2, h1]
theorem Old.bool {W w : World} (h : Old W w) {a : Addr} (hi : isBool W a = true) : isBool w a = true ∧ rdBool w a = rdBool W a := by
 have h1 := isBool_cell hi
 have h2 := h.cell h1
 refine ⟨?_, ?_⟩
 · unfold isBool
   rw [h2]
 · unfold rdBool
   rw [h2, h1]
end Go.Sx
namespace Go.Proofs.YtjmnolhkkpaodaaGreatDoor
open Go Go.Sx Go.RowKit
set_option maxRecDepth 100000
theorem CellRow.same {W w : World} (ho : Old W w) {a : Option Addr} {n c : Nat} (h : CellRow W a n c) (j : Nat) (hj : j < n) : (iAt w a j = true ∧ cAt w a j = cAt W a j) ∧ (iVal w a j = true ∧ cVal w a j = cVal W a j) :=
 ⟨ho.int (h.at_ j hj).1, ho.int (h.at_ j hj).2.1⟩
theorem CellRow.old {W w : World} (ho : Old W w) {a : Option Addr} {n c : Nat} (h : CellRow W a n c) : CellRow w a n c := by
 refine ⟨h.le, h.max, h.nil, fun j hj => ?_⟩
 obtain ⟨⟨h1, h2⟩, h3, h4⟩ := h.same ho j hj
 rw [h2, h4]
 exact ⟨h1, h3, (h.at_ j hj).2.2⟩
theorem getR_old {W w : World} (ho : Old W w) {a : Option Addr} {n c : Nat} (h : CellRow W a n c) (at' : Int) : ∀ k, k ≤ n → getR w a at' k = getR W a at' k
 | 0, _ => rfl
 | k + 1, hk => by
  obtain ⟨⟨_, h2⟩, _, h4⟩ := h.same ho k (by omega)
  unfold getR
  rw [h2, h4, getR_old ho h at' k (by omega)]
theorem okF_split {W : World} {a : Option Addr} {v : Int} (h : okF W a v = true) : isInt W .u16 ((atRow a v 4).add 0) = true ∧ isInt W .u16 ((atRow a v 4).add 1) = true ∧ isBool W ((atRow a v 4).add 2) = true ∧ isInt W .i64 ((atRow a v 4).add 3) = true := by
 unfold okF at h
 simp only [Bool.and_eq_true] at h
 exact ⟨h.1, h.2.1, h.2.2.1, h.2.2.2.1⟩
theorem RegRow.same {W w : World} (ho : Old W w) {a : Option Addr} {n c : Nat} (h : RegRow W a n c) (j : Nat) (hj : j < n) : okF w a j = true ∧ rI w a j 0 = rI W a j 0 ∧ rI w a j 1 = rI W a j 1 ∧ rI w a j 3 = rI W a j 3 := by
 obtain ⟨h0, h1, h2, h3⟩ := okF_split (h.at_ j hj).1
 refine ⟨?_, (ho.int h0).2, (ho.int h1).2, (ho.int h3).2⟩
 unfold okF
 rw [(ho.int h0).1, (ho.int h1).1, (ho.bool h2).1, (ho.int h3).1]
 rfl
theorem RegRow.old {W w : World} (ho : Old W w) {a : Option Addr} {n c : Nat} (h : RegRow W a n c) : RegRow w a n c := by
 refine ⟨h.le, h.max, h.nil, fun j hj => ?_⟩
 obtain ⟨h1, h2, h3, h4⟩ := h.same ho j hj
 rw [h2, h3, h4]
 exact ⟨h1, (h.at_ j hj).2⟩
theorem fndO_old {W w : World} (ho : Old W w) {a : Option Addr} {n c : Nat} (h : RegRow W a n c) (at' : Int) : ∀ k, k ≤ n → fndO w a at' n k = fndO W a at' n k
 | 0, _ => rfl
 | k + 1, hk => by
  obtain ⟨_, h2, h3, _⟩ := h.same ho (n - (k + 1)) (by omega)
  unfold fndO
  unfold hitF
  rw [h2, h3, fndO_old ho h at' k (by omega)]
theorem fndR_old {W w : World} (ho : Old W w) {a : Option Addr} {n c : Nat} (h : RegRow W a n c) (at' : Int) : fndR w a at' n = fndR W a at' n := by
 unfold fndR
 rw [fndO_old ho h at' n (Nat.le_refl n)]
noncomputable def okCells (W : World) (a : Option Addr) (n c : Nat) : Bool := @decide (CellRow W a n c) (Classical.propDecidable _)
noncomputable def okRegs (W : World) (a : Option Addr) (n c : Nat) : Bool := @decide (RegRow W a n c) (Classical.propDecidable _)
noncomputable def FGet (W : World) : List TV → Option (SB × TV)
 | [.one (.sl a n c), .one (.int .u16 at')] => some (.sym (okCells W a n c), .one (.int .u8 (.sym (getR W a at'.val n))))
 | _ => none
noncomputable def FFind (W : World) : List TV → Option (SB × TV)
 | [.one (.sl a n c), .one (.int .u16 at')] => some (.sym (okRegs W a n c), .one (.int .i64 (.sym (fndR W a at'.val n))))
 | _ => none
theorem get_ok (W : World) : SpecOk W Tryz.prog 129 (specV (FGet W)) := by
 refine specV_calls ⟨Tryz.f129, Tryz.func129, by kernel_rfl, by kernel_rfl⟩ fun args cc v hv hc => ?_
 unfold FGet at hv
 split at hv <;> try contradiction
 rename_i a n c at'
 simp only [Option.some.injEq, Prod.mk.injEq] at hv
 obtain ⟨rfl, rfl⟩ := hv
 have hrow : CellRow W a n c := @of_decide_eq_true _ (Classical.propDecidable _) hc
 refine ⟨by simp, fun w ho f => ?_⟩
 rw [← getR_old ho hrow at'.val n (Nat.le_refl n)]
 exact get_calls (hrow.old ho) at'.val
theorem find_ok (W : World) : SpecOk W Tryz.prog 111 (specV (FFind W)) := by
 refine specV_calls ⟨Tryz.f111, Tryz.func111, by kernel_rfl, by kernel_rfl⟩ fun args cc v hv hc => ?_
 unfold FFind at hv
 split at hv <;> try contradiction
 rename_i a n c at'
 simp only [Option.some.injEq, Prod.mk.injEq] at hv
 obtain ⟨rfl, rfl⟩ := hv
 have hrow : RegRow W a n c := @of_decide_eq_true _ (Classical.propDecidable _) hc
 refine ⟨by simp, fun w ho f => ?_⟩
 rw [← fndR_old ho hrow at'.val]
 exact find_calls (hrow.old ho) at'.val
end Go.Proofs.YtjmnolhkkpaodaaGreatDoor
namespace Go.Sx
open Go Go.RowKit
def R.res : R → Option (SB × TV)
 | .leaf (.res v) c _ _ => some (c, v)
 | _ => none
theorem R.res_val {r : R} {c : SB} {v : TV} (h : r.res = some (c, v)) (hc : c.val = true) : r.val = some v := by
 unfold R.res at h
 split at h
 · simp only [Option.some.injEq, Prod.mk.injEq] at h
   obtain ⟨rfl, rfl⟩ := h
   unfold R.val
   rename_i c' _ _
   cases c' with
   | lit b =>
    cases b with
    | true => rfl
    | false => exact absurd hc (by simp [SB.val])
   | sym b =>
    have hb : b = true := hc
    subst hb
    rfl
 · contradiction
def evalR (P : Program) (W : World) (G : List (Nat × Spec)) (g : FuncId) (args : List TV) : Option (SB × TV) :=
 ((run P W G 100000 (.fn g args) ⟨0, [], ⟨[], [], 0⟩⟩ [] ⟨[], [], 0⟩).collapse [] ⟨[], [], 0⟩).res
theorem eval_of_evalR {P : Program} {W : World} {G : List (Nat × Spec)} {g : FuncId} {args : List TV} {c : SB} {v : TV} (h : evalR P W G g args = some (c, v)) (hc : c.val = true) : eval P W G g args = some v := R.res_val h hc
end Go.Sx
namespace Go.Proofs.YtjmnolhkkpaodaaGreatDoor
open Go Go.Sx Go.RowKit
set_option maxRecDepth 100000
def lim (n : Int) : Int := gmax 0 (gmin n 100)
def FLim : List TV → Option (SB × TV)
 | [.one (.int .i64 n)] => some (.lit true, .one (.int .i64 (.sym (lim n.val))))
 | _ => none
theorem eval128 (W : World) (n : Int) : eval Tryz.prog W [] 128 [.one (.int .i64 (.sym n))] = some (.one (.int .i64 (.sym (lim n)))) := by kernel_rfl
theorem lim_ok (W : World) : SpecOk W Tryz.prog 128 (specV FLim) := by
 refine specV_ok' (G := []) (gok_nil W) ⟨Tryz.f128, Tryz.func128, by kernel_rfl, by kernel_rfl⟩ fun args c v hv hc => ?_
 unfold FLim at hv
 split at hv <;> try contradiction
 rename_i n
 simp only [Option.some.injEq, Prod.mk.injEq] at hv
 obtain ⟨rfl, rfl⟩ := hv
 exact ⟨rfl, rfl, by simp, [.one (.int .i64 (.sym n.val))], rfl, rfl, _, eval128 W n.val, fun _ => rfl⟩
noncomputable def GM (W : World) : List (Nat × Sx.Spec) := [(111, specV (FFind W)), (129, specV (FGet W))]
theorem gokM (W : World) : GOk W Tryz.prog (GM W) := gok_cons (find_ok W) (gok_cons (get_ok W) (gok_nil W))
noncomputable def rdR (W : World) (a a' : Option Addr) (n n' : Nat) (at' : Int) : Int := bif decide (fndR W a at' n < 0) then 255 else getR W a' at' n'
theorem eval97 (W : World) (a a' : Option Addr) (n n' c c' : Nat) (at' : Int) : evalR Tryz.prog W (GM W) 97 [.one (.sl a n c), .one (.sl a' n' c'), .one (.int .u16 (.sym at'))] = some (.sym (bif decide (fndR W a at' n < 0) then okRegs W a n c else (okRegs W a n c && okCells W a' n' c')), .one (.int .u8 (.sym (rdR W a a' n n' at')))) := by kernel_rfl
noncomputable def FRead (W : World) : List TV → Option (SB × TV)
 | [.one (.sl a n c), .one (.sl a' n' c'), .one (.int .u16 at')] => some (.sym (okRegs W a n c && okCells W a' n' c'), .one (.int .u8 (.sym (rdR W a a' n n' at'.val))))
 | _ => none
theorem read_ok (W : World) : SpecOk W Tryz.prog 97 (specV (FRead W)) := by
 refine specV_ok' (G := GM W) (gokM W) ⟨Tryz.f97, Tryz.func97, by kernel_rfl, by kernel_rfl⟩ fun args cc v hv hc => ?_
 unfold FRead at hv
 split at hv <;> try contradiction
 rename_i a n c a' n' c' at'
 simp only [Option.some.injEq, Prod.mk.injEq] at hv
 obtain ⟨rfl, rfl⟩ := hv
 rw [SB.val_sym, Bool.and_eq_true] at hc
 refine ⟨rfl, rfl, by simp, [.one (.sl a n c), .one (.sl a' n' c'), .one (.int .u16 (.sym at'.val))], rfl, rfl, _, eval_of_evalR (eval97 W a a' n n' c c' at'.val) ?_, fun _ => rfl⟩
 rw [SB.val_sym, hc.1, hc.2]
 cases decide (fndR W a at'.val n < 0) <;> rfl
noncomputable def GW (W : World) : List (Nat × Sx.Spec) := (128, specV FLim) :: (97, specV (FRead W)) :: GM W
theorem gokW (W : World) : GOk W Tryz.prog (GW W) := gok_cons (lim_ok W) (gok_cons (read_ok W) (gokM W))
noncomputable def waR (W : World) (a : Option Addr) (n : Nat) (at' : Int) : Int := bif decide (fndR W a at' n ≥ 0) then lim (rI W a (fndR W a at' n) 3) else 0
theorem eval127 (W : World) (a : Option Addr) (n c : Nat) (at' : Int) : evalR Tryz.prog W (GW W) 127 [.one (.sl a n c), .one (.int .u16 (.sym at'))] = some (.sym (bif decide (fndR W a at' n ≥ 0) then (okRegs W a n c && (inRow a n (fndR W a at' n) && isInt W .i64 ((atRow a (fndR W a at' n) 4).add 3))) else okRegs W a n c), .one (.int .i64 (.sym (waR W a n at')))) := by kernel_rfl
theorem fndR_in {W : World} {a : Option Addr} {n c : Nat} (h : RegRow W a n c) (at' : Int) (h0 : fndR W a at' n ≥ 0) : inRow a n (fndR W a at' n) = true ∧ okF W a (fndR W a at' n) = true := by
 obtain ⟨u, hu, hn⟩ : ∃ u : Nat, fndR W a at' n = (u : Int) ∧ u < n := by
  rcases fndR_rng W a at' n with ⟨h1, h2⟩ | ⟨h1, h2⟩
  · exact ⟨(fndR W a at' n).toNat, by omega, by omega⟩
  · omega
 rw [hu]
 exact ⟨inRow_ok h.nil hn, (h.at_ u hn).1⟩
noncomputable def FWaits (W : World) : List TV → Option (SB × TV)
 | [.one (.sl a n c), .one (.int .u16 at')] => some (.sym (okRegs W a n c), .one (.int .i64 (.sym (waR W a n at'.val))))
 | _ => none
theorem waits_ok (W : World) : SpecOk W Tryz.prog 127 (specV (FWaits W)) := by
 refine specV_ok' (G := GW W) (gokW W) ⟨Tryz.f127, Tryz.func127, by kernel_rfl, by kernel_rfl⟩ fun args cc v hv hc => ?_
 unfold FWaits at hv
 split at hv <;> try contradiction
 rename_i a n c at'
 simp only [Option.some.injEq, Prod.mk.injEq] at hv
 obtain ⟨rfl, rfl⟩ := hv
 rw [SB.val_sym] at hc
 have hrow : RegRow W a n c := @of_decide_eq_true _ (Classical.propDecidable _) hc
 refine ⟨rfl, rfl, by simp, [.one (.sl a n c), .one (.int .u16 (.sym at'.val))], rfl, rfl, _, eval_of_evalR (eval127 W a n c at'.val) ?_, fun _ => rfl⟩
 rw [SB.val_sym, hc]
 cases h0 : decide (fndR W a at'.val n ≥ 0)
 · rfl
 · obtain ⟨h1, h2⟩ := fndR_in hrow at'.val (of_decide_eq_true h0)
   rw [cond_true, h1, (okF_split h2).2.2.2]
   rfl
end Go.Proofs.YtjmnolhkkpaodaaGreatDoor
