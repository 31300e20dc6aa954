/- The document's Decode: what it hands back. -/
import Derived.Test.YtdfplmkaaodblaaRows
import Derived.Test.YtdfplmkaaodblaaNum
import Derived.Test.YtdfplmkaaodblaaGapC
namespace Go.Proofs.Ytdfplmkaaodblaa.dc
open Go Go.Sx Go.RowKit
set_option maxRecDepth 100000
noncomputable def body13 : Code := match Try.f13.body with
  | some c => c
  | none => .skip
noncomputable def lb13 : Code := match body13 with
  | .seq _ (.seq _ (.seq (.seq _ (.block _ (.loop b))) _)) => b
  | _ => .skip
def gA13 : GapSp := ⟨3, 40, 42, 43, 29, 32, 10, 10, 0⟩
def gB13 : GapSp := ⟨37, 44, 80, 81, 29, 32, 10, 10, 0⟩
def hb13 : HG := .seq .plain (.seq (.block (.seq .plain (.seq (.seq .plain (.cond (.seq (.gap gA13) .plain) .plain)) (.gap gB13)))) .plain)
structure Pd where
  k : Nat
  i : Int
  oa : Option Addr
  oc : Nat
  xs : List SV
def SP13 (a : Option Addr) (n c : Nat) (p : Pd) : SL := [(0, .one (.sl a n c)), (3, .one (.sl p.oa p.k p.oc)), (4, .one (.int .i64 (.sym p.i)))]
def GP13 (p : Pd) : Gh := [⟨32, 10, p.oa, p.k, p.oc, p.xs⟩]
def ks13 : List (Nat × Bool) := [(0, true), (3, true), (4, true)]
def ke13 : List (Nat × Bool) := [(3, true)]
def G0 (_ : World) : List (Nat × Sx.Spec) := []
theorem gok0 (W : World) : GOk W Try.prog (G0 W) := gok_nil W
/-- What is read at 'x': its conditions, the byte. -/
def bt (W : World) (a : Option Addr) (x : Int) : Int := rdInt W (atRow a x 1)
def c1 (n k : Nat) (i : Int) : Bool := bif decide (gadd .i64 i 4 ≤ (n : Int)) then decide ((k : Int) < 65536) else false
def chk (c r p : Int) : Int := bits .xor .u8 (bits .xor .u8 (bits .xor .u8 c r) p) 165
def idleS : List SV := [.bool (.lit true), .bool (.lit false), .bool (.lit false), .bool (.lit false), .bool (.lit false), .bool (.lit false), .bool (.lit false), .bool (.lit false), .int .u8 (.lit 0), .int .u8 (.lit 0)]
def inS (c r p : Int) : List SV := [.bool (.sym (bits .and .u8 c 1 == 0)), .bool (.sym (bits .and .u8 c 2 != 0)), .bool (.sym (bits .and .u8 c 4 != 0)), .bool (.sym (bits .and .u8 c 8 != 0)), .bool (.sym (bits .and .u8 c 16 != 0)), .bool (.sym (bits .and .u8 c 32 != 0)), .bool (.sym (bits .and .u8 c 64 != 0)), .bool (.sym (bits .and .u8 c 128 != 0)), .int .u8 (.sym r), .int .u8 (.sym p)]
/-- An entry from its four bytes. -/
def entS (c r p q : Int) : List SV := bif q != chk c r p then idleS else inS c r p
def decS (W : World) (a : Option Addr) : Nat → List SV
  | 0 => []
  | k + 1 => decS W a k ++ entS (bt W a (4 * k)) (bt W a (4 * k + 1)) (bt W a (4 * k + 2)) (bt W a (4 * k + 3))
def cnt (n : Nat) : Nat := min (n / 4) 65536
noncomputable def gv (oa : Option Addr) (k oc : Nat) : Bool := (decide (oa = oa) && (decide (k = k) && decide (oc = oc))) && (decide (k + 1 ≤ maxLen) && decide ((k + 1) * 10 ≤ 140737488355328))
def vR (W : World) (a : Option Addr) (n : Nat) (i : Int) : Bool := inRow a n (gadd .i64 i 3) && (isInt W .u8 (atRow a (gadd .i64 i 3) 1) && (inRow a n (gadd .i64 i 1) && (isInt W .u8 (atRow a (gadd .i64 i 1) 1) && (inRow a n (gadd .i64 i 2) && isInt W .u8 (atRow a (gadd .i64 i 2) 1)))))
def vS (W : World) (a : Option Addr) (n : Nat) (i : Int) : Bool := inRow a n (gadd .i64 i 1) && (isInt W .u8 (atRow a (gadd .i64 i 1) 1) && (inRow a n (gadd .i64 i 2) && isInt W .u8 (atRow a (gadd .i64 i 2) 1)))
theorem round13 (W : World) (a : Option Addr) (n c : Nat) (p : Pd) : (runG Try.prog W (G0 W) 100000 83 hb13 lb13 (SP13 a n c p) ⟨[], [], 0⟩ (GP13 p)).slim 0 ks13 [] ke13 [] =
    RG.br (c1 n p.k p.i) (RG.br (bt W a (gadd .i64 p.i 3) != chk (bt W a p.i) (bt W a (gadd .i64 p.i 1)) (bt W a (gadd .i64 p.i 2)))
      (.any fun a' c' => .leaf .nrm (.sym ((inRow a n p.i && isInt W .u8 (atRow a p.i 1)) && (vR W a n p.i && gv p.oa p.k p.oc))) (SP13 a n c ⟨p.k + 1, gadd .i64 p.i 4, a', c', p.xs ++ idleS⟩) ⟨[], [], 0⟩ (GP13 ⟨p.k + 1, gadd .i64 p.i 4, a', c', p.xs ++ idleS⟩))
      (.any fun a' c' => .leaf .nrm (.sym ((inRow a n p.i && isInt W .u8 (atRow a p.i 1)) && (vR W a n p.i && (vS W a n p.i && gv p.oa p.k p.oc)))) (SP13 a n c ⟨p.k + 1, gadd .i64 p.i 4, a', c', p.xs ++ inS (bt W a p.i) (bt W a (gadd .i64 p.i 1)) (bt W a (gadd .i64 p.i 2))⟩) ⟨[], [], 0⟩
        (GP13 ⟨p.k + 1, gadd .i64 p.i 4, a', c', p.xs ++ inS (bt W a p.i) (bt W a (gadd .i64 p.i 1)) (bt W a (gadd .i64 p.i 2))⟩)))
      (.leaf (.exit 0) (.lit true) [(3, .one (.sl p.oa p.k p.oc))] ⟨[], [], 0⟩ (GP13 p)) := by kernel_rfl
/-- A row of bytes that lies in memory; those at the head of an entry in the bounds of a byte. -/
structure RowB (W : World) (a : Option Addr) (n c : Nat) : Prop where
  le : n ≤ c
  max : c ≤ maxLen
  nil : a = none → n = 0
  at_ : ∀ j, j < n → isInt W .u8 ((a.getD default).add j) = true
  ctl : ∀ k, 4 * k < n → IntKind.u8.min ≤ rdInt W ((a.getD default).add (4 * k)) ∧ rdInt W ((a.getD default).add (4 * k)) ≤ IntKind.u8.max
theorem row_rowB {W : World} {a : Option Addr} {n c : Nat} (h : RowOk W .u8 a n c) : RowB W a n c := ⟨h.le, h.max, h.nil, fun j hj => (h.at_ j hj).1, fun k hk => (h.at_ (4 * k) hk).2⟩
/-- Reading a byte of a slice that came in. -/
theorem read_ok {W : World} {a : Option Addr} {n c : Nat} (hr : RowB W a n c) {x : Int} (h0 : 0 ≤ x) (h1 : x < n) : inRow a n x = true ∧ isInt W .u8 (atRow a x 1) = true := by
  have hs : a.isSome = true := by
    cases a with
    | none => have := hr.nil rfl; omega
    | some a => rfl
  have hat := hr.at_ x.toNat (by omega)
  have hadr : atRow a x 1 = (a.getD default).add x.toNat := by unfold atRow; rw [Nat.mul_one]
  refine ⟨?_, by rw [hadr]; exact hat⟩
  unfold inRow
  rw [hs, decide_eq_true h0, decide_eq_true h1]
  rfl
structure Inv13 (W : World) (a : Option Addr) (n : Nat) (p : Pd) : Prop where
  i : p.i = 4 * (p.k : Int)
  le : 4 * p.k ≤ n
  k : p.k ≤ 65536
  xs : p.xs = decS W a p.k
  big : (n : Int) ≤ 9223372036854775800
def End13 (W : World) (a : Option Addr) (n : Nat) : RG := .any fun a' c' => .leaf (.exit 0) (.lit true) [(3, .one (.sl a' (cnt n) c'))] ⟨[], [], 0⟩ [⟨32, 10, a', cnt n, c', decS W a (cnt n)⟩]
theorem step13 {W : World} {a : Option Addr} {n c : Nat} (hr : RowB W a n c) : StepOk W Try.prog (G0 W) 100000 83 hb13 lb13 0 ks13 [] ke13 [] (Inv13 W a n) (fun p => n - 4 * p.k) (SP13 a n c) (fun _ => []) GP13 (End13 W a n) := by
  constructor
  intro p h
  rw [show (Bs.of W).W = W from rfl, round13]
  obtain ⟨k, i, oa, oc, xs⟩ := p
  obtain ⟨hi, hn, hk, hx, hbig⟩ := h
  simp only at hi hn hk hx
  subst hi hx
  have g4 : ∀ d : Int, 0 ≤ d → d ≤ 4 → gadd .i64 (4 * (k : Int)) d = 4 * (k : Int) + d := by
    intro d h0 h1
    unfold gadd
    rw [IntKind.wrap_i64]
    omega
  rw [g4 1 (by decide) (by decide), g4 2 (by decide) (by decide), g4 3 (by decide) (by decide), g4 4 (by decide) (by decide)]
  have hgv : gv oa k oc = true := by
    unfold gv
    have hm : maxLen = 9223372036854775807 := by decide
    simp only [decide_true, Bool.true_and, Bool.and_eq_true, decide_eq_true_eq, Bool.and_self]
    omega
  constructor
  · intro hc
    have hc' : 4 * (k : Int) + 4 ≤ n ∧ k < 65536 := by
      unfold c1 at hc
      dsimp only at hc
      rw [g4 4 (by decide) (by decide)] at hc
      cases h1 : decide (4 * (k : Int) + 4 ≤ (n : Int)) with
      | false => rw [h1] at hc; cases hc
      | true =>
        rw [h1, cond_true, decide_eq_true_eq] at hc
        exact ⟨of_decide_eq_true h1, by omega⟩
    have r0 := read_ok hr (x := 4 * (k : Int)) (by omega) (by omega)
    have r1 := read_ok hr (x := 4 * (k : Int) + 1) (by omega) (by omega)
    have r2 := read_ok hr (x := 4 * (k : Int) + 2) (by omega) (by omega)
    have r3 := read_ok hr (x := 4 * (k : Int) + 3) (by omega) (by omega)
    have hvR : vR W a n (4 * (k : Int)) = true := by
      unfold vR
      rw [g4 1 (by decide) (by decide), g4 2 (by decide) (by decide), g4 3 (by decide) (by decide), r1.1, r1.2, r2.1, r2.2, r3.1, r3.2]
      rfl
    have hvS : vS W a n (4 * (k : Int)) = true := by
      unfold vS
      rw [g4 1 (by decide) (by decide), g4 2 (by decide) (by decide), r1.1, r1.2, r2.1, r2.2]
      rfl
    constructor
    · intro hq a' c'
      refine ⟨by rw [SB.val_sym, r0.1, r0.2, hvR, hgv]; rfl, .inl ⟨rfl, ⟨k + 1, 4 * (k : Int) + 4, a', c', decS W a k ++ idleS⟩, ⟨by simp only; omega, by simp only; omega, by simp only; omega, ?_, hbig⟩, by simp only; omega, rfl, rfl, rfl⟩⟩
      simp only [decS, entS, hq, cond_true]
    · intro hq a' c'
      refine ⟨by rw [SB.val_sym, r0.1, r0.2, hvR, hvS, hgv]; rfl, .inl ⟨rfl, ⟨k + 1, 4 * (k : Int) + 4, a', c', _⟩, ⟨by simp only; omega, by simp only; omega, by simp only; omega, ?_, hbig⟩, by simp only; omega, rfl, rfl, rfl⟩⟩
      simp only [decS, entS, hq, cond_false]
  · intro hc
    refine ⟨rfl, .inr ⟨by simp, fun f ac w hst e' he' => ?_⟩⟩
    have hc' : k = cnt n := by
      unfold c1 at hc
      dsimp only at hc
      rw [g4 4 (by decide) (by decide)] at hc
      unfold cnt
      cases h1 : decide (4 * (k : Int) + 4 ≤ (n : Int)) with
      | false => have := of_decide_eq_false h1; omega
      | true =>
        rw [h1, cond_true] at hc
        have h2 := of_decide_eq_true h1
        have h3 := of_decide_eq_false hc
        omega
    refine ⟨oa, oc, he', f, ?_⟩
    rw [← hc']
    exact hst
noncomputable def h13 (W : World) (a : Option Addr) (n c : Nat) : LG := .at_ (decide ((n : Int) ≤ 9223372036854775800)) ks13 [] 0 [(0, .one (.sl a n c)), (3, .one (.sl none 0 0)), (4, .one (.int .i64 (.sym 0)))] [] [] (End13 W a n)
theorem hgb13 : hgB Try.prog 83 hb13 lb13 = true := by kernel_rfl
theorem hok13 (W : World) : HGOk W Try.prog 83 hb13 lb13 := hgB_ok (W := W) (P := Try.prog) (nt := 83) hb13 lb13 hgb13
theorem loop13 {W : World} {a : Option Addr} {n c : Nat} (hr : RowB W a n c) : LoopGOk W Try.prog 83 lb13 (h13 W a n c) := by
  refine loopG_step (gok0 W) (hok13 W) rfl rfl (step13 hr) ?_
  intro hc
  exact ⟨⟨0, 0, none, 0, []⟩, ⟨rfl, Nat.zero_le _, Nat.zero_le _, rfl, of_decide_eq_true hc⟩, rfl, rfl, .inr ⟨32, 10, rfl⟩⟩
noncomputable def t13 (W : World) (a : Option Addr) (n c : Nat) : HG := .seq .plain (.seq .plain (.seq (.seq .plain (.block (.loop (h13 W a n c)))) .plain))
theorem whole13 (W : World) (a : Option Addr) (n c : Nat) : (runG Try.prog W (G0 W) 100000 83 (t13 W a n c) body13 (argSlots 0 [.one (.sl a n c)]) noMem []).slim 0 [] [] [(2, false)] [] =
    .any fun a' c' => .leaf .ret (.sym (decide ((n : Int) ≤ 9223372036854775800) && (sameS [(0, .one (.sl a n c)), (3, .one (.sl none 0 0)), (4, .one (.int .i64 (.sym 0)))] [(0, .one (.sl a n c)), (3, .one (.sl none 0 0)), (4, .one (.int .i64 (.sym 0)))] && (sameB [] [] && @decide (([] : Gh) = []) (Classical.propDecidable _)))))
      [(2, .one (.sl a' (cnt n) c'))] ⟨[], [], 0⟩ [⟨32, 10, a', cnt n, c', decS W a (cnt n)⟩] := by kernel_rfl
/-- The document's Decode hands back a new slice of these entries. -/
theorem dec13 {W : World} {a : Option Addr} {n c : Nat} (hr : RowB W a n c) (hn : (n : Int) ≤ 9223372036854775800) : Calls Try.prog 13 #[.slice a n c] W fun en w' =>
    ∃ a' c', en = .returned (.slice a' (cnt n) c') ∧ w'.ownsRow W.heap.size 32 10 (.slice a' (cnt n) c') (cnt n) ((decS W a (cnt n)).map (SV.den fun _ => 0)) ∧ Below W.heap.size W w' := by
  have hcalls := calls_of_runG (gok0 W) (n := 100000) (g := 13) Try.func13 (show Try.f13.body = some body13 by kernel_rfl) (t := t13 W a n c) (args := [.one (.sl a n c)]) ?_ (by rw [show Try.f13.ntmps = 83 by kernel_rfl]; simp)
    (R := fun v g => ∃ a' c', v = .one (.sl a' (cnt n) c') ∧ g = [⟨32, 10, a', cnt n, c', decS W a (cnt n)⟩]) (N := 0) (ks := []) (bs := []) (ke := [(2, false)]) (be := []) rfl rfl ?_
  · refine hcalls.mono ?_
    rintro en w' ⟨v, g, f, ⟨a', c', rfl, rfl⟩, rfl, hown, hb⟩
    exact ⟨a', c', rfl, hown 0 _ rfl, hb⟩
  · have e : HGOk W Try.prog Try.f13.ntmps (t13 W a n c) body13 = (True ∧ True ∧ ((True ∧ LoopGOk W Try.prog 83 lb13 (h13 W a n c)) ∧ True)) := by kernel_rfl
    rw [e]
    exact ⟨trivial, trivial, ⟨trivial, loop13 hr⟩, trivial⟩
  · rw [show Try.f13.ntmps = 83 by kernel_rfl, whole13]
    intro a' c'
    refine ⟨?_, .inr rfl, ?_⟩
    · rw [SB.val_sym, sameS_refl (by rfl), sameB_refl (by rfl), decide_eq_true hn, @decide_eq_true _ (Classical.propDecidable _) rfl]
      rfl
    · exact ⟨[(false, [.sl a' (cnt n) c'])], .one (.sl a' (cnt n) c'), by kernel_rfl, rfl, a', c', rfl, rfl⟩
end Go.Proofs.Ytdfplmkaaodblaa.dc
