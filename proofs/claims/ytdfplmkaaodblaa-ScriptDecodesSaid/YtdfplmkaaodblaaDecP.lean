/- The program's Decode: what it hands back; the same as the document's. -/
import Derived.Test.YtdfplmkaaodblaaDecR
import Derived.DataElems
namespace Go.Proofs.Ytdfplmkaaodblaa.dc
open Go Go.Sx Go.RowKit
set_option maxRecDepth 100000
noncomputable def body12 : Code := match Try.f12.body with
  | some c => c
  | none => .skip
noncomputable def lb12 : Code := match body12 with
  | .seq _ (.seq _ (.seq (.block _ (.loop b)) _)) => b
  | _ => .skip
def gA12 : GapSp := ⟨3, 39, 41, 42, 29, 32, 10, 10, 0⟩
def hb12 : HG := .seq .plain (.block (.seq .plain (.seq .plain (.seq .plain (.seq .plain (.gap gA12))))))
structure Pe where
  k : Nat
  ak : Option Addr
  nk : Nat
  ck : Nat
  oa : Option Addr
  oc : Nat
  xs : List SV
def SP12 (p : Pe) : SL := [(0, .one (.sl p.ak p.nk p.ck)), (3, .one (.sl p.oa p.k p.oc))]
def GP12 (p : Pe) : Gh := [⟨32, 10, p.oa, p.k, p.oc, p.xs⟩]
def ks12 : List (Nat × Bool) := [(0, true), (3, true)]
def b12 (W : World) (ak : Option Addr) (j : Nat) : Int := rdInt W ((ak.getD default).add j)
def i12 (W : World) (ak : Option Addr) (j : Nat) : Bool := isInt W .u8 ((ak.getD default).add j)
def c12 (nk k : Nat) : Bool := bif decide ((nk : Int) ≥ 4) then decide ((k : Int) < 65536) else false
def bit8 (c : Int) (j : Int) : Bool := bits .and .u8 (gshr .u8 c j) 1 == 1
def entP (c r p q : Int) : List SV := [.bool (.sym (bif chk c r p == q then !bit8 c 0 else true)), .bool (.sym (bif chk c r p == q then bit8 c 1 else false)), .bool (.sym (bif chk c r p == q then bit8 c 2 else false)), .bool (.sym (bif chk c r p == q then bit8 c 3 else false)),
  .bool (.sym (bif chk c r p == q then bit8 c 4 else false)), .bool (.sym (bif chk c r p == q then bit8 c 5 else false)), .bool (.sym (bif chk c r p == q then bit8 c 6 else false)), .bool (.sym (bif chk c r p == q then bit8 c 7 else false)),
  .int .u8 (.sym (bif chk c r p == q then r else 0)), .int .u8 (.sym (bif chk c r p == q then p else 0))]
noncomputable def v12 (W : World) (p : Pe) : Bool := ((p.ak.isSome && decide (4 ≤ p.nk)) && (i12 W p.ak 0 && (i12 W p.ak 1 && (i12 W p.ak 2 && (i12 W p.ak 3 && true))))) && ((decide ((0 : Int) ≤ 4) && decide ((4 : Int) ≤ (p.nk : Int))) && gv p.oa p.k p.oc)
theorem round12 (W : World) (p : Pe) : (runG Try.prog W (G0 W) 100000 44 hb12 lb12 (SP12 p) ⟨[], [], 0⟩ (GP12 p)).slim 0 ks12 [] ke13 [] =
    RG.br (c12 p.nk p.k) (.any fun a' c' => .leaf .nrm (.sym (v12 W p)) (SP12 ⟨p.k + 1, cutA p.ak p.ck 4 1, p.nk - 4, p.ck - 4, a', c', p.xs ++ entP (b12 W p.ak 0) (b12 W p.ak 1) (b12 W p.ak 2) (b12 W p.ak 3)⟩) ⟨[], [], 0⟩
      (GP12 ⟨p.k + 1, cutA p.ak p.ck 4 1, p.nk - 4, p.ck - 4, a', c', p.xs ++ entP (b12 W p.ak 0) (b12 W p.ak 1) (b12 W p.ak 2) (b12 W p.ak 3)⟩))
      (.leaf (.exit 0) (.lit true) [(3, .one (.sl p.oa p.k p.oc))] ⟨[], [], 0⟩ (GP12 p)) := by kernel_rfl
def decP (W : World) (a : Option Addr) : Nat → List SV
  | 0 => []
  | k + 1 => decP W a k ++ entP (bt W a (4 * k)) (bt W a (4 * k + 1)) (bt W a (4 * k + 2)) (bt W a (4 * k + 3))
structure Inv12 (W : World) (a : Option Addr) (n c : Nat) (p : Pe) : Prop where
  nk : p.nk = n - 4 * p.k
  ck : p.ck = c - 4 * p.k
  le : 4 * p.k ≤ n
  k : p.k ≤ 65536
  xs : p.xs = decP W a p.k
  rel : 4 * p.k + 4 ≤ n → p.ak.isSome = true ∧ ∀ j, (p.ak.getD default).add j = (a.getD default).add (4 * p.k + j)
def End12 (W : World) (a : Option Addr) (n : Nat) : RG := .any fun a' c' => .leaf (.exit 0) (.lit true) [(3, .one (.sl a' (cnt n) c'))] ⟨[], [], 0⟩ [⟨32, 10, a', cnt n, c', decP W a (cnt n)⟩]
theorem step12 {W : World} {a : Option Addr} {n c : Nat} (hr : RowB W a n c) : StepOk W Try.prog (G0 W) 100000 44 hb12 lb12 0 ks12 [] ke13 [] (Inv12 W a n c) (fun p => n - 4 * p.k) SP12 (fun _ => []) GP12 (End12 W a n) := by
  constructor
  intro p h
  rw [show (Bs.of W).W = W from rfl, round12]
  obtain ⟨k, ak, nk, ck, oa, oc, xs⟩ := p
  obtain ⟨h1, h2, hn, hk, hx, hrel⟩ := h
  dsimp only at h1 h2 hn hk hx hrel ⊢
  subst h1 h2 hx
  have hle := hr.le
  have hgv : gv oa k oc = true := by
    unfold gv
    have hm : maxLen = 9223372036854775807 := by decide
    simp only [decide_true, Bool.true_and, Bool.and_eq_true, decide_eq_true_eq, Bool.and_self]
    omega
  constructor
  · intro hc a' c'
    have hc' : 4 * k + 4 ≤ n ∧ k < 65536 := by
      unfold c12 at hc
      cases h1 : decide (((n - 4 * k : Nat) : Int) ≥ 4) with
      | false => rw [h1] at hc; cases hc
      | true =>
        rw [h1, cond_true, decide_eq_true_eq] at hc
        have := of_decide_eq_true h1
        omega
    obtain ⟨hsome, hadd⟩ := hrel hc'.1
    have hi : ∀ j, j < 4 → i12 W ak j = true := by
      intro j hj
      unfold i12
      rw [hadd j]
      exact hr.at_ (4 * k + j) (by omega)
    have hb : ∀ (j : Nat) (x : Int), x = 4 * (k : Int) + (j : Int) → b12 W ak j = bt W a x := by
      intro j x hx
      unfold b12 bt atRow
      rw [hadd j, hx, show (4 * (k : Int) + (j : Int)).toNat * 1 = 4 * k + j by omega]
    refine ⟨?_, .inl ⟨rfl, ⟨k + 1, cutA ak (c - 4 * k) 4 1, n - 4 * k - 4, c - 4 * k - 4, a', c', decP W a k ++ entP (b12 W ak 0) (b12 W ak 1) (b12 W ak 2) (b12 W ak 3)⟩, ?_, ?_, rfl, rfl, rfl⟩⟩
    · unfold v12
      dsimp only
      rw [SB.val_sym, hsome, hi 0 (by decide), hi 1 (by decide), hi 2 (by decide), hi 3 (by decide), hgv, decide_eq_true (show 4 ≤ n - 4 * k by omega), decide_eq_true (show (4 : Int) ≤ ((n - 4 * k : Nat) : Int) by omega)]
      rfl
    · refine ⟨by dsimp only; omega, by dsimp only; omega, by dsimp only; omega, by dsimp only; omega, ?_, ?_⟩
      · dsimp only
        rw [decP, hb 0 (4 * (k : Int)) (by omega), hb 1 (4 * (k : Int) + 1) (by omega), hb 2 (4 * (k : Int) + 2) (by omega), hb 3 (4 * (k : Int) + 3) (by omega)]
      · dsimp only
        intro h8
        have hne : ¬ (c - 4 * k = 4) := by omega
        unfold cutA
        rw [if_neg hne]
        cases ak with
        | none => simp at hsome
        | some q =>
          refine ⟨rfl, fun j => ?_⟩
          show (q.add (4 * 1)).add j = _
          rw [Addr.add_add]
          have := hadd (4 * 1 + j)
          simp only [Option.getD_some] at this
          rw [this]
          congr 1
          omega
    · dsimp only
      omega
  · intro hc
    refine ⟨rfl, .inr ⟨by simp, fun f ac w hst e' he' => ?_⟩⟩
    have hc' : k = cnt n := by
      unfold c12 at hc
      unfold cnt
      cases h1 : decide (((n - 4 * k : Nat) : Int) ≥ 4) with
      | false => have := of_decide_eq_false h1; omega
      | true =>
        rw [h1, cond_true] at hc
        have h2 := of_decide_eq_true h1
        have h3 := of_decide_eq_false hc
        omega
    refine ⟨oa, oc, he', f, ?_⟩
    rw [← hc']
    exact hst
noncomputable def h12 (W : World) (a : Option Addr) (n c : Nat) : LG := .at_ true ks12 [] 0 [(0, .one (.sl a n c)), (3, .one (.sl none 0 0))] [] [] (End12 W a n)
theorem hgb12 : hgB Try.prog 44 hb12 lb12 = true := by kernel_rfl
theorem hok12 (W : World) : HGOk W Try.prog 44 hb12 lb12 := hgB_ok (W := W) (P := Try.prog) (nt := 44) hb12 lb12 hgb12
theorem loop12 {W : World} {a : Option Addr} {n c : Nat} (hr : RowB W a n c) : LoopGOk W Try.prog 44 lb12 (h12 W a n c) := by
  refine loopG_step (gok0 W) (hok12 W) rfl rfl (step12 hr) ?_
  intro _
  refine ⟨⟨0, a, n, c, none, 0, []⟩, ⟨rfl, rfl, Nat.zero_le _, Nat.zero_le _, rfl, ?_⟩, rfl, rfl, .inr ⟨32, 10, rfl⟩⟩
  intro h4
  refine ⟨?_, fun j => by dsimp only; rw [Nat.mul_zero, Nat.zero_add]⟩
  cases a with
  | none =>
    have := hr.nil rfl
    dsimp only at h4
    omega
  | some a => rfl
noncomputable def t12 (W : World) (a : Option Addr) (n c : Nat) : HG := .seq .plain (.seq .plain (.seq (.block (.loop (h12 W a n c))) .plain))
theorem whole12 (W : World) (a : Option Addr) (n c : Nat) : (runG Try.prog W (G0 W) 100000 44 (t12 W a n c) body12 (argSlots 0 [.one (.sl a n c)]) noMem []).slim 0 [] [] [(2, false)] [] =
    .any fun a' c' => .leaf .ret (.sym (true && (sameS [(0, .one (.sl a n c)), (3, .one (.sl none 0 0))] [(0, .one (.sl a n c)), (3, .one (.sl none 0 0))] && (sameB [] [] && @decide (([] : Gh) = []) (Classical.propDecidable _)))))
      [(2, .one (.sl a' (cnt n) c'))] ⟨[], [], 0⟩ [⟨32, 10, a', cnt n, c', decP W a (cnt n)⟩] := by kernel_rfl
theorem b0 : ∀ {v : Int}, IntKind.u8.min ≤ v ∧ v ≤ IntKind.u8.max → (!bit8 v 0) = (bits .and .u8 v 1 == 0) := fun h => eq_of_beq (all_u8 (p := fun v => (!bit8 v 0) == (bits .and .u8 v 1 == 0)) (by kernel_rfl) h)
theorem bj (j : Nat) (hj : j < 8) : ∀ {v : Int}, IntKind.u8.min ≤ v ∧ v ≤ IntKind.u8.max → bit8 v j = (bits .and .u8 v ((2 ^ j : Nat) : Int) != 0) := fun {v} h => by
  have h1 : ((List.range 256).all fun v => (List.range 8).all fun j => bit8 (v : Int) j == (bits .and .u8 (v : Int) ((2 ^ j : Nat) : Int) != 0)) = true := by kernel_rfl
  have h2 := all_u8 (p := fun v => (List.range 8).all fun j => bit8 v j == (bits .and .u8 v ((2 ^ j : Nat) : Int) != 0)) h1 h
  exact eq_of_beq (List.all_eq_true.1 h2 j (by simp; exact hj))
theorem bj1 {v : Int} (h : IntKind.u8.min ≤ v ∧ v ≤ IntKind.u8.max) : bit8 v 1 = (bits .and .u8 v 2 != 0) := bj 1 (by decide) h
theorem bj2 {v : Int} (h : IntKind.u8.min ≤ v ∧ v ≤ IntKind.u8.max) : bit8 v 2 = (bits .and .u8 v 4 != 0) := bj 2 (by decide) h
theorem bj3 {v : Int} (h : IntKind.u8.min ≤ v ∧ v ≤ IntKind.u8.max) : bit8 v 3 = (bits .and .u8 v 8 != 0) := bj 3 (by decide) h
theorem bj4 {v : Int} (h : IntKind.u8.min ≤ v ∧ v ≤ IntKind.u8.max) : bit8 v 4 = (bits .and .u8 v 16 != 0) := bj 4 (by decide) h
theorem bj5 {v : Int} (h : IntKind.u8.min ≤ v ∧ v ≤ IntKind.u8.max) : bit8 v 5 = (bits .and .u8 v 32 != 0) := bj 5 (by decide) h
theorem bj6 {v : Int} (h : IntKind.u8.min ≤ v ∧ v ≤ IntKind.u8.max) : bit8 v 6 = (bits .and .u8 v 64 != 0) := bj 6 (by decide) h
theorem bj7 {v : Int} (h : IntKind.u8.min ≤ v ∧ v ≤ IntKind.u8.max) : bit8 v 7 = (bits .and .u8 v 128 != 0) := bj 7 (by decide) h
theorem entP_vals {c : Int} (hc : IntKind.u8.min ≤ c ∧ c ≤ IntKind.u8.max) (r p q : Int) : (entP c r p q).map (SV.den fun _ => 0) = (entS c r p q).map (SV.den fun _ => 0) := by
  have e : (q != chk c r p) = !(chk c r p == q) := by
    rw [bne, Bool.eq_iff_iff]
    simp only [Bool.not_eq_true', beq_eq_false_iff_ne, ne_eq]
    exact ⟨fun h h' => h h'.symm, fun h h' => h h'.symm⟩
  unfold entS entP
  rw [e]
  cases chk c r p == q
  · rfl
  · rw [Bool.not_true, cond_false]
    simp only [cond_true, inS, List.map_cons, List.map_nil, SV.den, SB.val_sym, b0 hc, bj1 hc, bj2 hc, bj3 hc, bj4 hc, bj5 hc, bj6 hc, bj7 hc]
theorem decP_vals {W : World} {a : Option Addr} {n c : Nat} (hr : RowB W a n c) : ∀ k, 4 * k ≤ n → (decP W a k).map (SV.den fun _ => 0) = (decS W a k).map (SV.den fun _ => 0)
  | 0, _ => rfl
  | k + 1, h => by
    rw [decP, decS, List.map_append, List.map_append, decP_vals hr k (by omega), entP_vals]
    have h1 := hr.ctl k (by omega)
    unfold bt atRow
    rw [show (4 * (k : Int)).toNat * 1 = 4 * k by omega]
    exact h1
/-- The program's Decode hands back a new slice of the same entries. -/
theorem dec12 {W : World} {a : Option Addr} {n c : Nat} (hr : RowB W a n c) : Calls Try.prog 12 #[.slice a n c] W fun en w' =>
    ∃ a' c', en = .returned (.slice a' (cnt n) c') ∧ w'.ownsRow W.heap.size 32 10 (.slice a' (cnt n) c') (cnt n) ((decS W a (cnt n)).map (SV.den fun _ => 0)) ∧ Below W.heap.size W w' := by
  have hcalls := calls_of_runG (gok0 W) (n := 100000) (g := 12) Try.func12 (show Try.f12.body = some body12 by kernel_rfl) (t := t12 W a n c) (args := [.one (.sl a n c)]) ?_ (by rw [show Try.f12.ntmps = 44 by kernel_rfl]; simp)
    (R := fun v g => ∃ a' c', v = .one (.sl a' (cnt n) c') ∧ g = [⟨32, 10, a', cnt n, c', decP W a (cnt n)⟩]) (N := 0) (ks := []) (bs := []) (ke := [(2, false)]) (be := []) rfl rfl ?_
  · refine hcalls.mono ?_
    rintro en w' ⟨v, g, f, ⟨a', c', rfl, rfl⟩, rfl, hown, hb⟩
    have h1 := hown 0 _ rfl
    unfold Own.rel Own.vals at h1
    rw [decP_vals hr (cnt n) (by unfold cnt; omega)] at h1
    exact ⟨a', c', rfl, h1, hb⟩
  · have e : HGOk W Try.prog Try.f12.ntmps (t12 W a n c) body12 = (True ∧ True ∧ (LoopGOk W Try.prog 44 lb12 (h12 W a n c) ∧ True)) := by kernel_rfl
    rw [e]
    exact ⟨trivial, trivial, loop12 hr, trivial⟩
  · rw [show Try.f12.ntmps = 44 by kernel_rfl, whole12]
    intro a' c'
    refine ⟨?_, .inr rfl, ?_⟩
    · rw [SB.val_sym, sameS_refl (by rfl), sameB_refl (by rfl), @decide_eq_true _ (Classical.propDecidable _) rfl]
      rfl
    · exact ⟨[(false, [.sl a' (cnt n) c'])], .one (.sl a' (cnt n) c'), by kernel_rfl, rfl, a', c', rfl, rfl⟩
end Go.Proofs.Ytdfplmkaaodblaa.dc
