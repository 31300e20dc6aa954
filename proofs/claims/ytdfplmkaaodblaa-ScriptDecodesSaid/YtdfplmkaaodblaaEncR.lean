/- The document's Encode: what it hands back; the same as the program's. -/
import Derived.Test.YtdfplmkaaodblaaEncP
namespace Go.Proofs.Ytdfplmkaaodblaa.dc
open Go Go.Sx Go.RowKit
set_option maxRecDepth 100000
noncomputable def body18 : Code := match Try.f18.body with
  | some c => c
  | none => .skip
noncomputable def lb18 : Code := match body18 with
  | .seq _ (.seq _ (.seq (.seq _ (.block _ (.loop b))) _)) => b
  | _ => .skip
def gA18 : GapSp := ⟨13, 48, 60, 61, 22, 5, 1, 1, 0⟩
def hb18 : HG := .seq .plain (.seq .plain (.seq (.block (.seq .plain (.seq .plain (.seq .plain (.gap gA18))))) .plain))
def SP18 (a : Option Addr) (m : Nat) (c : Nat) (mi : Int) (p : Pn) : SL := [(3, .one (.sl p.oa p.nb p.oc)), (7, .one (.sl a m c)), (8, .one (.int .i64 (.sym mi))), (9, .one (.int .i64 (.sym p.i)))]
def ks18 : List (Nat × Bool) := [(3, true), (7, true), (8, true), (9, true)]
def cwr (W : World) (a : Option Addr) (i : Int) : Int := ctr (rb W a i 0) (rb W a i 1) (rb W a i 2) (rb W a i 3) (rb W a i 4) (rb W a i 5) (rb W a i 6) (rb W a i 7)
def encR (W : World) (a : Option Addr) (i : Int) : List SV := [.int .u8 (.sym (cwr W a i)), .int .u8 (.sym (ri W a i 8)), .int .u8 (.sym (ri W a i 9)), .int .u8 (.sym (chk (cwr W a i) (ri W a i 8) (ri W a i 9)))]
theorem round18 (W : World) (a : Option Addr) (m c : Nat) (mi : Int) (p : Pn) : (runG Try.prog W (G0 W) 100000 64 hb18 lb18 (SP18 a m c mi p) ⟨[], [], 0⟩ (GPn p)).slim 0 ks18 [] ke13 [] =
    RG.br (decide (p.i < mi)) (RG.br (decide (p.i ≥ 65536)) (.leaf (.exit 0) (.sym (inRow a m p.i && lies W a p.i)) [(3, .one (.sl p.oa p.nb p.oc))] ⟨[], [], 0⟩ (GPn p))
      (.any fun a' c' => .leaf .nrm (.sym ((inRow a m p.i && lies W a p.i) && gn p.oa p.nb p.oc)) (SP18 a m c mi ⟨gadd .i64 p.i 1, p.nb + 4, a', c', p.xs ++ encR W a p.i⟩) ⟨[], [], 0⟩
      (GPn ⟨gadd .i64 p.i 1, p.nb + 4, a', c', p.xs ++ encR W a p.i⟩))) (.leaf (.exit 0) (.lit true) [(3, .one (.sl p.oa p.nb p.oc))] ⟨[], [], 0⟩ (GPn p)) := by kernel_rfl
theorem encR_encP (W : World) (a : Option Addr) (i : Int) : encR W a i = encP W a i := by
  unfold encR encP cwr cw
  rw [ctl_ctr]
structure Inv18 (W : World) (a : Option Addr) (n : Nat) (p : Pn) (k : Nat) : Prop where
  i : p.i = (k : Int)
  nb : p.nb = 4 * k
  le : k ≤ n
  xs : p.xs = encL W a k
  big : k ≤ 65536
theorem step18 {W : World} {a : Option Addr} {n c : Nat} (hr : RowS W a n c) : StepOk W Try.prog (G0 W) 100000 64 hb18 lb18 0 ks18 [] ke13 [] (fun p => ∃ k, Inv18 W a n p k) (fun p => n - p.i.toNat) (SP18 a n c (n : Int)) (fun _ => []) GPn (Endn W a (min n 65536)) := by
  constructor
  rintro ⟨i, nb, oa, oc, xs⟩ ⟨k, hi, hnb, hle, hx, hbig⟩
  rw [show (Bs.of W).W = W from rfl, round18]
  dsimp only at hi hnb hx ⊢
  subst hi hnb hx
  have g1 : gadd .i64 (k : Int) 1 = ((k + 1 : Nat) : Int) := by
    unfold gadd
    rw [IntKind.wrap_i64]
    omega
  constructor
  · intro hc
    have hk : k < n := by
      have := of_decide_eq_true hc
      omega
    constructor
    · intro h6
      refine ⟨by rw [SB.val_sym, inRow_ok hr hk, lies_ok hr hk]; rfl, .inr ⟨by simp, fun f ac w hst e' he' => ?_⟩⟩
      have h65 : k = min n 65536 := by
        have := of_decide_eq_true h6
        omega
      rw [← h65]
      exact ⟨oa, oc, he', f, hst⟩
    · intro h6 a' c'
      have h65 : k < 65536 := by
        have := of_decide_eq_false h6
        omega
      refine ⟨by rw [SB.val_sym, inRow_ok hr hk, lies_ok hr hk, gn_ok (by omega)]; rfl, .inl ⟨rfl, ⟨gadd .i64 (k : Int) 1, 4 * k + 4, a', c', encL W a k ++ encR W a k⟩, ⟨k + 1, g1, by dsimp only; omega, by omega, by dsimp only; rw [encR_encP]; rfl, by omega⟩, ?_, rfl, rfl, rfl⟩⟩
      dsimp only
      rw [g1]
      omega
  · intro hc
    refine ⟨rfl, .inr ⟨by simp, fun f ac w hst e' he' => ?_⟩⟩
    have hk : k = min n 65536 := by
      have := of_decide_eq_false hc
      omega
    rw [← hk]
    exact ⟨oa, oc, he', f, hst⟩
noncomputable def h18 (W : World) (a : Option Addr) (n c : Nat) : LG := .at_ true ks18 [] 0 (SP18 a n c (n : Int) ⟨0, 0, none, 0, []⟩) [] [] (Endn W a (min n 65536))
theorem hgb18 : hgB Try.prog 64 hb18 lb18 = true := by kernel_rfl
theorem hok18 (W : World) : HGOk W Try.prog 64 hb18 lb18 := hgB_ok (W := W) (P := Try.prog) (nt := 64) hb18 lb18 hgb18
theorem loop18 {W : World} {a : Option Addr} {n c : Nat} (hr : RowS W a n c) : LoopGOk W Try.prog 64 lb18 (h18 W a n c) := by
  refine loopG_step (gok0 W) (hok18 W) rfl rfl (step18 hr) ?_
  intro _
  exact ⟨⟨0, 0, none, 0, []⟩, ⟨0, rfl, rfl, Nat.zero_le _, rfl, Nat.zero_le _⟩, rfl, rfl, .inr ⟨5, 1, rfl⟩⟩
noncomputable def t18 (W : World) (a : Option Addr) (n c : Nat) : HG := .seq .plain (.seq .plain (.seq (.seq .plain (.block (.loop (h18 W a n c)))) .plain))
theorem whole18 (W : World) (a : Option Addr) (n c : Nat) : (runG Try.prog W (G0 W) 100000 64 (t18 W a n c) body18 (argSlots 0 [.one (.sl a n c)]) noMem []).slim 0 [] [] [(2, false)] [] =
    .any fun a' c' => .leaf .ret (.sym (true && (sameS (SP18 a n c (n : Int) ⟨0, 0, none, 0, []⟩) (SP18 a n c (n : Int) ⟨0, 0, none, 0, []⟩) && (sameB [] [] && @decide (([] : Gh) = []) (Classical.propDecidable _)))))
      [(2, .one (.sl a' (4 * min n 65536) c'))] ⟨[], [], 0⟩ [⟨5, 1, a', 4 * min n 65536, c', encL W a (min n 65536)⟩] := by kernel_rfl
/-- The document's Encode hands back a new slice of the same bytes. -/
theorem enc18 {W : World} {a : Option Addr} {n c : Nat} (hr : RowS W a n c) : Calls Try.prog 18 #[.slice a n c] W fun en w' =>
    ∃ a' c', en = .returned (.slice a' (4 * min n 65536) c') ∧ w'.ownsRow W.heap.size 5 1 (.slice a' (4 * min n 65536) c') (4 * min n 65536) ((encL W a (min n 65536)).map (SV.den fun _ => 0)) ∧ Below W.heap.size W w' := by
  have hcalls := calls_of_runG (gok0 W) (n := 100000) (g := 18) Try.func18 (show Try.f18.body = some body18 by kernel_rfl) (t := t18 W a n c) (args := [.one (.sl a n c)]) ?_ (by rw [show Try.f18.ntmps = 64 by kernel_rfl]; simp)
    (R := fun v g => ∃ a' c', v = .one (.sl a' (4 * min n 65536) c') ∧ g = [⟨5, 1, a', 4 * min n 65536, c', encL W a (min n 65536)⟩]) (N := 0) (ks := []) (bs := []) (ke := [(2, false)]) (be := []) rfl rfl ?_
  · refine hcalls.mono ?_
    rintro en w' ⟨v, g, f, ⟨a', c', rfl, rfl⟩, rfl, hown, hb⟩
    exact ⟨a', c', rfl, hown 0 _ rfl, hb⟩
  · have e : HGOk W Try.prog Try.f18.ntmps (t18 W a n c) body18 = (True ∧ True ∧ ((True ∧ LoopGOk W Try.prog 64 lb18 (h18 W a n c)) ∧ True)) := by kernel_rfl
    rw [e]
    exact ⟨trivial, trivial, ⟨trivial, loop18 hr⟩, trivial⟩
  · rw [show Try.f18.ntmps = 64 by kernel_rfl, whole18]
    intro a' c'
    refine ⟨?_, .inr rfl, ?_⟩
    · rw [SB.val_sym, sameS_refl (by rfl), sameB_refl (by rfl), @decide_eq_true _ (Classical.propDecidable _) rfl]
      rfl
    · exact ⟨[(false, [.sl a' (4 * min n 65536) c'])], .one (.sl a' (4 * min n 65536) c'), by kernel_rfl, rfl, a', c', rfl, rfl⟩
end Go.Proofs.Ytdfplmkaaodblaa.dc
