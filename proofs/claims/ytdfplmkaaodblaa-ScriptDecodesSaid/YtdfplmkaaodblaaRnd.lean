/- SameInputs is true of two rows of the same entries; what is encoded is decoded again. -/
import Derived.Test.YtdfplmkaaodblaaEnts
namespace Go.Proofs.Ytdfplmkaaodblaa.dc
open Go Go.Sx Go.RowKit
set_option maxRecDepth 100000
noncomputable def body11 : Code := match Try.f11.body with
  | some c => c
  | none => .skip
noncomputable def lb11 : Code := match body11 with
  | .seq _ (.seq _ (.seq (.seq _ (.block _ (.loop b))) _)) => b
  | _ => .skip
def SP11 (a b : Option Addr) (n c d : Nat) (i : Int) : SL := [(0, .one (.sl a n c)), (1, .one (.sl b n d)), (12, .one (.int .i64 (.sym (n : Int)))), (13, .one (.int .i64 (.sym i)))]
def ks11 : List (Nat × Bool) := [(0, true), (1, true), (12, true), (13, true)]
def eq11 (W : World) (a b : Option Addr) (i : Int) : Bool := rb W a i 0 == rb W b i 0 && (rb W a i 1 == rb W b i 1 && (rb W a i 2 == rb W b i 2 && (rb W a i 3 == rb W b i 3 && (rb W a i 4 == rb W b i 4 && (rb W a i 5 == rb W b i 5 && (rb W a i 6 == rb W b i 6 && (rb W a i 7 == rb W b i 7 && (ri W a i 8 == ri W b i 8 && ri W a i 9 == ri W b i 9))))))))
theorem round11 (W : World) (a b : Option Addr) (n c d : Nat) (i : Int) : (runG Try.prog W (G0 W) 100000 26 .plain lb11 (SP11 a b n c d i) ⟨[], [], 0⟩ []).slim 0 ks11 [] [] [] =
    .br (decide (i < (n : Int))) (.br (!(eq11 W a b i)) (.leaf .ret (.sym (inRow a n i && (lies W a i && (inRow b n i && lies W b i)))) [] ⟨[], [], 0⟩ [])
      (.leaf .nrm (.sym (inRow a n i && (lies W a i && (inRow b n i && lies W b i)))) (SP11 a b n c d (gadd .i64 i 1)) ⟨[], [], 0⟩ [])) (.leaf (.exit 0) (.lit true) [] ⟨[], [], 0⟩ []) := by kernel_rfl
theorem eq11_ok {W : World} {a b : Option Addr} {k : Nat} (h : entW W a k = entW W b k) : eq11 W a b k = true := by
  unfold entW at h
  injection h with h0 h1 h2 h3 h4 h5 h6 h7 h8 h9
  unfold eq11
  rw [h0, h1, h2, h3, h4, h5, h6, h7, h8, h9]
  simp
def End11 : RG := .leaf (.exit 0) (.lit true) [] ⟨[], [], 0⟩ []
theorem step11 {W : World} {a b : Option Addr} {n c d : Nat} {es : List Ent} (ha : RowE W a n c es) (hb : RowE W b n d es) : StepOk W Try.prog (G0 W) 100000 26 .plain lb11 0 ks11 [] [] [] (fun i : Nat => i ≤ n) (fun i => n - i) (fun i => SP11 a b n c d i) (fun _ => []) (fun _ => []) End11 := by
  constructor
  intro i hI
  rw [show (Bs.of W).W = W from rfl, round11]
  have g1 : i < n → gadd .i64 (i : Int) 1 = ((i + 1 : Nat) : Int) := fun h => by
    have := ha.le
    have := ha.max
    have hm : maxLen = 9223372036854775807 := by decide
    unfold gadd
    rw [IntKind.wrap_i64]
    omega
  constructor
  · intro hc
    have hk : i < n := by
      have := of_decide_eq_true hc
      omega
    obtain ⟨e, he⟩ := ha.get hk
    have e1 : eq11 W a b i = true := eq11_ok ((ha.read he).1.trans (hb.read he).1.symm)
    constructor
    · intro hx
      rw [e1] at hx
      cases hx
    · intro _
      refine ⟨by rw [SB.val_sym, inRow_ok ha.rowS hk, lies_ok ha.rowS hk, inRow_ok hb.rowS hk, lies_ok hb.rowS hk]; rfl, .inl ⟨rfl, i + 1, by omega, by omega, ?_, rfl, rfl⟩⟩
      rw [g1 hk]
  · intro _
    exact ⟨rfl, .inr ⟨by simp, fun f ac w hst e' he' => ⟨he', f, hst⟩⟩⟩
noncomputable def h11 (a b : Option Addr) (n c d : Nat) : LG := .at_ true ks11 [] 0 (SP11 a b n c d 0) [] [] End11
theorem loop11 {W : World} {a b : Option Addr} {n c d : Nat} {es : List Ent} (ha : RowE W a n c es) (hb : RowE W b n d es) : LoopGOk W Try.prog 26 lb11 (h11 a b n c d) := by
  refine loopG_step (gok0 W) (show HGOk (Bs.of W) Try.prog 26 .plain lb11 from trivial) rfl rfl (step11 ha hb) ?_
  intro _
  exact ⟨0, Nat.zero_le _, rfl, rfl, .inl rfl⟩
noncomputable def t11 (a b : Option Addr) (n c d : Nat) : HG := .seq .plain (.seq .plain (.seq (.seq .plain (.block (.loop (h11 a b n c d)))) .plain))
theorem whole11 (W : World) (a b : Option Addr) (n c d : Nat) : (runG Try.prog W (G0 W) 100000 26 (t11 a b n c d) body11 (argSlots 0 [.one (.sl a n c), .one (.sl b n d)]) noMem []).slim 0 [] [] [(4, false)] [] =
    .br ((n : Int) != (n : Int)) (.leaf .ret (.lit true) [(4, .one (.bool (.lit false)))] ⟨[], [], 0⟩ [])
      (.leaf .ret (.sym (true && (sameS (SP11 a b n c d 0) (SP11 a b n c d 0) && (sameB [] [] && @decide (([] : Gh) = []) (Classical.propDecidable _))))) [(4, .one (.bool (.lit true)))] ⟨[], [], 0⟩ []) := by kernel_rfl
/-- SameInputs is true of two rows of the same entries. -/
theorem same11 {W : World} {a b : Option Addr} {n c d : Nat} {es : List Ent} (ha : RowE W a n c es) (hb : RowE W b n d es) : Calls Try.prog 11 #[.slice a n c, .slice b n d] W fun en w' => en = .returned (.bool true) ∧ Below W.heap.size W w' := by
  have hcalls := calls_of_runG (gok0 W) (n := 100000) (g := 11) Try.func11 (show Try.f11.body = some body11 by kernel_rfl) (t := t11 a b n c d) (args := [.one (.sl a n c), .one (.sl b n d)]) ?_ (by rw [show Try.f11.ntmps = 26 by kernel_rfl]; simp)
    (R := fun v _ => v = .one (.bool (.lit true))) (N := 0) (ks := []) (bs := []) (ke := [(4, false)]) (be := []) rfl rfl ?_
  · refine hcalls.mono ?_
    rintro en w' ⟨v, g, f, rfl, rfl, _, hbl⟩
    exact ⟨rfl, hbl⟩
  · have e : HGOk W Try.prog Try.f11.ntmps (t11 a b n c d) body11 = (True ∧ True ∧ ((True ∧ LoopGOk W Try.prog 26 lb11 (h11 a b n c d)) ∧ True)) := by kernel_rfl
    rw [e]
    exact ⟨trivial, trivial, ⟨trivial, loop11 ha hb⟩, trivial⟩
  · rw [show Try.f11.ntmps = 26 by kernel_rfl, whole11]
    refine ⟨fun hx => ?_, fun _ => ⟨?_, .inr rfl, [(false, [.bool (.lit true)])], .one (.bool (.lit true)), by kernel_rfl, rfl, rfl⟩⟩
    · rw [bne_self_eq_false] at hx
      cases hx
    · rw [SB.val_sym, sameS_refl (by rfl), sameB_refl (by rfl), @decide_eq_true _ (Classical.propDecidable _) rfl]
      rfl
/-! ### What is encoded is decoded again -/
theorem ctl_bits : ∀ b0 b1 b2 b3 b4 b5 b6 b7 : Bool, ((bits .and .u8 (ctl b0 b1 b2 b3 b4 b5 b6 b7) 1 == 0) = b0 ∧ (bits .and .u8 (ctl b0 b1 b2 b3 b4 b5 b6 b7) 2 != 0) = b1 ∧ (bits .and .u8 (ctl b0 b1 b2 b3 b4 b5 b6 b7) 4 != 0) = b2 ∧ (bits .and .u8 (ctl b0 b1 b2 b3 b4 b5 b6 b7) 8 != 0) = b3 ∧
    (bits .and .u8 (ctl b0 b1 b2 b3 b4 b5 b6 b7) 16 != 0) = b4 ∧ (bits .and .u8 (ctl b0 b1 b2 b3 b4 b5 b6 b7) 32 != 0) = b5 ∧ (bits .and .u8 (ctl b0 b1 b2 b3 b4 b5 b6 b7) 64 != 0) = b6 ∧ (bits .and .u8 (ctl b0 b1 b2 b3 b4 b5 b6 b7) 128 != 0) = b7) ∧
    IntKind.u8.min ≤ ctl b0 b1 b2 b3 b4 b5 b6 b7 ∧ ctl b0 b1 b2 b3 b4 b5 b6 b7 ≤ IntKind.u8.max := by decide +kernel
theorem decI_z (e : Ent) : decI e.c e.i8 e.i9 (chk e.c e.i8 e.i9) = e := by
  obtain ⟨b0, b1, b2, b3, b4, b5, b6, b7, i8, i9⟩ := e
  obtain ⟨⟨h0, h1, h2, h3, h4, h5, h6, h7⟩, _⟩ := ctl_bits b0 b1 b2 b3 b4 b5 b6 b7
  unfold decI
  rw [bne_self_eq_false, cond_false]
  unfold Ent.c
  dsimp only
  rw [h0, h1, h2, h3, h4, h5, h6, h7]
theorem encE_get {l : List Ent} {k : Nat} {e : Ent} (h : l[k]? = some e) {i : Nat} (hi : i < 4) : (encE l)[4 * k + i]? = e.z[i]? := by
  induction l generalizing k with
  | nil => simp at h
  | cons x l ih =>
    rw [encE]
    cases k with
    | zero =>
      simp only [List.getElem?_cons_zero, Option.some.injEq] at h
      subst h
      rw [List.getElem?_append_left (by show _ < 4; omega)]
      rw [Nat.mul_zero, Nat.zero_add]
    | succ k =>
      simp only [List.getElem?_cons_succ] at h
      rw [List.getElem?_append_right (by show 4 ≤ _; omega), ← ih h]
      congr 1
      show 4 * (k + 1) + i - 4 = _
      omega
theorem encE_getD {l : List Ent} {k : Nat} {e : Ent} (h : l[k]? = some e) : (encE l).getD (4 * k) 0 = e.c ∧ (encE l).getD (4 * k + 1) 0 = e.i8 ∧ (encE l).getD (4 * k + 2) 0 = e.i9 ∧ (encE l).getD (4 * k + 3) 0 = chk e.c e.i8 e.i9 := by
  have h0 := encE_get h (i := 0) (by decide)
  have h1 := encE_get h (i := 1) (by decide)
  have h2 := encE_get h (i := 2) (by decide)
  have h3 := encE_get h (i := 3) (by decide)
  rw [Nat.add_zero] at h0
  simp only [List.getD, h0, h1, h2, h3]
  exact ⟨rfl, rfl, rfl, rfl⟩
theorem dec_enc (l : List Ent) : ∀ k, k ≤ l.length → decE (encE l) k = l.take k
  | 0, _ => by rw [List.take_zero]; rfl
  | k + 1, hk => by
    have h : l[k]? = some l[k] := by simp [show k < l.length by omega]
    obtain ⟨h0, h1, h2, h3⟩ := encE_getD h
    rw [decE, dec_enc l k (by omega), h0, h1, h2, h3, decI_z, List.take_add_one, h]
    rfl
theorem dec_enc_all (l : List Ent) : decE (encE l) l.length = l := by rw [dec_enc l _ (Nat.le_refl _), List.take_length]
theorem ctl_enc (l : List Ent) : Ctl (encE l) := by
  intro k z hz
  have hl := encE_length l
  have hk : k < l.length := by
    have := (List.getElem?_eq_some_iff.1 hz).1
    omega
  have h : l[k]? = some l[k] := by simp [hk]
  have h0 := encE_get h (i := 0) (by decide)
  rw [Nat.add_zero, hz] at h0
  simp only [Ent.z, List.getElem?_cons_zero, Option.some.injEq] at h0
  rw [h0]
  exact (ctl_bits _ _ _ _ _ _ _ _).2
end Go.Proofs.Ytdfplmkaaodblaa.dc
