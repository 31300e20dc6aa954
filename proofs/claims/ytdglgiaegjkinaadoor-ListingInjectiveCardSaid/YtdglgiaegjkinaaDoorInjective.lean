/- ListingInjective: two instructions of the 8085 have the same text only if their bytes are the same. -/
import Derived.Test.YtdglgiaegjkinaaDoorClo
import Derived.Test.YtdglgiaegjkinaaDoorCards
namespace Go.Proofs.YtdglgiaegjkinaaDoor.listingInjective
open Go Go.Sx Go.RowKit Go.ChangeShapes Go.WideShapes Go.ChangeAt Go.Deep
set_option maxRecDepth 100000
noncomputable def GL (W : World) : List (Nat × Sx.Spec) := [(7, specFmt W), (8, specFmt W), (13, spec13 W), (9, specV F09)]
noncomputable def v6 (W : World) (a b x y z w : Int) : Option TV := eval Tryd.prog W (GL W) 6 [.one (.int .u8 (.sym a)), .one (.int .u8 (.sym b)), .one (.int .u8 (.sym x)), .one (.int .u8 (.sym y)), .one (.int .u8 (.sym z)), .one (.int .u8 (.sym w))]
def f3 (a x y : Int) : ByteArray × Int × Int := fmtR (2 == 2) 3 fun j => [a, x, y].getD j 0
def n3 (a x y : Int) : Int := (f3 a x y).2.1
def bad (n m : Int) : Bool := bif decide (n < 1) then true else bif decide (m < 1) then true else bif decide (3 < n) then true else decide (3 < m)
def b3 (a x y : Int) : Bool := bytB [a, x, y]
def z1 (a x y n : Int) : Bool := b3 a x y && (decide (n.toNat ≤ 3) && true)
def z0 (n : Int) : Bool := decide (0 ≤ n) && decide (n ≤ 3)
def zz (a b x y z w : Int) : Bool := z0 (n3 a x y) && (z0 (n3 b z w) && (z1 a x y (n3 a x y) && z1 b z w (n3 b z w)))
def val6 (a b x y z w : Int) : Bool := decide (((f3 a x y).1.toList == (f3 b z w).1.toList) = decide (List.take (n3 a x y).toNat [a, x, y] = List.take (n3 b z w).toNat [b, z, w]))
def vb (a b x y z w : Int) : Bool := (b3 a x y && true) && ((b3 b z w && true) && (bif val6 a b x y z w then zz a b x y z w else zz a b x y z w))
def va (a b x y z w : Int) : Bool := (b3 a x y && true) && (b3 b z w && true)
theorem v6_eq (W : World) (a b x y z w : Int) : v6 W a b x y z w = bif (bif bad (n3 a x y) (n3 b z w) then va a b x y z w else vb a b x y z w) then some (.one (.bool (.sym (bif bad (n3 a x y) (n3 b z w) then false else val6 a b x y z w)))) else none := by kernel_rfl
theorem gl_ok {W : World} (hT : Tabs W) : GOk W Tryd.prog (GL W) := gok_cons (fmt_spec named7' fmt7 W) (gok_cons (fmt_spec named8 fmt8 W) (gok_cons (spec13_ok W) (gok_cons (spec9 hT) (gok_nil W))))
theorem f3_val {v : Nat} (hv : v < 256) (x y : Int) : f3 (v : Int) x y = (txt (tabK true v).1 (tabK true v).2 x y, ((tabK true v).1 : Int), 0) := by
  unfold f3 fmtR
  have hL := lens true v hv
  show (match Nat.blt 3 (tabK true (v : Int).toNat).1 with | true => (strB [], (0 : Int), (1 : Int)) | false => (txt (tabK true (v : Int).toNat).1 (tabK true (v : Int).toNat).2 x y, ((tabK true (v : Int).toNat).1 : Int), 0)) = _
  rw [Int.toNat_natCast]
  have : Nat.blt 3 (tabK true v).1 = false := by
    rcases hL with h | h | h <;> rw [h] <;> rfl
  rw [this]
theorem law {W : World} {a b x y z w : Int} (ha : 0 ≤ a ∧ a ≤ 255) (hb : 0 ≤ b ∧ b ≤ 255) (hx : 0 ≤ x ∧ x ≤ 255) (hy : 0 ≤ y ∧ y ≤ 255) (hz : 0 ≤ z ∧ z ≤ 255) (hw : 0 ≤ w ∧ w ≤ 255) : okTrue (v6 W a b x y z w) = true := by
  rw [v6_eq]
  obtain ⟨m, rfl⟩ : ∃ m : Nat, a = m := ⟨a.toNat, by omega⟩
  obtain ⟨n, rfl⟩ : ∃ n : Nat, b = n := ⟨b.toNat, by omega⟩
  have hm : m < 256 := by omega
  have hn : n < 256 := by omega
  have e1 := f3_val hm x y
  have e2 := f3_val hn z w
  have hL := lens true m hm
  have hL' := lens true n hn
  have n1 : n3 (m : Int) x y = ((tabK true m).1 : Int) := by unfold n3; rw [e1]
  have n2 : n3 (n : Int) z w = ((tabK true n).1 : Int) := by unfold n3; rw [e2]
  have hbad : bad (n3 (m : Int) x y) (n3 (n : Int) z w) = false := by
    rw [n1, n2]
    unfold bad
    rw [decide_eq_false (show ¬ ((tabK true m).1 : Int) < 1 by omega), decide_eq_false (show ¬ ((tabK true n).1 : Int) < 1 by omega), decide_eq_false (show ¬ (3 : Int) < ((tabK true m).1 : Int) by omega), decide_eq_false (show ¬ (3 : Int) < ((tabK true n).1 : Int) by omega)]
    rfl
  have hb1 : ∀ {p q r : Int}, 0 ≤ p ∧ p ≤ 255 → 0 ≤ q ∧ q ≤ 255 → 0 ≤ r ∧ r ≤ 255 → b3 p q r = true := by
    intro p q r h1 h2 h3
    unfold b3 bytB
    simp only [List.all_cons, List.all_nil, decide_eq_true h1.1, decide_eq_true h1.2, decide_eq_true h2.1, decide_eq_true h2.2, decide_eq_true h3.1, decide_eq_true h3.2, Bool.and_self]
  have hz0 : ∀ {L : Nat}, L = 1 ∨ L = 2 ∨ L = 3 → z0 (L : Int) = true ∧ decide (((L : Int)).toNat ≤ 3) = true := by
    intro L h
    rcases h with rfl | rfl | rfl <;> exact ⟨rfl, rfl⟩
  have hzz : zz (m : Int) (n : Int) x y z w = true := by
    unfold zz z1
    rw [hb1 ha hx hy, hb1 hb hz hw, n1, n2, (hz0 hL).1, (hz0 hL').1, (hz0 hL).2, (hz0 hL').2]
    rfl
  have hval : val6 (m : Int) (n : Int) x y z w = true := by
    unfold val6
    rw [n1, n2, e1, e2, Int.toNat_natCast, Int.toNat_natCast]
    apply decide_eq_true
    show eqT (txt (tabK true m).1 (tabK true m).2 x y) (txt (tabK true n).1 (tabK true n).2 z w) = _
    rw [eqT_eq]
    apply decide_eq_decide.2
    constructor
    · intro h
      obtain ⟨h1, h2⟩ := txt_inj hm hn hx hy hz hw h
      have hmn : m = n := uniq hm hn h1
      subst hmn
      rcases h2 with h2 | ⟨h2, rfl⟩ | ⟨h2, rfl, rfl⟩
      · rw [h2]; rfl
      · rw [h2]; rfl
      · rfl
    · intro h
      have h0 := congrArg (fun l => l[0]?) h
      have hmn : m = n := by
        rcases hL with h1 | h1 | h1 <;> rcases hL' with h2 | h2 | h2 <;> rw [h1, h2] at h0 <;> simp at h0 <;> omega
      subst hmn
      rcases hL with h1 | h1 | h1
      · rw [h1]; exact txt_one _ _ _ _ _
      · rw [h1] at h ⊢
        simp only [List.take_succ_cons, List.take_zero, List.cons.injEq, and_true, true_and] at h
        rw [h]
        exact txt_two _ _ _ _
      · rw [h1] at h ⊢
        simp only [List.take_succ_cons, List.take_zero, List.cons.injEq, and_true, true_and] at h
        rw [h.1, h.2]
  unfold vb va
  rw [hbad, hb1 ha hx hy, hb1 hb hz hw, hval, hzz]
  rfl
def shapes : List ASh := [.one (.int .u8), .one (.int .u8), .one (.int .u8), .one (.int .u8), .one (.int .u8), .one (.int .u8)]
theorem walk {W : World} (hT : Tabs W) (e : Env) (h : argsOk W e 0 shapes) : Calls Tryd.prog 6 ((argsTV e 0 shapes).map (TV.den fun _ => 0)).toArray W fun en W' => en = .returned (.bool true) ∧ Below W.heap.size W W' := by
  obtain ⟨h0, h1, h2, h3, h4, h5, -⟩ := h
  exact law_calls (gl_ok hT) (law (W := W) h0 h1 h2 h3 h4 h5)
theorem lifted (os : Os) (started : os.Started) (H : Type) (enc : TypeId × Value → H) :
    ReturnsInHanded {} Tryd.checked os 6 .any (fun w args => (Rows.listingInjectiveSpec.pre enc Tryd.prog Tryd.f6 [] false w args ∧ laidMetH Tryd.prog laidL w) ∧ sizedMet enc Tryd.prog Tryd.f6 (OpenSpec.ofChange Rows.listingInjectiveSpec) false w args) (Rows.listingInjectiveSpec.post enc Tryd.prog Tryd.f6 false true false false) :=
  law_stepL (C := Tryd.checked) (X := fun w => laidMetH Tryd.prog laidL w) (fun _ _ hh h => h.of_heap hh) 6 own started (by kernel_rfl) Tryd.func6 (by kernel_rfl) (by kernel_rfl) rfl
    (fun ds hd => by
      match ds, hd with
      | [d0, d1, d2, d3, d4, d5], _ => rfl)
    (ChangeSpec.witness_shaped (enc := enc) (C := Tryd.checked) (os := os) (X := fun w _ => laidMetH Tryd.prog laidL w) false (World.laidAll Tryd.prog os laidL) #[.int .u8 0, .int .u8 0, .int .u8 0, .int .u8 0, .int .u8 0, .int .u8 0] 8 (World.laidAll_os _ _ _)
      (World.shaped_of_ZipB (by kernel_rfl) (by kernel_rfl)) (by kernel_rfl) (by kernel_rfl) (by kernel_rfl) (laid_met os _))
    (fun W base args hX hv hl _ _ htr => shape_walkL shapes (by kernel_rfl) (fun e h => walk (tabs_of hX) e h) base args hv hl htr)
theorem over : Rows.listingInjectiveRow.holds Tryd.pinned (OpenSpec.ofChange Rows.listingInjectiveSpec) :=
  OpenClaim.holds_of_wide 6 Tryd.f6 rfl rfl rfl rfl rfl rfl rfl ⟨rfl, rfl, rfl, rfl, rfl⟩ rfl rfl rfl rfl rfl (by kernel_rfl) Tryd.func6 (by kernel_rfl)
    (of_decide_eq_true (by kernel_rfl)) (by unfold Func.isWrapper; first | (rw [if_pos (by decide +kernel)]; kernel_rfl) | (rw [if_neg (by decide +kernel)]; exact ⟨rfl, rfl⟩))
    (fun os started H enc _ => lifted os started H enc)
theorem proved : Rows.ListingInjectiveCardSaid :=
  Claim7.holds_tied_plain_at .later [] [.data, .pinned] true (true, "5a16254ff44ab90f7cd9a716dfd463f6c71280108dac93345729763970746f0c") false over (fun _ h => by cases h) (by kernel_rfl) (fun _ h => by cases h) listingInjective_row_tie rfl ⟨rfl, rfl⟩ (by kernel_rfl) rfl
    (fun f fn hf hfn => by
      obtain rfl : f = 6 := Option.some.inj ((show Tryd.prog.funcNamed "tstate/tstatelaw11.ListingInjective" = some 6 by kernel_rfl).symm.trans hf) |>.symm
      obtain rfl : fn = Tryd.f6 := (Option.some.inj (Tryd.func6.symm.trans hfn)).symm
      exact ⟨by kernel_rfl, fun j t ht => by
        rw [Tryd.params6] at ht
        have hm : t ∈ [5, 5, 5, 5, 5, 5] := by simpa using Array.mem_of_getElem? ht
        have hall : ([5, 5, 5, 5, 5, 5].all fun u => !Tryd.prog.wantsStandIn u) = true := by kernel_rfl
        exact (show Tryd.prog.wantsStandIn t = false by simpa using List.all_eq_true.1 hall t hm)⟩)
    (by kernel_rfl)
#print axioms proved
end Go.Proofs.YtdglgiaegjkinaaDoor.listingInjective
