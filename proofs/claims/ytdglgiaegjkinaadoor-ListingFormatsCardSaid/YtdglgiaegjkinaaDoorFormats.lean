/- ListingFormats: the text and length of any instruction, or the error. (The two long terms below are printed by a program: wip/ch11/mk3.py.) -/
import Derived.Test.YtdglgiaegjkinaaDoorClo
import Derived.Test.YtdglgiaegjkinaaDoorCards
namespace Go.Proofs.YtdglgiaegjkinaaDoor.listingFormats
open Go Go.Sx Go.RowKit Go.ChangeShapes Go.WideShapes Go.ChangeAt Go.Deep
set_option maxRecDepth 100000
noncomputable def GL (W : World) : List (Nat × Sx.Spec) := [(7, specFmt W), (8, specFmt W), (13, spec13 W), (9, specV F09)]
noncomputable def v3 (W : World) (c : Int) (a : Option Addr) (n cp : Nat) (op x y : Int) : Option TV := eval Tryd.prog W (GL W) 3 [.one (.int .i64 (.sym c)), .one (.sl a n cp), .one (.int .u8 (.sym op)), .one (.int .u8 (.sym x)), .one (.int .u8 (.sym y))]
def fr (k : Bool) (W : World) (a : Option Addr) (n : Nat) : ByteArray × Int × Int := fmtR k n fun j => rdInt W ((a.getD default).add j)
def fl3 (k : Bool) (op x y : Int) : ByteArray × Int × Int := fmtR k 3 fun j => [op, x, y].getD j 0
def fl2 (k : Bool) (op x : Int) : ByteArray × Int × Int := fmtR k 2 fun j => [op, x].getD j 0
def fl1 (k : Bool) (op : Int) : ByteArray × Int × Int := fmtR k 1 fun j => [op].getD j 0
def sq (p : ByteArray × Int × Int) : Bool := p.1.toList == p.1.toList
def nq (p : ByteArray × Int × Int) : Bool := decide (p.2.1 = p.2.1)
def eq (p : ByteArray × Int × Int) : Bool := decide (p.2.2 = p.2.2)
def bd (p : ByteArray × Int × Int) : Bool := bif !(sq p) then true else bif !(nq p) then true else !(eq p)
def b3 (op x y : Int) : Bool := bytB [op, x, y] && true
def b2 (op x : Int) : Bool := bytB [op, x] && true
def b1 (op : Int) : Bool := bytB [op] && true
noncomputable def vc (W : World) (c : Int) (a : Option Addr) (n cp : Nat) (op x y : Int) : Bool := (bif (bd (fr (c == 2) W a n)) then (bif (rowB W a n cp) then (rowB W a n cp) else false) else (bif (bd (fl3 (c == 2) op x y)) then (bif (bif (rowB W a n cp) then (rowB W a n cp) else false) then (bif (b3 op x y) then (b3 op x y) else false) else false) else (bif (bd (fl2 (c == 2) op x)) then (bif (bif (rowB W a n cp) then (rowB W a n cp) else false) then (bif (bif (b3 op x y) then (b3 op x y) else false) then (bif (b2 op x) then (b2 op x) else false) else false) else false) else (bif (bd (fl1 (c == 2) op)) then (bif (bif (rowB W a n cp) then (rowB W a n cp) else false) then (bif (bif (b3 op x y) then (b3 op x y) else false) then (bif (bif (b2 op x) then (b2 op x) else false) then (bif (b1 op) then (b1 op) else false) else false) else false) else false) else (bif (bd (fr (1 == 2) W a n)) then (bif (bif (bif (rowB W a n cp) then (rowB W a n cp) else false) then (bif (bif (b3 op x y) then (b3 op x y) else false) then (bif (bif (b2 op x) then (b2 op x) else false) then (bif (b1 op) then (b1 op) else false) else false) else false) else false) then (bif (rowB W a n cp) then (rowB W a n cp) else false) else false) else (bif (bd (fl3 (1 == 2) op x y)) then (bif (bif (bif (rowB W a n cp) then (rowB W a n cp) else false) then (bif (bif (b3 op x y) then (b3 op x y) else false) then (bif (bif (b2 op x) then (b2 op x) else false) then (bif (b1 op) then (b1 op) else false) else false) else false) else false) then (bif (bif (rowB W a n cp) then (rowB W a n cp) else false) then (bif (b3 op x y) then (b3 op x y) else false) else false) else false) else (bif (bd (fl2 (1 == 2) op x)) then (bif (bif (bif (rowB W a n cp) then (rowB W a n cp) else false) then (bif (bif (b3 op x y) then (b3 op x y) else false) then (bif (bif (b2 op x) then (b2 op x) else false) then (bif (b1 op) then (b1 op) else false) else false) else false) else false) then (bif (bif (rowB W a n cp) then (rowB W a n cp) else false) then (bif (bif (b3 op x y) then (b3 op x y) else false) then (bif (b2 op x) then (b2 op x) else false) else false) else false) else false) else (bif (bd (fl1 (1 == 2) op)) then (bif (bif (bif (rowB W a n cp) then (rowB W a n cp) else false) then (bif (bif (b3 op x y) then (b3 op x y) else false) then (bif (bif (b2 op x) then (b2 op x) else false) then (bif (b1 op) then (b1 op) else false) else false) else false) else false) then (bif (bif (rowB W a n cp) then (rowB W a n cp) else false) then (bif (bif (b3 op x y) then (b3 op x y) else false) then (bif (bif (b2 op x) then (b2 op x) else false) then (bif (b1 op) then (b1 op) else false) else false) else false) else false) else false) else (bif (bd (fr (2 == 2) W a n)) then (bif (bif (bif (rowB W a n cp) then (rowB W a n cp) else false) then (bif (bif (b3 op x y) then (b3 op x y) else false) then (bif (bif (b2 op x) then (b2 op x) else false) then (bif (b1 op) then (b1 op) else false) else false) else false) else false) then (bif (bif (bif (rowB W a n cp) then (rowB W a n cp) else false) then (bif (bif (b3 op x y) then (b3 op x y) else false) then (bif (bif (b2 op x) then (b2 op x) else false) then (bif (b1 op) then (b1 op) else false) else false) else false) else false) then (bif (rowB W a n cp) then (rowB W a n cp) else false) else false) else false) else (bif (bd (fl3 (2 == 2) op x y)) then (bif (bif (bif (rowB W a n cp) then (rowB W a n cp) else false) then (bif (bif (b3 op x y) then (b3 op x y) else false) then (bif (bif (b2 op x) then (b2 op x) else false) then (bif (b1 op) then (b1 op) else false) else false) else false) else false) then (bif (bif (bif (rowB W a n cp) then (rowB W a n cp) else false) then (bif (bif (b3 op x y) then (b3 op x y) else false) then (bif (bif (b2 op x) then (b2 op x) else false) then (bif (b1 op) then (b1 op) else false) else false) else false) else false) then (bif (bif (rowB W a n cp) then (rowB W a n cp) else false) then (bif (b3 op x y) then (b3 op x y) else false) else false) else false) else false) else (bif (bd (fl2 (2 == 2) op x)) then (bif (bif (bif (rowB W a n cp) then (rowB W a n cp) else false) then (bif (bif (b3 op x y) then (b3 op x y) else false) then (bif (bif (b2 op x) then (b2 op x) else false) then (bif (b1 op) then (b1 op) else false) else false) else false) else false) then (bif (bif (bif (rowB W a n cp) then (rowB W a n cp) else false) then (bif (bif (b3 op x y) then (b3 op x y) else false) then (bif (bif (b2 op x) then (b2 op x) else false) then (bif (b1 op) then (b1 op) else false) else false) else false) else false) then (bif (bif (rowB W a n cp) then (rowB W a n cp) else false) then (bif (bif (b3 op x y) then (b3 op x y) else false) then (bif (b2 op x) then (b2 op x) else false) else false) else false) else false) else false) else (bif (bd (fl1 (2 == 2) op)) then (bif (bif (bif (rowB W a n cp) then (rowB W a n cp) else false) then (bif (bif (b3 op x y) then (b3 op x y) else false) then (bif (bif (b2 op x) then (b2 op x) else false) then (bif (b1 op) then (b1 op) else false) else false) else false) else false) then (bif (bif (bif (rowB W a n cp) then (rowB W a n cp) else false) then (bif (bif (b3 op x y) then (b3 op x y) else false) then (bif (bif (b2 op x) then (b2 op x) else false) then (bif (b1 op) then (b1 op) else false) else false) else false) else false) then (bif (bif (rowB W a n cp) then (rowB W a n cp) else false) then (bif (bif (b3 op x y) then (b3 op x y) else false) then (bif (bif (b2 op x) then (b2 op x) else false) then (bif (b1 op) then (b1 op) else false) else false) else false) else false) else false) else false) else (bif (bif (bif (rowB W a n cp) then (rowB W a n cp) else false) then (bif (bif (b3 op x y) then (b3 op x y) else false) then (bif (bif (b2 op x) then (b2 op x) else false) then (bif (b1 op) then (b1 op) else false) else false) else false) else false) then (bif (bif (bif (rowB W a n cp) then (rowB W a n cp) else false) then (bif (bif (b3 op x y) then (b3 op x y) else false) then (bif (bif (b2 op x) then (b2 op x) else false) then (bif (b1 op) then (b1 op) else false) else false) else false) else false) then (bif (bif (rowB W a n cp) then (rowB W a n cp) else false) then (bif (bif (b3 op x y) then (b3 op x y) else false) then (bif (bif (b2 op x) then (b2 op x) else false) then (bif (b1 op) then (b1 op) else false) else false) else false) else false) else false) else false)))))))))))))
def val (W : World) (c : Int) (a : Option Addr) (n : Nat) (op x y : Int) : Bool := (bif (bd (fr (c == 2) W a n)) then false else (bif (bd (fl3 (c == 2) op x y)) then false else (bif (bd (fl2 (c == 2) op x)) then false else (bif (bd (fl1 (c == 2) op)) then false else (bif (bd (fr (1 == 2) W a n)) then false else (bif (bd (fl3 (1 == 2) op x y)) then false else (bif (bd (fl2 (1 == 2) op x)) then false else (bif (bd (fl1 (1 == 2) op)) then false else (bif (bd (fr (2 == 2) W a n)) then false else (bif (bd (fl3 (2 == 2) op x y)) then false else (bif (bd (fl2 (2 == 2) op x)) then false else (bif (bd (fl1 (2 == 2) op)) then false else true))))))))))))
theorem v3_eq (W : World) (c : Int) (a : Option Addr) (n cp : Nat) (op x y : Int) : v3 W c a n cp op x y = bif vc W c a n cp op x y then some (.one (.bool (.sym (val W c a n op x y)))) else none := by kernel_rfl
theorem bd_no (p : ByteArray × Int × Int) : bd p = false := by
  unfold bd sq nq eq
  rw [beq_self_eq_true, decide_eq_true (rfl : p.2.1 = p.2.1), decide_eq_true (rfl : p.2.2 = p.2.2)]
  rfl
theorem gl_ok {W : World} (hT : Tabs W) : GOk W Tryd.prog (GL W) := gok_cons (fmt_spec named7' fmt7 W) (gok_cons (fmt_spec named8 fmt8 W) (gok_cons (spec13_ok W) (gok_cons (spec9 hT) (gok_nil W))))
theorem law {W : World} {c : Int} {a : Option Addr} {n cp : Nat} {op x y : Int} (hr : RowOk W .u8 a n cp) (ho : 0 ≤ op ∧ op ≤ 255) (hx : 0 ≤ x ∧ x ≤ 255) (hy : 0 ≤ y ∧ y ≤ 255) : okTrue (v3 W c a n cp op x y) = true := by
  have hR : rowB W a n cp = true := yes_of hr
  have h3 : b3 op x y = true := by
    unfold b3 bytB
    simp only [List.all_cons, List.all_nil, decide_eq_true ho.1, decide_eq_true ho.2, decide_eq_true hx.1, decide_eq_true hx.2, decide_eq_true hy.1, decide_eq_true hy.2, Bool.and_self]
  have h2 : b2 op x = true := by
    unfold b2 bytB
    simp only [List.all_cons, List.all_nil, decide_eq_true ho.1, decide_eq_true ho.2, decide_eq_true hx.1, decide_eq_true hx.2, Bool.and_self]
  have h1 : b1 op = true := by
    unfold b1 bytB
    simp only [List.all_cons, List.all_nil, decide_eq_true ho.1, decide_eq_true ho.2, Bool.and_self]
  rw [v3_eq]
  unfold vc val
  simp only [bd_no, hR, h3, h2, h1, cond_true, cond_false]
  rfl
def shapes : List ASh := [.one (.int .i64), .ints .u8, .one (.int .u8), .one (.int .u8), .one (.int .u8)]
theorem walk {W : World} (hT : Tabs W) (e : Env) (h : argsOk W e 0 shapes) : Calls Tryd.prog 3 ((argsTV e 0 shapes).map (TV.den fun _ => 0)).toArray W fun en W' => en = .returned (.bool true) ∧ Below W.heap.size W W' := by
  obtain ⟨_, h1, h2, h3, h4, -⟩ := h
  exact law_calls (gl_ok hT) (law (W := W) h1 h2 h3 h4)
theorem lifted (os : Os) (started : os.Started) (H : Type) (enc : TypeId × Value → H) :
    ReturnsInHanded {} Tryd.checked os 3 .any (fun w args => (Rows.listingFormatsSpec.pre enc Tryd.prog Tryd.f3 [] false w args ∧ laidMetH Tryd.prog laidL w) ∧ sizedMet enc Tryd.prog Tryd.f3 (OpenSpec.ofChange Rows.listingFormatsSpec) false w args) (Rows.listingFormatsSpec.post enc Tryd.prog Tryd.f3 false true false false) :=
  law_stepL (C := Tryd.checked) (X := fun w => laidMetH Tryd.prog laidL w) (fun _ _ hh h => h.of_heap hh) 5 own started (by kernel_rfl) Tryd.func3 (by kernel_rfl) (by kernel_rfl) rfl
    (fun ds hd => by
      match ds, hd with
      | [d0, d1, d2, d3, d4], _ => rfl)
    (ChangeSpec.witness_shaped (enc := enc) (C := Tryd.checked) (os := os) (X := fun w _ => laidMetH Tryd.prog laidL w) false (World.laidAll Tryd.prog os laidL) #[.int .i64 0, .slice none 0 0, .int .u8 0, .int .u8 0, .int .u8 0] 8 (World.laidAll_os _ _ _)
      (World.shaped_of_ZipB (by kernel_rfl) (by kernel_rfl)) (by kernel_rfl) (by kernel_rfl) (by kernel_rfl) (laid_met os _))
    (fun W base args hX hv hl _ _ htr => shape_walkL shapes (by kernel_rfl) (fun e h => walk (tabs_of hX) e h) base args hv hl htr)
theorem over : Rows.listingFormatsRow.holds Tryd.pinned (OpenSpec.ofChange Rows.listingFormatsSpec) :=
  OpenClaim.holds_of_wide 3 Tryd.f3 rfl rfl rfl rfl rfl rfl rfl ⟨rfl, rfl, rfl, rfl, rfl⟩ rfl rfl rfl rfl rfl (by kernel_rfl) Tryd.func3 (by kernel_rfl)
    (of_decide_eq_true (by kernel_rfl)) (by unfold Func.isWrapper; first | (rw [if_pos (by decide +kernel)]; kernel_rfl) | (rw [if_neg (by decide +kernel)]; exact ⟨rfl, rfl⟩))
    (fun os started H enc _ => lifted os started H enc)
theorem proved : Rows.ListingFormatsCardSaid :=
  Claim7.holds_tied_plain_at .later [] [.data, .pinned] true (true, "5a16254ff44ab90f7cd9a716dfd463f6c71280108dac93345729763970746f0c") false over (fun _ h => by cases h) (by kernel_rfl) (fun _ h => by cases h) listingFormats_row_tie rfl ⟨rfl, rfl⟩ (by kernel_rfl) rfl
    (fun f fn hf hfn => by
      obtain rfl : f = 3 := Option.some.inj ((show Tryd.prog.funcNamed "tstate/tstatelaw11.ListingFormats" = some 3 by kernel_rfl).symm.trans hf) |>.symm
      obtain rfl : fn = Tryd.f3 := (Option.some.inj (Tryd.func3.symm.trans hfn)).symm
      exact ⟨by kernel_rfl, fun j t ht => by
        rw [Tryd.params3] at ht
        have hm : t ∈ [3, 22, 5, 5, 5] := by simpa using Array.mem_of_getElem? ht
        have hall : ([3, 22, 5, 5, 5].all fun u => !Tryd.prog.wantsStandIn u) = true := by kernel_rfl
        exact (show Tryd.prog.wantsStandIn t = false by simpa using List.all_eq_true.1 hall t hm)⟩)
    (by kernel_rfl)
#print axioms proved
end Go.Proofs.YtdglgiaegjkinaaDoor.listingFormats
