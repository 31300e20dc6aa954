/- A part of the proof: the reference is safe, both packages write and read alike. Several texts in one; printed by slim28.py out of the texts of wip. -/
import Derived.Test.YtjmnolhkkpaodaaGreatDoorZ32
set_option linter.all false
namespace Go.Proofs.YtjmnolhkkpaodaaGreatDoor
open Go Go.Sx Go.RowKit
set_option maxRecDepth 100000
abbrev FBw := Nat → Bool
def pinsA (st a d : Int) (b : FBw) : List SV := [.int .i64 (.sym st), .int .u16 (.sym a), .int .u8 (.sym d), .bool (.sym (b 0)), .bool (.sym (b 1)), .bool (.sym (b 2)), .bool (.sym (b 3)), .bool (.sym (b 4)), .bool (.sym (b 5)), .bool (.sym (b 6)), .bool (.sym (b 7)), .bool (.sym (b 8)), .bool (.sym (b 9)), .bool (.sym (b 10)), .bool (.sym (b 11)), .bool (.sym (b 12)), .bool (.sym (b 13))]
theorem eval_sym {P : Program} {W : World} {G : List (Nat × Sx.Spec)} {g : FuncId} {args : List TV} {b : Bool} {v : TV} (h : evalR P W G g args = some (.sym b, v)) (hb : b = true) : eval P W G g args = some v :=
 eval_of_evalR h (by rw [SB.val_sym]; exact hb)
def emp : ByteArray := ⟨#[]⟩
def digs : ByteArray := ⟨#[48, 49, 50, 51, 52, 53, 54, 55, 56, 57, 97, 98, 99, 100, 101, 102]⟩
def nib (v k : Int) : Int := bits .and .i64 (gshr .i64 v k) 15
def digB (v k : Int) : ByteArray := digs.extract (nib v k).toNat (gadd .i64 (nib v k) 1).toNat
def okd (v k : Int) : Bool := decide (0 ≤ nib v k) && (decide (nib v k ≤ gadd .i64 (nib v k) 1) && decide (gadd .i64 (nib v k) 1 ≤ (digs.size : Int)))
def okz (a b : ByteArray) : Bool := decide (((a.size + b.size : Nat) : Int) ≤ 9223372036854775807)
def hx1 (v k : Int) (s : ByteArray) : ByteArray := catB s (digB v k)
def hc1 (v k : Int) (s : ByteArray) : Bool := okd v k && okz s (digB v k)
def hex2 (v : Int) : ByteArray := hx1 v 0 (hx1 v 4 emp)
def hex4 (v : Int) : ByteArray := hx1 v 0 (hx1 v 4 (hx1 v 8 (hx1 v 12 emp)))
def c2 (v : Int) : Bool := hc1 v 4 emp && hc1 v 0 (hx1 v 4 emp)
def c4 (v : Int) : Bool := hc1 v 12 emp && (hc1 v 8 (hx1 v 12 emp) && (hc1 v 4 (hx1 v 8 (hx1 v 12 emp)) && hc1 v 0 (hx1 v 4 (hx1 v 8 (hx1 v 12 emp)))))
theorem eval46b (W : World) (v : Int) : evalR Tryz.prog W [] 46 [.one (.int .i64 (.sym v)), .one (.int .i64 (.lit 2))] = some (.sym (c2 v), .one (.str (hex2 v))) := by kernel_rfl
theorem eval46d (W : World) (v : Int) : evalR Tryz.prog W [] 46 [.one (.int .i64 (.sym v)), .one (.int .i64 (.lit 4))] = some (.sym (c4 v), .one (.str (hex4 v))) := by kernel_rfl
theorem catB_size (a b : ByteArray) : (catB a b).size = a.size + b.size := by
 show (a.data.toList ++ b.data.toList).toArray.size = a.data.size + b.data.size
 rw [List.size_toArray, List.length_append, Array.length_toList, Array.length_toList]
theorem nib_eq (v k : Int) : nib v k = gshr .i64 v k % 16 := and_mask .i64 4 (by decide) _
theorem nib_rng (v k : Int) : 0 ≤ nib v k ∧ nib v k ≤ 15 := by rw [nib_eq]; omega
theorem digs_size : digs.size = 16 := rfl
theorem gadd1' {x : Int} (h : 0 ≤ x ∧ x ≤ 15) : gadd .i64 x 1 = x + 1 := by
 unfold gadd
 rw [IntKind.wrap_i64]
 omega
theorem okd_true (v k : Int) : okd v k = true := by
 have h := nib_rng v k
 unfold okd
 rw [gadd1' h, digs_size]
 simp only [Bool.and_eq_true, decide_eq_true_eq]
 omega
theorem ext_size (s : ByteArray) (i j : Nat) (h : j ≤ s.size) : (s.extract i j).size = j - i := by rw [ByteArray.size_extract]; omega
theorem digB_size (v k : Int) : (digB v k).size = 1 := by
 have h := nib_rng v k
 unfold digB
 rw [gadd1' h, ext_size _ _ _ (by rw [digs_size]; omega)]
 omega
theorem okz_true {a b : ByteArray} {n m : Nat} (ha : a.size ≤ n) (hb : b.size ≤ m) (h : n + m ≤ 1000000 := by decide) : okz a b = true := by
 unfold okz
 rw [decide_eq_true_eq]
 omega
theorem hx1_size (v k : Int) (s : ByteArray) : (hx1 v k s).size = s.size + 1 := by unfold hx1; rw [catB_size, digB_size]
theorem hc1_true (v k : Int) {s : ByteArray} (h : s.size ≤ 100) : hc1 v k s = true := by
 unfold hc1
 rw [okd_true, okz_true h (Nat.le_of_eq (digB_size v k))]
 rfl
theorem emp_size : emp.size = 0 := rfl
theorem hex2_size (v : Int) : (hex2 v).size = 2 := by unfold hex2; rw [hx1_size, hx1_size, emp_size]
theorem hex4_size (v : Int) : (hex4 v).size = 4 := by unfold hex4; rw [hx1_size, hx1_size, hx1_size, hx1_size, emp_size]
theorem c2_true (v : Int) : c2 v = true := by
 unfold c2
 rw [hc1_true _ _ (by rw [emp_size]; decide), hc1_true _ _ (by rw [hx1_size, emp_size]; decide)]
 rfl
theorem c4_true (v : Int) : c4 v = true := by
 unfold c4
 rw [hc1_true _ _ (by rw [emp_size]; decide), hc1_true _ _ (by rw [hx1_size, emp_size]; decide), hc1_true _ _ (by rw [hx1_size, hx1_size, emp_size]; decide), hc1_true _ _ (by rw [hx1_size, hx1_size, hx1_size, emp_size]; decide)]
 rfl
def FHx : List TV → Option (SB × TV)
 | [.one (.int .i64 v), .one (.int .i64 (.lit k))] => bif decide (k = 4) then some (.lit true, .one (.str (hex4 v.val))) else bif decide (k = 2) then some (.lit true, .one (.str (hex2 v.val))) else none
 | _ => none
theorem hex_ok (W : World) : SpecOk W Tryz.prog 46 (specV FHx) := by
 refine specV_ok' (G := []) (gok_nil W) ⟨Tryz.f46, Tryz.func46, by kernel_rfl, by kernel_rfl⟩ fun args c v hv hc => ?_
 unfold FHx at hv
 split at hv <;> try contradiction
 rename_i n k
 by_cases h4 : k = 4
 · subst h4
   simp only [decide_true, cond_true, Option.some.injEq, Prod.mk.injEq] at hv
   obtain ⟨rfl, rfl⟩ := hv
   exact ⟨rfl, rfl, by simp, [.one (.int .i64 (.sym n.val)), .one (.int .i64 (.lit 4))], rfl, rfl, _, eval_of_evalR (eval46d W n.val) (c4_true _), fun _ => rfl⟩
 · by_cases h2 : k = 2
   · subst h2
     simp only [decide_true, cond_true, Option.some.injEq, Prod.mk.injEq, show decide ((2 : Int) = 4) = false from rfl, cond_false] at hv
     obtain ⟨rfl, rfl⟩ := hv
     exact ⟨rfl, rfl, by simp, [.one (.int .i64 (.sym n.val)), .one (.int .i64 (.lit 2))], rfl, rfl, _, eval_of_evalR (eval46b W n.val) (c2_true _), fun _ => rfl⟩
   · rw [decide_eq_false h4, decide_eq_false h2] at hv
     simp at hv
def sel : List ByteArray → Int → Int → ByteArray
 | [], _, _ => emp
 | [a], _, _ => a
 | a :: b :: r, x, i => bif decide (x = i) then a else sel (b :: r) x (i + 1)
def selc : List ByteArray → Int → Int → Bool
 | [], _, _ => false
 | [_], x, i => decide (x = i)
 | _ :: b :: r, x, i => bif decide (x = i) then true else selc (b :: r) x (i + 1)
def sts : List ByteArray := [⟨#[116, 49]⟩, ⟨#[116, 50]⟩, ⟨#[116, 51]⟩, ⟨#[116, 52]⟩, ⟨#[116, 53]⟩, ⟨#[116, 54]⟩, ⟨#[116, 119]⟩, ⟨#[116, 104]⟩, ⟨#[116, 104, 97, 108, 116]⟩, ⟨#[116, 114, 101, 115, 101, 116]⟩]
def outS (n : Int) : Bool := bif decide (n < 1) then true else decide (n > 10)
def stN (n : Int) : ByteArray := bif outS n then ⟨#[63]⟩ else sel sts (gsub .i64 n 1) 0
def stC (n : Int) : Bool := bif outS n then true else selc sts (gsub .i64 n 1) 0
theorem eval45 (W : World) (n : Int) : evalR Tryz.prog W [] 45 [.one (.int .i64 (.sym n))] = some (.sym (stC n), .one (.str (stN n))) := by kernel_rfl
theorem eval42 (W : World) (n : Int) : evalR Tryz.prog W [] 42 [.one (.int .i64 (.sym n))] = some (.sym (stC n), .one (.str (stN n))) := by kernel_rfl
theorem selc_true : ∀ {l : List ByteArray} {x i : Int}, i ≤ x → x < i + l.length → selc l x i = true
 | [], x, i, h1, h2 => by simp at h2; omega
 | [a], x, i, h1, h2 => by
  simp at h2
  exact decide_eq_true (by omega)
 | a :: b :: r, x, i, h1, h2 => by
  unfold selc
  by_cases h : x = i
  · rw [decide_eq_true h]; rfl
  · rw [decide_eq_false h, cond_false]
    refine selc_true (by omega) ?_
    simp only [List.length_cons] at h2 ⊢
    omega
theorem sel_size {n : Nat} : ∀ {l : List ByteArray} {x i : Int}, (∀ a ∈ l, a.size ≤ n) → (sel l x i).size ≤ n
 | [], _, _, _ => by unfold sel; rw [emp_size]; omega
 | [a], _, _, h => h a (by simp)
 | a :: b :: r, x, i, h => by
  unfold sel
  cases decide (x = i)
  · exact sel_size (l := b :: r) fun c hc => h c (List.mem_cons_of_mem _ hc)
  · exact h a (by simp)
theorem sts_size : ∀ a ∈ sts, a.size ≤ 6 := by decide
theorem stN_size (n : Int) : (stN n).size ≤ 6 := by
 unfold stN
 cases outS n
 · exact sel_size sts_size
 · show (ByteArray.mk #[63]).size ≤ 6
   decide
theorem stC_true (n : Int) : stC n = true := by
 unfold stC
 cases h : outS n
 · rw [cond_false]
   unfold outS at h
   have h1 : ¬ n < 1 := fun hh => by rw [decide_eq_true hh] at h; cases h
   rw [decide_eq_false h1, cond_false] at h
   have h2 := of_decide_eq_false h
   have e : gsub .i64 n 1 = n - 1 := by
    unfold gsub
    rw [IntKind.wrap_i64]
    omega
   rw [e]
   refine selc_true (by omega) ?_
   show n - 1 < 0 + (10 : Nat)
   omega
 · rfl
def FSt : List TV → Option (SB × TV)
 | [.one (.int .i64 n)] => some (.lit true, .one (.str (stN n.val)))
 | _ => none
theorem st45_ok (W : World) : SpecOk W Tryz.prog 45 (specV FSt) := by
 refine specV_ok' (G := []) (gok_nil W) ⟨Tryz.f45, Tryz.func45, by kernel_rfl, by kernel_rfl⟩ fun args c v hv hc => ?_
 unfold FSt at hv
 split at hv <;> try contradiction
 rename_i n
 simp only [Option.some.injEq, Prod.mk.injEq] at hv
 obtain ⟨rfl, rfl⟩ := hv
 exact ⟨rfl, rfl, by simp, [.one (.int .i64 (.sym n.val))], rfl, rfl, _, eval_of_evalR (eval45 W n.val) (stC_true _), fun _ => rfl⟩
theorem st42_ok (W : World) : SpecOk W Tryz.prog 42 (specV FSt) := by
 refine specV_ok' (G := []) (gok_nil W) ⟨Tryz.f42, Tryz.func42, by kernel_rfl, by kernel_rfl⟩ fun args c v hv hc => ?_
 unfold FSt at hv
 split at hv <;> try contradiction
 rename_i n
 simp only [Option.some.injEq, Prod.mk.injEq] at hv
 obtain ⟨rfl, rfl⟩ := hv
 exact ⟨rfl, rfl, by simp, [.one (.int .i64 (.sym n.val))], rfl, rfl, _, eval_of_evalR (eval42 W n.val) (stC_true _), fun _ => rfl⟩
def G20 : List (Nat × Sx.Spec) := [(45, specV FSt), (46, specV FHx)]
theorem gok20 (W : World) : GOk W Tryz.prog G20 := gok_cons (st45_ok W) (gok_cons (hex_ok W) (gok_nil W))
def spB : ByteArray := ⟨#[32]⟩
def recH (st a d : Int) : ByteArray := catB (catB (catB (catB (stN st) spB) (hex4 (IntKind.i64.wrap a))) spB) (hex2 (IntKind.i64.wrap d))
def nms : List ByteArray := [⟨#[115, 121, 110, 99]⟩, ⟨#[100, 98, 105, 110]⟩, ⟨#[119, 97, 105, 116]⟩, ⟨#[105, 110, 116, 101]⟩, ⟨#[97, 108, 101]⟩, ⟨#[105, 111, 109]⟩, ⟨#[115, 49]⟩, ⟨#[115, 48]⟩, ⟨#[114, 100]⟩, ⟨#[105, 110, 116, 97]⟩, ⟨#[115, 111, 100]⟩, ⟨#[119, 114]⟩, ⟨#[104, 108, 100, 97]⟩, ⟨#[102, 108, 111, 97, 116]⟩]
def nmi (i : Nat) : ByteArray := (nms[i]?).getD emp
def stp (b : FBw) (i : Nat) (s : ByteArray) : ByteArray := bif b i then catB s (catB spB (nmi i)) else s
def rec14 (b : FBw) : Nat → ByteArray → ByteArray
 | 0, s => s
 | i + 1, s => stp b i (rec14 b i s)
def recB (st a d : Int) (b : FBw) : ByteArray := rec14 b 14 (recH st a d)
def chd (st a d : Int) : Bool := okz (stN st) spB && (okz (catB (stN st) spB) (hex4 (IntKind.i64.wrap a)) && (okz (catB (catB (stN st) spB) (hex4 (IntKind.i64.wrap a))) spB && okz (catB (catB (catB (stN st) spB) (hex4 (IntKind.i64.wrap a))) spB) (hex2 (IntKind.i64.wrap d))))
def cst (b : FBw) (i : Nat) (s : ByteArray) : Bool := bif b i then (okz spB (nmi i) && okz s (catB spB (nmi i))) else true
def crs (b : FBw) (s : Nat → ByteArray) : Nat → Nat → Bool
 | _, 0 => true
 | i, 1 => cst b i (s i)
 | i, n + 2 => cst b i (s i) && crs b s (i + 1) (n + 1)
def c20 (st a d : Int) (b : FBw) : Bool := chd st a d && crs b (fun i => rec14 b i (recH st a d)) 0 14
theorem eval20 (W : World) (st a d : Int) (b : FBw) : evalR Tryz.prog W G20 20 [.agg (pinsA st a d b)] = some (.sym (c20 st a d b), .one (.str (recB st a d b))) := by kernel_rfl
theorem spB_size : spB.size = 1 := rfl
theorem recH_size (st a d : Int) : (recH st a d).size = (stN st).size + 8 := by
 unfold recH
 rw [catB_size, catB_size, catB_size, catB_size, hex4_size, hex2_size, spB_size]
theorem nmi_size (i : Nat) : (nmi i).size ≤ 5 := by
 unfold nmi
 cases h : nms[i]? with
 | none => show emp.size ≤ 5; decide
 | some s =>
  have : ∀ a ∈ nms, a.size ≤ 5 := by decide
  exact this s (List.mem_of_getElem? h)
theorem rec14_size (b : FBw) (s : ByteArray) : ∀ i, (rec14 b i s).size ≤ s.size + 6 * i
 | 0 => by unfold rec14; omega
 | i + 1 => by
  have ih := rec14_size b s i
  unfold rec14 stp
  cases b i
  · rw [cond_false]; omega
  · have := nmi_size i
    rw [cond_true, catB_size, catB_size, spB_size]
    omega
theorem recB_size (st a d : Int) (b : FBw) : (recB st a d b).size ≤ 100 := by
 have h1 := rec14_size b (recH st a d) 14
 have h2 := recH_size st a d
 have h3 := stN_size st
 unfold recB
 omega
theorem chd_true (st a d : Int) : chd st a d = true := by
 have h := stN_size st
 unfold chd
 rw [okz_true h (Nat.le_of_eq spB_size), okz_true (n := 7) (by rw [catB_size, spB_size]; omega) (Nat.le_of_eq (hex4_size _)), okz_true (n := 11) (by rw [catB_size, catB_size, hex4_size, spB_size]; omega) (Nat.le_of_eq spB_size),
  okz_true (n := 12) (by rw [catB_size, catB_size, catB_size, hex4_size, spB_size]; omega) (Nat.le_of_eq (hex2_size _))]
 rfl
theorem cst_true (b : FBw) (i : Nat) {s : ByteArray} (h : s.size ≤ 1000) : cst b i s = true := by
 unfold cst
 cases b i
 · rfl
 · have := nmi_size i
   rw [cond_true, okz_true (Nat.le_of_eq spB_size) this, okz_true (m := 6) h (by rw [catB_size, spB_size]; omega)]
   rfl
theorem crs_true (b : FBw) {s : Nat → ByteArray} : ∀ (n i : Nat), (∀ j, j < i + n → (s j).size ≤ 1000) → crs b s i n = true
 | 0, _, _ => rfl
 | 1, i, h => cst_true b i (h i (by omega))
 | n + 2, i, h => by
  unfold crs
  rw [cst_true b i (h i (by omega)), crs_true b (n + 1) (i + 1) (fun j hj => h j (by omega))]
  rfl
theorem c20_true (st a d : Int) (b : FBw) : c20 st a d b = true := by
 unfold c20
 rw [chd_true, crs_true b 14 0 fun j hj => ?_]
 · rfl
 · have h1 := rec14_size b (recH st a d) j
   have h2 := recH_size st a d
   have h3 := stN_size st
   omega
def boolsOf : List SV → Option (List Bool)
 | [] => some []
 | .bool b :: r => match boolsOf r with
  | some l => some (b.val :: l)
  | none => none
 | _ => none
structure PinV where
 st : Int
 a : Int
 d : Int
 b : List Bool
def fbL (l : List Bool) : FBw := fun i => (l[i]?).getD false
def pinsOf (l : List SV) : Option PinV := match l with
 | .int .i64 st :: .int .u16 a :: .int .u8 d :: r => match boolsOf r with
  | some bs => match Nat.beq bs.length 14 with
   | true => some ⟨st.val, a.val, d.val, bs⟩
   | false => none
  | none => none
 | _ => none
def PinV.cells (p : PinV) : List SV := pinsA p.st p.a p.d (fbL p.b)
def PinV.txt (p : PinV) : ByteArray := recB p.st p.a p.d (fbL p.b)
theorem boolsOf_ok : ∀ {l : List SV} {bs : List Bool}, boolsOf l = some bs → ∀ f, l.map (SV.den f) = bs.map Value.bool
 | [], bs, h, f => by simp only [boolsOf, Option.some.injEq] at h; subst h; rfl
 | .bool b :: r, bs, h, f => by
  simp only [boolsOf] at h
  split at h <;> try contradiction
  rename_i l hl
  simp only [Option.some.injEq] at h
  subst h
  simp only [List.map_cons, boolsOf_ok hl f, SV.den]
 | .int _ _ :: _, _, h, _ => by cases h
 | .ptr _ _ :: _, _, h, _ => by cases h
 | .clo _ _ :: _, _, h, _ => by cases h
 | .str _ :: _, _, h, _ => by cases h
 | .sl _ _ _ :: _, _, h, _ => by cases h
 | .row _ _ _ _ :: _, _, h, _ => by cases h
 | .pa _ :: _, _, h, _ => by cases h
 | .nilP :: _, _, h, _ => by cases h
 | .nilF :: _, _, h, _ => by cases h
 | .nilI :: _, _, h, _ => by cases h
 | .nilM :: _, _, h, _ => by cases h
theorem len14 {α : Type} : ∀ {l : List α}, l.length = 14 → ∃ a0 a1 a2 a3 a4 a5 a6 a7 a8 a9 a10 a11 a12 a13, l = [a0, a1, a2, a3, a4, a5, a6, a7, a8, a9, a10, a11, a12, a13]
 | [a0, a1, a2, a3, a4, a5, a6, a7, a8, a9, a10, a11, a12, a13], _ => ⟨a0, a1, a2, a3, a4, a5, a6, a7, a8, a9, a10, a11, a12, a13, rfl⟩
theorem pinsOf_ok {l : List SV} {p : PinV} (h : pinsOf l = some p) : (∀ f, l.map (SV.den f) = p.cells.map (SV.den f)) ∧ p.b.length = 14 := by
 unfold pinsOf at h
 split at h <;> try contradiction
 rename_i st a d r
 split at h <;> try contradiction
 rename_i bs hbs
 split at h <;> try contradiction
 rename_i hl
 rw [Nat.beq_eq] at hl
 simp only [Option.some.injEq] at h
 subst h
 refine ⟨fun f => ?_, hl⟩
 have hb := boolsOf_ok hbs f
 obtain ⟨a0, a1, a2, a3, a4, a5, a6, a7, a8, a9, a10, a11, a12, a13, rfl⟩ := len14 hl
 simp only [List.map_cons, hb]
 rfl
def F20 : List TV → Option (SB × TV)
 | [.agg l] => match pinsOf l with
  | some p => some (.lit true, .one (.str p.txt))
  | none => none
 | _ => none
theorem dens_eq {l l' : List SV} {f : Nat → Nat} (h : l.map (SV.den f) = l'.map (SV.den f)) : TV.den f (.agg l) = TV.den f (.agg l') := by
 simp only [TV.den, dens, h]
theorem lt0_bools : ∀ {l : List SV} {bs : List Bool}, boolsOf l = some bs → allB (SV.lt 0) l = true
 | [], _, _ => rfl
 | .bool b :: r, bs, h => by
  simp only [boolsOf] at h
  split at h <;> try contradiction
  rename_i l hl
  simp only [allB, SV.lt, lt0_bools hl]
 | .int _ _ :: _, _, h => by cases h
 | .ptr _ _ :: _, _, h => by cases h
 | .clo _ _ :: _, _, h => by cases h
 | .str _ :: _, _, h => by cases h
 | .sl _ _ _ :: _, _, h => by cases h
 | .row _ _ _ _ :: _, _, h => by cases h
 | .pa _ :: _, _, h => by cases h
 | .nilP :: _, _, h => by cases h
 | .nilF :: _, _, h => by cases h
 | .nilI :: _, _, h => by cases h
 | .nilM :: _, _, h => by cases h
theorem lt0_pins {l : List SV} {p : PinV} (h : pinsOf l = some p) : allB (SV.lt 0) l = true := by
 unfold pinsOf at h
 split at h <;> try contradiction
 split at h <;> try contradiction
 rename_i hbs
 simp only [allB, SV.lt, lt0_bools hbs]
theorem rec_ok (W : World) : SpecOk W Tryz.prog 20 (specV F20) := by
 refine specV_ok' (G := G20) (gok20 W) ⟨Tryz.f20, Tryz.func20, by kernel_rfl, by kernel_rfl⟩ fun args c v hv hc => ?_
 unfold F20 at hv
 split at hv <;> try contradiction
 rename_i l
 split at hv <;> try contradiction
 rename_i p hp
 simp only [Option.some.injEq, Prod.mk.injEq] at hv
 obtain ⟨rfl, rfl⟩ := hv
 have he : eval Tryz.prog W G20 20 [.agg p.cells] = some (.one (.str p.txt)) := eval_sym (eval20 W p.st p.a p.d (fbL p.b)) (c20_true p.st p.a p.d (fbL p.b))
 refine ⟨?_, rfl, by simp, [.agg p.cells], rfl, ?_, _, he, fun _ => rfl⟩
 · simp only [allB, TV.lt, lt0_pins hp]
 · show [TV.den _ (.agg p.cells)] = [TV.den _ (.agg l)]
   rw [dens_eq ((pinsOf_ok hp).1 _)]
end Go.Proofs.YtjmnolhkkpaodaaGreatDoor
