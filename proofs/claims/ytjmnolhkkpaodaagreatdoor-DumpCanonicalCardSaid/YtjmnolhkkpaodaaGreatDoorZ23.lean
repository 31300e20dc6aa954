/- A part of the proof: the reference is safe, both packages write and read alike. Several texts in one; printed by slim28.py out of the texts of wip. -/
import Derived.WalkKit
import Derived.ProofKit
import Derived.OpenShut
import Derived.Carry
import Derived.Deep.Slices
import Derived.Deep.Fields
import Derived.ChangeSame
import Derived.Test.YtjmnolhkkpaodaaGreatDoorZ22
import Derived.Laws.AppendOwn
import Derived.OwnWalk
import Derived.Maps.AppendAt
set_option linter.all false
namespace Go.Sx
open Go Go.RowKit Go.ChangeShapes Go.WideShapes Go.ChangeAt Go.Deep
inductive CSh where
 | int (k : IntKind)
 | bool
 | ilit (k : IntKind)
 | blit
inductive ASh where
 | one (c : CSh)
 | agg (l : List CSh)
 | ints (k : IntKind)
 | rows (l : List CSh)
structure Env where
 n : Nat → Int
 b : Nat → Bool
 a : Nat → Option Addr
 len : Nat → Nat
 cap : Nat → Nat
structure RowOk (W : World) (k : IntKind) (a : Option Addr) (len cap : Nat) : Prop where
 le : len ≤ cap
 max : cap ≤ maxLen
 nil : a = none → len = 0
 at_ : ∀ j, j < len → isInt W k ((a.getD default).add j) = true ∧ k.min ≤ rdInt W ((a.getD default).add j) ∧ rdInt W ((a.getD default).add j) ≤ k.max
def CSh.at_ (W : World) (q : Addr) : CSh → Prop
 | .int k | .ilit k => isInt W k q = true ∧ k.min ≤ rdInt W q ∧ rdInt W q ≤ k.max
 | .bool | .blit => isBool W q = true
structure RowsOk (W : World) (l : List CSh) (a : Option Addr) (len cap : Nat) : Prop where
 le : len ≤ cap
 max : cap ≤ maxLen
 nil : a = none → len = 0
 at_ : ∀ (j : Nat), j < len → ∀ (i : Nat) (c : CSh), l[i]? = some c → c.at_ W ((a.getD default).add (j * l.length + i))
def CSh.sv (e : Env) (i : Nat) : CSh → SV
 | .int k => .int k (.sym (e.n i))
 | .bool => .bool (.sym (e.b i))
 | .ilit k => .int k (.lit (e.n i))
 | .blit => .bool (.lit (e.b i))
def cellsSV (e : Env) : Nat → List CSh → List SV
 | _, [] => []
 | i, c :: r => c.sv e i :: cellsSV e (i + 1) r
def argsTV (e : Env) : Nat → List ASh → List TV
 | _, [] => []
 | i, .one c :: r => .one (c.sv e i) :: argsTV e (i + 1) r
 | i, .agg l :: r => .agg (cellsSV e i l) :: argsTV e (i + l.length) r
 | i, .ints _ :: r => .one (.sl (e.a i) (e.len i) (e.cap i)) :: argsTV e (i + 1) r
 | i, .rows _ :: r => .one (.sl (e.a i) (e.len i) (e.cap i)) :: argsTV e (i + 1) r
def CSh.ok (e : Env) (i : Nat) : CSh → Prop
 | .int k | .ilit k => k.min ≤ e.n i ∧ e.n i ≤ k.max
 | .bool | .blit => True
def cellsOk (e : Env) : Nat → List CSh → Prop
 | _, [] => True
 | i, c :: r => c.ok e i ∧ cellsOk e (i + 1) r
def argsOk (W : World) (e : Env) : Nat → List ASh → Prop
 | _, [] => True
 | i, .one c :: r => c.ok e i ∧ argsOk W e (i + 1) r
 | i, .agg l :: r => cellsOk e i l ∧ argsOk W e (i + l.length) r
 | i, .ints k :: r => RowOk W k (e.a i) (e.len i) (e.cap i) ∧ argsOk W e (i + 1) r
 | i, .rows l :: r => RowsOk W l (e.a i) (e.len i) (e.cap i) ∧ argsOk W e (i + 1) r
def CSh.fits (P : Program) (t : TypeId) : CSh → Bool
 | .int k | .ilit k => match P.underlying t with
  | some (.int k') => decide (k' = k)
  | _ => false
 | .bool | .blit => match P.underlying t with
  | some .bool => true
  | _ => false
def cellsFit (P : Program) : List TypeId → List CSh → Bool
 | [], [] => true
 | t :: ts, c :: cs => c.fits P t && cellsFit P ts cs
 | _, _ => false
def ASh.fits (P : Program) (t : TypeId) : ASh → Bool
 | .one c => c.fits P t
 | .agg l => (match P.underlying t with
  | some (.struct _) | some (.array _ _) => true
  | _ => false) && decide (P.cellsOf t = l.length) && (match P.cellTypes P.depth t with
  | some ts => cellsFit P ts l
  | none => false)
 | .ints k => match P.underlying t with
  | some (.slice e) => (match P.underlying e with
   | some (.int k') => decide (k' = k) && decide (P.cellsOf e = 1)
   | _ => false)
  | _ => false
 | .rows l => match P.underlying t with
  | some (.slice e) => (match P.underlying e with
   | some (.struct fs) => oneCellFields P fs && decide (P.cellsOf e = fs.size) && cellsFit P (fs.toList.map (·.type)) l
   | _ => false)
  | _ => false
def argsFit (P : Program) : List TypeId → List ASh → Bool
 | [], [] => true
 | t :: ts, c :: cs => c.fits P t && argsFit P ts cs
 | _, _ => false
section
variable {H : Type} {enc : TypeId × Value → H} {P : Program} {w : World} {base : Nat} {spare : Nat → Bool} {held : Bool}
theorem open_slice_fields {t e : TypeId} {fs : Array Field} {fuel : Nat} {cs : List Value} {x : DataW H × List MemPlace} (ht : P.underlying t = some (.slice e)) (he : P.underlying e = some (.struct fs))
  (hone : oneCellFields P fs = true) (hC : P.cellsOf e = fs.size) (h : DataW.trod enc P w base spare held fuel t cs = some x) :
  cs = [.slice none 0 0] ∨ ∃ (a : Addr) (len cap m : Nat), cs = [.slice (some a) len cap] ∧ len ≤ cap ∧ cap ≤ maxLen ∧ m = (if spare a.block then cap else len) ∧
   ∀ i, i < m → ∃ n : Nat, ∀ (j : Nat) (f : Field), fs[j]? = some f → ∃ (v : Value) (y : DataW H × List MemPlace), w.cell? (a.add (i * fs.size + j)) = some v ∧ DataW.trod enc P w base spare held n f.type [v] = some y := by
 rcases open_slice ht h with h0 | ⟨a, len, cap, m, n, D, Pl, hcs, hb, hl, hm, hmm, hx, hi⟩
 · exact .inl h0.1
 · refine .inr ⟨a, len, cap, m, hcs, hl, hm, hmm, fun i him => ?_⟩
   obtain ⟨cs', hc, ht'⟩ := hi i him
   rw [hC] at hc
   obtain ⟨ys, n', hn', hy, hlen, hyl, hf⟩ := DataW.trod_struct he ht'
   obtain ⟨_, hcl, hat⟩ := World.cells?_some hc
   refine ⟨n', fun j f hj => ?_⟩
   obtain ⟨ho, hk⟩ := hone_of hone j f hj
   have hjl : j < fs.size := (Array.getElem?_eq_some_iff.1 hj).1
   have hcell := hat j hjl
   have hv : cs'[j]? = some (cs'[j]'(by omega)) := List.getElem?_eq_getElem (by omega)
   have h1 := hf j f hj
   rw [ho, hk] at h1
   have hone' : (cs'.drop j).take 1 = [cs'[j]'(by omega)] := by
    rw [List.drop_eq_getElem_cons (by omega)]
    rfl
   rw [hone'] at h1
   have hys : ys[j]? = some (ys[j]'(by omega)) := List.getElem?_eq_getElem (by omega)
   refine ⟨_, _, ?_, h1.trans hys⟩
   rw [← Go.Deep.add_add, hcell, hv]
theorem cellsFit_get : ∀ (ts : List TypeId) (cs : List CSh), cellsFit P ts cs = true → ∀ (i : Nat) (c : CSh), cs[i]? = some c → ∃ t, ts[i]? = some t ∧ c.fits P t = true
 | [], [], _, i, c, h => by simp at h
 | [], _ :: _, h, _, _, _ => by simp [cellsFit] at h
 | _ :: _, [], h, _, _, _ => by simp [cellsFit] at h
 | t :: ts, c :: cs, h, i, d, hd => by
  simp only [cellsFit, Bool.and_eq_true] at h
  cases i with
  | zero =>
   simp only [List.getElem?_cons_zero, Option.some.injEq] at hd
   subst hd
   exact ⟨t, rfl, h.1⟩
  | succ i => exact cellsFit_get ts cs h.2 i d (by simpa using hd)
theorem cell_at {t : TypeId} {c : CSh} {v : Value} {n : Nat} {y : DataW H × List MemPlace} {q : Addr} (hf : c.fits P t = true) (hq : w.cell? q = some v) (h : DataW.trod enc P w base spare held n t [v] = some y) : c.at_ w q := by
 have hi : ∀ k, (match P.underlying t with
   | some (.int k') => decide (k' = k)
   | _ => false) = true → isInt w k q = true ∧ k.min ≤ rdInt w q ∧ rdInt w q ≤ k.max := by
  intro k hf
  split at hf
  · rename_i k' he
    simp only [decide_eq_true_eq] at hf
    subst hf
    obtain ⟨z, hz, _, hw⟩ := DataW.trod_int he h
    simp only [List.cons.injEq, and_true] at hz
    subst hz
    simp only [isInt, rdInt, hq, decide_true, true_and]
    simpa [Lit.wf, IntKind.has] using hw
  · exact absurd hf (by decide)
 have hb : (match P.underlying t with
   | some .bool => true
   | _ => false) = true → isBool w q = true := by
  intro hf
  split at hf
  · rename_i he
    obtain ⟨z, hz, _⟩ := DataW.trod_bool he h
    simp only [List.cons.injEq, and_true] at hz
    subst hz
    simp only [isBool, hq]
  · exact absurd hf (by decide)
 cases c with
 | int k => exact hi k hf
 | ilit k => exact hi k hf
 | bool => exact hb hf
 | blit => exact hb hf
end
def flat1 : Value → List Value
 | .agg cs => cs.toList
 | v => [v]
def intAt (l : List Value) (i : Nat) : Int := match l[i]? with
 | some (.int _ n) => n
 | _ => 0
def boolAt (l : List Value) (i : Nat) : Bool := match l[i]? with
 | some (.bool b) => b
 | _ => false
def addrAt (l : List Value) (i : Nat) : Option Addr := match l[i]? with
 | some (.slice a _ _) => a
 | _ => none
def lenAt (l : List Value) (i : Nat) : Nat := match l[i]? with
 | some (.slice _ n _) => n
 | _ => 0
def capAt (l : List Value) (i : Nat) : Nat := match l[i]? with
 | some (.slice _ _ c) => c
 | _ => 0
def envOf (l : List Value) : Env := ⟨intAt l, boolAt l, addrAt l, lenAt l, capAt l⟩
section
variable {P : Program} {w : World} {r : Reach} {base : Nat}
theorem cell_one {t : TypeId} {c : CSh} {v : Value} (hf : c.fits P t = true) (h : Cell.okWide P w r base t v) :
  (∃ k n, (c = .int k ∨ c = .ilit k) ∧ v = .int k n ∧ k.min ≤ n ∧ n ≤ k.max) ∨ ∃ b, (c = .bool ∨ c = .blit) ∧ v = .bool b := by
 have hint : ∀ k, (c = .int k ∨ c = .ilit k) → (match P.underlying t with
  | some (.int k') => decide (k' = k)
  | _ => false) = true → ∃ k n, (c = .int k ∨ c = .ilit k) ∧ v = .int k n ∧ k.min ≤ n ∧ n ≤ k.max := by
  intro k hc hf
  split at hf
  · next k' he =>
    simp only [decide_eq_true_eq] at hf
    subst hf
    have h' : Cell.ok P w r base t v := by
     unfold Cell.okWide at h
     rw [he] at h
     exact h
    unfold Cell.ok at h'
    rw [he] at h'
    cases v <;> try exact h'.elim
    next k2 n =>
     obtain ⟨rfl, h1, h2⟩ := h'
     exact ⟨_, _, hc, rfl, h1, h2⟩
  · exact absurd hf (by decide)
 have hbool : (c = .bool ∨ c = .blit) → (match P.underlying t with
  | some .bool => true
  | _ => false) = true → ∃ b, (c = .bool ∨ c = .blit) ∧ v = .bool b := by
  intro hc hf
  split at hf
  · next he =>
    have h' : Cell.ok P w r base t v := by
     unfold Cell.okWide at h
     rw [he] at h
     exact h
    unfold Cell.ok at h'
    rw [he] at h'
    cases v <;> try exact h'.elim
    exact ⟨_, hc, rfl⟩
  · exact absurd hf (by decide)
 cases c with
 | int k => exact .inl (hint k (.inl rfl) hf)
 | ilit k => exact .inl (hint k (.inr rfl) hf)
 | bool => exact .inr (hbool (.inl rfl) hf)
 | blit => exact .inr (hbool (.inr rfl) hf)
theorem cell_open {t : TypeId} {c : CSh} {v : Value} (pre post : List Value) (hf : c.fits P t = true) (h : Cell.okWide P w r base t v) :
  v = (c.sv (envOf (pre ++ v :: post)) pre.length).den (fun _ => 0) ∧ c.ok (envOf (pre ++ v :: post)) pre.length := by
 have hg : (pre ++ v :: post)[pre.length]? = some v := by simp
 rcases cell_one hf h with ⟨k, n, rfl | rfl, rfl, h1, h2⟩ | ⟨b, rfl | rfl, rfl⟩
 · have e : intAt (pre ++ Value.int k n :: post) pre.length = n := by simp only [intAt, hg]
   exact ⟨by simp only [CSh.sv, SV.den, SI.val, envOf, e], by simp only [CSh.ok, envOf, e]; exact ⟨h1, h2⟩⟩
 · have e : intAt (pre ++ Value.int k n :: post) pre.length = n := by simp only [intAt, hg]
   exact ⟨by simp only [CSh.sv, SV.den, SI.val, envOf, e], by simp only [CSh.ok, envOf, e]; exact ⟨h1, h2⟩⟩
 · have e : boolAt (pre ++ Value.bool b :: post) pre.length = b := by simp only [boolAt, hg]
   exact ⟨by simp only [CSh.sv, SV.den, SB.val, envOf, e], trivial⟩
 · have e : boolAt (pre ++ Value.bool b :: post) pre.length = b := by simp only [boolAt, hg]
   exact ⟨by simp only [CSh.sv, SV.den, SB.val, envOf, e], trivial⟩
theorem cells_open : ∀ (ts : List TypeId) (cs : List CSh) (vs pre post : List Value), cellsFit P ts cs = true → vs.length = ts.length →
  (∀ (i : Nat) v, vs[i]? = some v → ∃ u, ts[i]? = some u ∧ Cell.okWide P w r base u v) →
  vs = (cellsSV (envOf (pre ++ vs ++ post)) pre.length cs).map (SV.den fun _ => 0) ∧ cellsOk (envOf (pre ++ vs ++ post)) pre.length cs
 | [], cs, vs, pre, post, hf, hl, _ => by
  cases cs with
  | cons c cs => simp [cellsFit] at hf
  | nil =>
   cases vs with
   | nil => exact ⟨rfl, trivial⟩
   | cons v vs => simp at hl
 | t :: ts, cs, vs, pre, post, hf, hl, h => by
  cases cs with
  | nil => simp [cellsFit] at hf
  | cons c cs =>
   cases vs with
   | nil => simp at hl
   | cons v vs =>
    simp only [cellsFit, Bool.and_eq_true] at hf
    obtain ⟨u, hu, hv⟩ := h 0 v rfl
    simp only [List.getElem?_cons_zero, Option.some.injEq] at hu
    subst hu
    have h1 := cell_open (P := P) pre (vs ++ post) hf.1 hv
    have e1 : pre ++ v :: (vs ++ post) = pre ++ v :: vs ++ post := by simp
    have e2 : pre ++ [v] ++ vs ++ post = pre ++ v :: vs ++ post := by simp
    have h2 := cells_open ts cs vs (pre ++ [v]) post hf.2 (by simpa using hl) (fun i v' hi => by
     obtain ⟨u, hu, hv'⟩ := h (i + 1) v' (by simpa using hi)
     exact ⟨u, by simpa using hu, hv'⟩)
    rw [e1] at h1
    rw [e2, List.length_append] at h2
    simp only [cellsSV, List.map_cons, cellsOk]
    exact ⟨congr (congrArg _ h1.1) h2.1, h1.2, h2.2⟩
theorem cellsFit_length : ∀ (ts : List TypeId) (cs : List CSh), cellsFit P ts cs = true → ts.length = cs.length
 | [], [], _ => rfl
 | [], _ :: _, h => by simp [cellsFit] at h
 | _ :: _, [], h => by simp [cellsFit] at h
 | _ :: ts, _ :: cs, h => by
  simp only [cellsFit, Bool.and_eq_true] at h
  simp [cellsFit_length ts cs h.2]
theorem args_open {H : Type} {enc : TypeId × Value → H} : ∀ (ts : List TypeId) (ss : List ASh) (vs : List Value) (pre : List Value), argsFit P ts ss = true → vs.length = ts.length →
  (∀ (j : Nat) t v, ts[j]? = some t → vs[j]? = some v → Value.okWide P w r base t v) → (∀ (j : Nat) t v, ts[j]? = some t → vs[j]? = some v → ∃ d ps, DataW.Trod enc P w 0 (fun _ => true) true t v d ps) →
  vs = (argsTV (envOf (pre ++ vs.flatMap flat1)) pre.length ss).map (TV.den fun _ => 0) ∧ argsOk w (envOf (pre ++ vs.flatMap flat1)) pre.length ss
 | [], ss, vs, pre, hf, hl, _, _ => by
  cases ss with
  | cons c cs => simp [argsFit] at hf
  | nil =>
   cases vs with
   | nil => exact ⟨rfl, trivial⟩
   | cons v vs => simp at hl
 | t :: ts, ss, vs, pre, hf, hl, h, hd => by
  cases ss with
  | nil => simp [argsFit] at hf
  | cons s ss =>
   cases vs with
   | nil => simp at hl
   | cons v vs =>
    simp only [argsFit, Bool.and_eq_true] at hf
    have hv := h 0 t v rfl rfl
    have hrec := fun pre' => args_open ts ss vs pre' hf.2 (by simpa using hl) (fun j t' v' hj hv' => h (j + 1) t' v' (by simpa using hj) (by simpa using hv')) (fun j t' v' hj hv' => hd (j + 1) t' v' (by simpa using hj) (by simpa using hv'))
    cases s with
    | ints k =>
     have hf1 := hf.1
     simp only [ASh.fits] at hf1
     split at hf1 <;> try contradiction
     rename_i e ht
     split at hf1 <;> try contradiction
     rename_i k' he
     simp only [Bool.and_eq_true, decide_eq_true_eq] at hf1
     obtain ⟨rfl, hc⟩ := hf1
     obtain ⟨d, ps, fuel, htr⟩ := hd 0 t v rfl rfl
     have key : ∃ (a : Option Addr) (len cap : Nat), v = .slice a len cap ∧ RowOk w k' a len cap := by
      have hcells : v.cells.toList = [v] := by
       unfold Value.okWide Cell.okWide Cell.ok at hv
       rw [ht] at hv
       cases v <;> first | rfl | exact hv.elim
      rw [hcells] at htr
      rcases open_ints ht he hc htr with ⟨h1, _⟩ | ⟨a, len, cap, zs, h1, _, h2, h3, h4, _, h5, h6⟩
      · simp only [List.cons.injEq, and_true] at h1
        exact ⟨none, 0, 0, h1, ⟨Nat.le_refl _, Nat.zero_le _, fun _ => rfl, fun j hj => absurd hj (Nat.not_lt_zero _)⟩⟩
      · simp only [List.cons.injEq, and_true] at h1
        refine ⟨some a, len, cap, h1, ⟨h2, h3, fun h => (by cases h), fun j hj => ?_⟩⟩
        simp only [if_true] at h4
        have h7 := h5 j (by omega)
        have h8 := h6 (zs.getD j 0) (by simp [List.getD, List.getElem?_eq_getElem (show j < zs.length by omega)])
        have h9 : k'.min ≤ zs.getD j 0 ∧ zs.getD j 0 ≤ k'.max := by
         simpa [Lit.wf, IntKind.has] using h8
        simp only [Option.getD_some, isInt, rdInt, h7, decide_true, true_and]
        exact h9
     obtain ⟨a, len, cap, rfl, hrow⟩ := key
     have h2 := hrec (pre ++ [Value.slice a len cap])
     have e0 : pre ++ (Value.slice a len cap :: vs).flatMap flat1 = pre ++ Value.slice a len cap :: vs.flatMap flat1 := by simp [flat1]
     have e1 : pre ++ [Value.slice a len cap] ++ vs.flatMap flat1 = pre ++ Value.slice a len cap :: vs.flatMap flat1 := by simp
     have hg : (pre ++ Value.slice a len cap :: vs.flatMap flat1)[pre.length]? = some (Value.slice a len cap) := by simp
     rw [e0]
     rw [e1, List.length_append] at h2
     simp only [argsTV, List.map_cons, argsOk, TV.den]
     have ea : (envOf (pre ++ Value.slice a len cap :: vs.flatMap flat1)).a pre.length = a := by simp only [envOf, addrAt, hg]
     have el : (envOf (pre ++ Value.slice a len cap :: vs.flatMap flat1)).len pre.length = len := by simp only [envOf, lenAt, hg]
     have ec : (envOf (pre ++ Value.slice a len cap :: vs.flatMap flat1)).cap pre.length = cap := by simp only [envOf, capAt, hg]
     rw [ea, el, ec]
     exact ⟨congr (congrArg _ rfl) h2.1, hrow, h2.2⟩
    | rows l =>
     have hf1 := hf.1
     simp only [ASh.fits] at hf1
     split at hf1 <;> try contradiction
     rename_i e ht
     split at hf1 <;> try contradiction
     rename_i fs he
     simp only [Bool.and_eq_true, decide_eq_true_eq] at hf1
     obtain ⟨⟨hone, hC⟩, hcf⟩ := hf1
     obtain ⟨d, ps, fuel, htr⟩ := hd 0 t v rfl rfl
     have hfl := cellsFit_length _ _ hcf
     rw [List.length_map, Array.length_toList] at hfl
     have key : ∃ (a : Option Addr) (len cap : Nat), v = .slice a len cap ∧ RowsOk w l a len cap := by
      have hcells : v.cells.toList = [v] := by
       unfold Value.okWide Cell.okWide Cell.ok at hv
       rw [ht] at hv
       cases v <;> first | rfl | exact hv.elim
      rw [hcells] at htr
      rcases open_slice_fields ht he hone hC htr with h1 | ⟨a, len, cap, m, h1, h2, h3, h4, h5⟩
      · simp only [List.cons.injEq, and_true] at h1
        exact ⟨none, 0, 0, h1, ⟨Nat.le_refl _, Nat.zero_le _, fun _ => rfl, fun j hj => absurd hj (Nat.not_lt_zero _)⟩⟩
      · simp only [List.cons.injEq, and_true] at h1
        refine ⟨some a, len, cap, h1, ⟨h2, h3, fun h => (by cases h), fun j hj i c hc => ?_⟩⟩
        simp only [if_true] at h4
        obtain ⟨n, h6⟩ := h5 j (by omega)
        obtain ⟨u, hu, hcu⟩ := cellsFit_get _ _ hcf i c hc
        rw [List.getElem?_map] at hu
        obtain ⟨fd, hfd, rfl⟩ := Option.map_eq_some_iff.1 hu
        obtain ⟨x, y, hx, hy⟩ := h6 i fd (by simpa using hfd)
        rw [hfl] at hx
        exact cell_at hcu hx hy
     obtain ⟨a, len, cap, rfl, hrow⟩ := key
     have h2 := hrec (pre ++ [Value.slice a len cap])
     have e0 : pre ++ (Value.slice a len cap :: vs).flatMap flat1 = pre ++ Value.slice a len cap :: vs.flatMap flat1 := by simp [flat1]
     have e1 : pre ++ [Value.slice a len cap] ++ vs.flatMap flat1 = pre ++ Value.slice a len cap :: vs.flatMap flat1 := by simp
     have hg : (pre ++ Value.slice a len cap :: vs.flatMap flat1)[pre.length]? = some (Value.slice a len cap) := by simp
     rw [e0]
     rw [e1, List.length_append] at h2
     simp only [argsTV, List.map_cons, argsOk, TV.den]
     have ea : (envOf (pre ++ Value.slice a len cap :: vs.flatMap flat1)).a pre.length = a := by simp only [envOf, addrAt, hg]
     have el : (envOf (pre ++ Value.slice a len cap :: vs.flatMap flat1)).len pre.length = len := by simp only [envOf, lenAt, hg]
     have ec : (envOf (pre ++ Value.slice a len cap :: vs.flatMap flat1)).cap pre.length = cap := by simp only [envOf, capAt, hg]
     rw [ea, el, ec]
     exact ⟨congr (congrArg _ rfl) h2.1, hrow, h2.2⟩
    | one c =>
     have hf1 : c.fits P t = true := hf.1
     have hc : Cell.okWide P w r base t v := by
      unfold Value.okWide at hv
      cases c <;> simp only [CSh.fits] at hf1 <;> split at hf1 <;> first
       | exact absurd hf1 (by decide)
       | (next he => rw [he] at hv; exact hv)
     have hfl : flat1 v = [v] := by
      rcases cell_one hf1 hc with ⟨_, _, _, rfl, _, _⟩ | ⟨_, _, rfl⟩ <;> rfl
     have h1 := cell_open (P := P) pre (vs.flatMap flat1) hf1 hc
     have h2 := hrec (pre ++ [v])
     have e0 : pre ++ (v :: vs).flatMap flat1 = pre ++ v :: vs.flatMap flat1 := by simp [hfl]
     have e1 : pre ++ [v] ++ vs.flatMap flat1 = pre ++ v :: vs.flatMap flat1 := by simp
     rw [e0]
     rw [e1, List.length_append] at h2
     simp only [argsTV, List.map_cons, argsOk, TV.den]
     exact ⟨congr (congrArg _ h1.1) h2.1, h1.2, h2.2⟩
    | agg l =>
     have hf1 := hf.1
     simp only [ASh.fits, Bool.and_eq_true, decide_eq_true_eq] at hf1
     obtain ⟨⟨hsh, hsz⟩, hct⟩ := hf1
     unfold Value.okWide at hv
     split at hsh
     all_goals first
      | exact absurd hsh (by decide)
      | skip
     all_goals
      rename_i he
      rw [he] at hv
      obtain ⟨cs, rfl, hcs, tys, htys, hn, hcell⟩ := hv
      rw [htys] at hct
      have hlen := cellsFit_length tys l hct
      have hcl : cs.toList.length = tys.length := by simp [hcs, hsz, hlen]
      have h1 := cells_open (P := P) (w := w) (r := r) (base := base) tys l cs.toList pre (vs.flatMap flat1) hct hcl (fun i v' hi => by
       have hi' : cs[i]? = some v' := by simpa using hi
       have hlt : i < tys.length := by
        have h5 := (Array.getElem?_eq_some_iff.1 hi').1
        rw [Array.length_toList] at hcl
        omega
       obtain ⟨u, hu, ho⟩ := hcell i v' hi'
       rw [Nat.mod_eq_of_lt hlt] at hu
       exact ⟨u, hu, ho⟩)
      have h2 := hrec (pre ++ cs.toList)
      have e0 : pre ++ (Value.agg cs :: vs).flatMap flat1 = pre ++ cs.toList ++ vs.flatMap flat1 := by simp [flat1]
      rw [e0]
      rw [List.length_append, hcl, hlen] at h2
      simp only [argsTV, List.map_cons, argsOk, TV.den, dens]
      refine ⟨congr (congrArg _ ?_) h2.1, h1.2, h2.2⟩
      rw [← h1.1]
end
theorem gok_nil {P : Program} : ∀ W : World, GOk W P [] := fun _ g s h => by cases h
theorem gok_cons {W : World} {P : Program} {G : List (Nat × Spec)} {g : Nat} {sp : Spec} (h : SpecOk W P g sp) (hG : GOk W P G) (hn : sp.kn [] = [77777] → NbOk W P g sp := by exact fun h => absurd h.symm (List.cons_ne_nil _ _)) : GOk W P ((g, sp) :: G) := by
 intro k s hk
 rw [look_cons] at hk
 split at hk
 · rename_i he
   simp only [Option.some.injEq] at hk
   subst he hk
   exact ⟨h, hn⟩
 · exact hG k s hk
def specF (F : List TV → Option TV) : Spec := ⟨fun _ => [], fun _ => [], fun args _ _ => match F args with
 | some v => some (.pure v)
 | none => none⟩
theorem allLt_den {args : List TV} (h : allB (TV.lt 0) args = true) (f f' : Nat → Nat) : args.map (TV.den f) = args.map (TV.den f') :=
 List.map_congr_left fun v hv => TV.lt_den (allB_iff h v hv) (fun b hb => by omega)
theorem specF_ok {W : World} {P : Program} {G : List (Nat × Spec)} (hG : GOk W P G) {g : FuncId} {F : List TV → Option TV}
  (fn : ∃ fn, P.funcs[g]? = some fn ∧ (fn.name == "runtime.NumGoroutine") = false ∧ fn.body.isNone = false)
  (h : ∀ args v, F args = some v → allB (TV.lt 0) args = true ∧ v.lt 0 = true ∧ v ≠ .un ∧ ∃ v', eval P W G g args = some v' ∧ ∀ f, v'.den f = v.den f) : SpecOk W P g (specF F) := by
 refine ⟨fn, ?_⟩
 intro args C K e f w he _ _ _ _ hW _
 simp only [specF] at he
 split at he
 · rename_i v hv
   simp only [Option.some.injEq] at he
   subst he
   obtain ⟨h1, h2, h3, v', h4, h5⟩ := h args v hv
   refine ⟨h3, fun p hp => by simp [Eff.pure] at hp, ?_⟩
   rw [allLt_den h1 f (fun _ => 0)]
   refine (calls_of_eval hG h4 w hW).mono fun en w' ⟨⟨f', hf⟩, hb⟩ => ⟨?_, ⟨hb.os, hb.tape, hb.output, hb.size, fun i hi => hb.block i hi⟩⟩
   rw [hf, h5 f']
   exact congrArg _ (TV.lt_den h2 (fun b hb => by omega))
 · simp at he
def specV (F : List TV → Option (SB × TV)) : Spec := ⟨fun _ => [], fun _ => [], fun args _ _ => match F args with
 | some (c, v) => some ⟨c, v, [], none⟩
 | none => none⟩
theorem specV_ok' {W : World} {P : Program} {G : List (Nat × Spec)} (hG : GOk W P G) {g : FuncId} {F : List TV → Option (SB × TV)}
  (fn : ∃ fn, P.funcs[g]? = some fn ∧ (fn.name == "runtime.NumGoroutine") = false ∧ fn.body.isNone = false)
  (h : ∀ args c v, F args = some (c, v) → c.val = true → allB (TV.lt 0) args = true ∧ v.lt 0 = true ∧ v ≠ .un ∧
   ∃ args', allB (TV.lt 0) args' = true ∧ args'.map (TV.den fun _ => 0) = args.map (TV.den fun _ => 0) ∧ ∃ v', eval P W G g args' = some v' ∧ ∀ f, v'.den f = v.den f) : SpecOk W P g (specV F) := by
 refine ⟨fn, ?_⟩
 intro args C K e f w he _ hvc _ _ hW _
 simp only [specV] at he
 split at he
 · rename_i c v hv
   simp only [Option.some.injEq] at he
   subst he
   obtain ⟨h1, h2, h3, args', _, ha, v', h4, h5⟩ := h args c v hv hvc
   refine ⟨h3, fun p hp => by simp at hp, ?_⟩
   rw [allLt_den h1 f (fun _ => 0), ← ha]
   refine (calls_of_eval hG h4 w hW).mono fun en w' ⟨⟨f', hf⟩, hb⟩ => ⟨?_, ⟨hb.os, hb.tape, hb.output, hb.size, fun i hi => hb.block i hi⟩⟩
   rw [hf, h5 f']
   exact congrArg _ (TV.lt_den h2 (fun b hb => by omega))
 · simp at he
def FK : List TV → Option TV
 | [] => some (.one (.bool (.lit true)))
 | _ => none
theorem known_ok {W : World} {P : Program} {g : FuncId} (fn : ∃ fn, P.funcs[g]? = some fn ∧ (fn.name == "runtime.NumGoroutine") = false ∧ fn.body.isNone = false)
  (h : eval P W [] g [] = some (.one (.bool (.lit true)))) : SpecOk W P g (specF FK) := by
 refine specF_ok (G := []) (gok_nil W) fn fun args v hv => ?_
 unfold FK at hv
 split at hv
 · simp only [Option.some.injEq] at hv
   subst hv
   exact ⟨rfl, rfl, by simp, _, h, fun _ => rfl⟩
 · cases hv
theorem trodAll_below {H : Type} {enc : TypeId × Value → H} {P : Program} {W W' : World} (hl : laidOutB P = true) (hb : Below W.heap.size W W') :
  ∀ (ts : List TypeId) (vs : List Value) (ds : List (DataW H)) (ps : List MemPlace), (∀ t ∈ ts, P.readableRec t = true ∧ t < P.types.size) →
   DataW.TrodAll enc P W 0 (fun _ => true) true ts vs ds ps → (∀ x ∈ ps, x.block < W.heap.size) →
   DataW.TrodAll enc P W' 0 (fun b => decide (b < W.heap.size)) true ts vs ds ps
 | [], _, _, _, _, h, _ => by
  obtain ⟨rfl, rfl, rfl⟩ := trodAll_nil h
  exact trodAll_mk0
 | t :: ts, vs, ds, ps, ht, h, hp => by
  obtain ⟨v, vs', d, ds', p, q, rfl, rfl, rfl, hd, hr⟩ := trodAll_cons h
  obtain ⟨h1, h2⟩ := ht t (by simp)
  exact trodAll_cons_mk (Below.trod hl h1 h2 hd hb fun x hx => hp x (by simp [hx])) (trodAll_below hl hb ts vs' ds' q (fun t' ht' => ht t' (by simp [ht'])) hr fun x hx => hp x (by simp [hx]))
theorem trodAll_length {H : Type} {enc : TypeId × Value → H} {P : Program} {W : World} {base : Nat} {sp : Nat → Bool} {hd : Bool} :
  ∀ (ts : List TypeId) (vs : List Value) (ds : List (DataW H)) (ps : List MemPlace), DataW.TrodAll enc P W base sp hd ts vs ds ps → vs.length = ts.length ∧ ds.length = ts.length
 | [], _, _, _, h => by
  obtain ⟨rfl, rfl, rfl⟩ := trodAll_nil h
  exact ⟨rfl, rfl⟩
 | t :: ts, vs, ds, ps, h => by
  obtain ⟨v, vs', d, ds', p, q, rfl, rfl, rfl, hd, hr⟩ := trodAll_cons h
  have := trodAll_length ts vs' ds' q hr
  simp [this]
theorem trodAll_each {H : Type} {enc : TypeId × Value → H} {P : Program} {W : World} {base : Nat} {sp : Nat → Bool} {hd : Bool} :
  ∀ (ts : List TypeId) (vs : List Value) (ds : List (DataW H)) (ps : List MemPlace), DataW.TrodAll enc P W base sp hd ts vs ds ps →
   ∀ (j : Nat) t v, ts[j]? = some t → vs[j]? = some v → ∃ d ps, DataW.Trod enc P W base sp hd t v d ps
 | [], _, _, _, _, j, t, v, ht, _ => by simp at ht
 | t :: ts, vs, ds, ps, h, j, t', v', ht, hv => by
  obtain ⟨v, vs', d, ds', p, q, rfl, rfl, rfl, hd, hr⟩ := trodAll_cons h
  cases j with
  | zero =>
   simp only [List.getElem?_cons_zero, Option.some.injEq] at ht hv
   subst ht hv
   exact ⟨_, _, hd⟩
  | succ j => exact trodAll_each ts vs' ds' q hr j t' v' (by simpa using ht) (by simpa using hv)
def typesFine (P : Program) (f : Func) : Bool :=
 laidOutB P && f.params.toList.all (fun t => P.readableRec t && decide (t < P.types.size)) && (match f.resultTypes.toList with
  | [t] => (match P.underlying t with
   | some .bool => true
   | _ => false)
  | _ => false)
end Go.Sx
namespace Go.Sx
open Go Go.RowKit
structure Own where
 e : TypeId
 size : Nat
 a : Option Addr
 n : Nat
 c : Nat
 xs : List SV
def Own.v (o : Own) : Value := .slice o.a o.n o.c
def Own.vals (o : Own) : List Value := o.xs.map (SV.den fun _ => 0)
def Own.rel (B : Nat) (w : World) (o : Own) : Prop := w.ownsRow B o.e o.size o.v o.n o.vals
abbrev Gh := List Own
structure GRel (Bp : Nat → Prop) (g : Gh) (f : Nat → Nat) (m : Mem) (w : World) : Prop where
 own : ∀ (q : Nat) (o : Own), g[q]? = some o → o.rel 0 w
 at_ : ∀ (q : Nat) (o : Own), g[q]? = some o → ∀ k, o.v.ownBlock = some k → Bp k
 off : ∀ (q : Nat) (o : Own), g[q]? = some o → ∀ k, o.v.ownBlock = some k → ∀ b i, look m.blks b = some i → f b ≠ k
 two : ∀ (q q' : Nat) (o p : Own), g[q]? = some o → g[q']? = some p → q ≠ q' → ∀ k, o.v.ownBlock = some k → p.v.ownBlock ≠ some k
structure Bs where
 W : World
 w0 : World
 X : Nat → Prop
 base : Base W w0 X
 pin : Option Nat
def Bs.of (W : World) : Bs := ⟨W, W, fun _ => False, (Old.refl W).base, none⟩
instance : Coe World Bs := ⟨Bs.of⟩
structure GSt (W : Bs) (nt : Nat) (s : SL) (m : Mem) (g : Gh) (f : Nat → Nat) (a : Act) (w : World) : Prop where
 size : a.tmps.size = nt
 defers : a.defers = []
 slots : SRel f (look s) a
 mem : MOk w (fun i => ∃ b j, look m.blks b = some j ∧ f b = i) f m w
 base : ∀ b j, look m.blks b = some j → W.w0.heap.size ≤ f b ∨ W.X (f b)
 fr : Fr W.W W.w0 W.X w
 pin : ∀ i, W.pin = some i → f 0 = i ∧ 0 < m.next
 gh : GRel (fun k => W.w0.heap.size ≤ k ∨ W.X k) g f m w
theorem GSt.old {W : Bs} {nt : Nat} {s : SL} {m : Mem} {g : Gh} {f : Nat → Nat} {a : Act} {w : World} (h : GSt W nt s m g f a w) : Old W.W w := h.fr.old
theorem GSt.below {W : World} {nt : Nat} {s : SL} {m : Mem} {g : Gh} {f : Nat → Nat} {a : Act} {w : World} (h : GSt (W : Bs) nt s m g f a w) : Below W.heap.size W w :=
 ⟨h.fr.os, h.fr.tape, h.fr.output, h.fr.size, fun i hi => h.fr.same i hi (fun h => h)⟩
theorem GSt.baseW {W : Bs} {nt : Nat} {s : SL} {m : Mem} {g : Gh} {f : Nat → Nat} {a : Act} {w : World} (h : GSt W nt s m g f a w) {b : Nat} {j : BI} (hj : look m.blks b = some j) : Free W.W (f b) := by
 rcases h.base b j hj with h1 | h1
 · exact W.base.old.free h1
 · exact W.base.out _ h1
theorem GSt.rel {W : Bs} {nt : Nat} {s : SL} {m : Mem} {g : Gh} {f : Nat → Nat} {a : Act} {w : World} (h : GSt W nt s m g f a w) :
  Rel W.W w (fun i => ∃ b j, look m.blks b = some j ∧ f b = i) nt s m f a w :=
 ⟨h.size, h.defers, h.slots, h.mem, rfl, rfl, rfl, Nat.le_refl _, fun _ _ _ => rfl, h.old, fun _ ⟨_, _, hj, hf⟩ => hf ▸ h.baseW hj⟩
theorem World.ownsRow.same {w w' : World} {B : Nat} {e : TypeId} {size : Nat} {v : Value} {n : Nat} {xs : List Value} (h : w.ownsRow B e size v n xs)
  (hk : ∀ k, v.ownBlock = some k → w'.heap[k]? = w.heap[k]?) : w'.ownsRow B e size v n xs := by
 obtain ⟨h1, h2 | ⟨b, cap, cur, rfl, h3, h4, h5⟩⟩ := h
 · exact ⟨h1, .inl h2⟩
 · exact ⟨h1, .inr ⟨b, cap, cur, rfl, h3, (hk b rfl).trans h4, h5⟩⟩
def allRw (m : Mem) : Bool := allB (fun p => p.2.rw) m.blks
theorem allRw_look {m : Mem} (h : allRw m = true) {b : Nat} {j : BI} (hj : look m.blks b = some j) : j.rw = true := allB_iff h (b, j) (mem_of_look hj)
theorem GSt.next {W : Bs} {nt : Nat} {s s' : SL} {m m' : Mem} {g : Gh} {f f' : Nat → Nat} {a a' : Act} {w w' : World} (h : GSt W nt s m g f a w)
  (hr : Rel W.W w (fun i => ∃ b j, look m.blks b = some j ∧ f b = i) nt s' m' f' a' w') (hrw : allRw m' = true) (hext : Ext m.next f f') (hn : m.next ≤ m'.next) : GSt W nt s' m' g f' a' w' := by
 have hb : Fr W.W W.w0 W.X w' := ⟨hr.fr.os.trans h.fr.os, hr.fr.tape.trans h.fr.tape, hr.fr.output.trans h.fr.output, Nat.le_trans h.fr.size hr.fr.size, fun k hk hx => (hr.fr.same k (Nat.lt_of_lt_of_le hk h.fr.size) (fun ⟨b, j, hj, hf⟩ => by
  rcases h.base b j hj with h1 | h1
  · omega
  · exact hx (hf ▸ h1))).trans (h.fr.same k hk hx), W.base⟩
 have hkeep : ∀ (q : Nat) (o : Own), g[q]? = some o → ∀ k, o.v.ownBlock = some k → w'.heap[k]? = w.heap[k]? := fun q o ho k hk =>
  hr.fr.same k (World.ownsRow.lt (h.gh.own q o ho) k hk).2 (fun ⟨b, j, hj, hf⟩ => h.gh.off q o ho k hk b j hj hf)
 refine ⟨hr.size, hr.defers, hr.slots, ?_, ?_, hb, fun i hi => ⟨(hext 0 (h.pin i hi).2).trans (h.pin i hi).1, Nat.lt_of_lt_of_le (h.pin i hi).2 hn⟩, ?_, h.gh.at_, ?_, h.gh.two⟩
 · exact ⟨hr.mem.blk, hr.mem.cell, hr.mem.known, hr.mem.inj, fun b i hi _ => .inr ⟨b, i, hi, rfl⟩, hr.mem.lt⟩
 · intro b j hj
   rcases hr.mem.own b j hj (allRw_look hrw hj) with h1 | ⟨b0, j0, h2, h3⟩
   · exact .inl (Nat.le_trans h.fr.size h1)
   · rw [← h3]
     exact h.base b0 j0 h2
 · intro q o ho
   exact World.ownsRow.same (h.gh.own q o ho) (hkeep q o ho)
 · intro q o ho k hk b j hj hf
   have hlt := (World.ownsRow.lt (h.gh.own q o ho) k hk).2
   rcases hr.mem.own b j hj (allRw_look hrw hj) with h1 | ⟨b0, j0, h2, h3⟩
   · omega
   · exact h.gh.off q o ho k hk b0 j0 h2 (h3.trans hf)
theorem GSt.pick {W : Bs} {nt : Nat} {s : SL} {m : Mem} {g : Gh} {f : Nat → Nat} {a : Act} {w : World} (h : GSt W nt s m g f a w) {bs : List (Nat × Bool)} {Bl : List (Nat × BI)} {N : Nat}
  (hB : pickB m bs = some Bl) (hN : allB (fun p => Nat.blt p.1 N) bs = true) (hpn : ∀ i, W.pin = some i → 0 < N) (ks : List (Nat × Bool)) : GSt W nt (pickS (look s) ks) ⟨[], Bl, N⟩ g f a w := by
 have hm := pickB_ok h.mem hB hN
 have hin : ∀ b j, look Bl b = some j → ∃ i, look m.blks b = some i := by
  intro b j hj
  obtain ⟨_, j1, _, _, h1, _, _⟩ := pickB_look hB hj
  exact ⟨j1, h1⟩
 refine ⟨h.size, h.defers, pickS_rel h.slots ks, ⟨hm.blk, hm.cell, hm.known, hm.inj, fun b j hj _ => .inr ⟨b, j, hj, rfl⟩, hm.lt⟩, ?_, h.fr, fun i hi => ⟨(h.pin i hi).1, hpn i hi⟩, h.gh.own, h.gh.at_, ?_, h.gh.two⟩
 · intro b j hj
   obtain ⟨i, hi⟩ := hin b j hj
   exact h.base b i hi
 · intro q o ho k hk b j hj
   obtain ⟨i, hi⟩ := hin b j hj
   exact h.gh.off q o ho k hk b i hi
inductive RG where
 | fail
 | leaf (e : Ex) (vc : SB) (s : SL) (m : Mem) (g : Gh)
 | br (b : Bool) (x y : RG)
 | any (k : Option Addr → Nat → RG)
 | pick {α : Type} (x : α) (k : α → RG)
def R.toG (g : Gh) : R → RG
 | .fail => .fail
 | .leaf e vc s m => match allRw m with
  | true => .leaf e vc s m g
  | false => .fail
 | .br b x y => .br b (x.toG g) (y.toG g)
def RG.addVc (c : SB) : RG → RG
 | .fail => .fail
 | .leaf e vc s m g => .leaf e (c.and vc) s m g
 | .br b x y => .br b (x.addVc c) (y.addVc c)
 | .any k => .any fun a n => (k a n).addVc c
 | .pick x k => .pick x fun y => (k y).addVc c
def RG.bind (h : SL → Mem → Gh → RG) : RG → RG
 | .fail => .fail
 | .leaf e vc s m g => match e with
  | .nrm => (h s m g).addVc vc
  | e => .leaf e vc s m g
 | .br b x y => .br b (x.bind h) (y.bind h)
 | .any k => .any fun a n => (k a n).bind h
 | .pick x k => .pick x fun y => (k y).bind h
def RG.unblock (id : Nat) : RG → RG
 | .fail => .fail
 | .leaf e vc s m g => match e with
  | .exit i => .leaf (match Nat.beq i id with | true => .nrm | false => .exit i) vc s m g
  | e => .leaf e vc s m g
 | .br b x y => .br b (x.unblock id) (y.unblock id)
 | .any k => .any fun a n => (k a n).unblock id
 | .pick x k => .pick x fun y => (k y).unblock id
def RG.Good : RG → Prop
 | .fail => False
 | .leaf _ vc _ _ _ => vc.val = true
 | .br b x y => (b = true → x.Good) ∧ (b = false → y.Good)
 | .any k => ∀ a n, (k a n).Good
 | .pick _ k => ∀ y, (k y).Good
def RG.Is (Φ : Ex → SL → Mem → Gh → Prop) : RG → Prop
 | .fail => False
 | .leaf e _ s m g => Φ e s m g
 | .br b x y => (b = true → x.Is Φ) ∧ (b = false → y.Is Φ)
 | .any k => ∃ a n, (k a n).Is Φ
 | .pick _ k => ∃ y, (k y).Is Φ
theorem RG.Is.mono {Φ Ψ : Ex → SL → Mem → Gh → Prop} (h : ∀ e s m g, Φ e s m g → Ψ e s m g) : ∀ {r : RG}, r.Is Φ → r.Is Ψ
 | .fail, hr => hr
 | .leaf _ _ _ _ _, hr => h _ _ _ _ hr
 | .br _ _ _, hr => ⟨fun hb => (hr.1 hb).mono h, fun hb => (hr.2 hb).mono h⟩
 | .any _, ⟨a, n, hr⟩ => ⟨a, n, hr.mono h⟩
 | .pick _ _, ⟨y, hr⟩ => ⟨y, hr.mono h⟩
theorem RG.good_addVc {c : SB} : ∀ {r : RG}, (r.addVc c).Good → r.Good ∧ (r.Is (fun _ _ _ _ => True) → c.val = true)
 | .fail, h => ⟨h, fun h => h.elim⟩
 | .leaf _ vc _ _ _, h => by
  simp only [RG.addVc, RG.Good, SB.and_val, Bool.and_eq_true] at h
  exact ⟨h.2, fun _ => h.1⟩
 | .br b x y, h => by
  refine ⟨⟨fun hb => (RG.good_addVc (h.1 hb)).1, fun hb => (RG.good_addVc (h.2 hb)).1⟩, fun hi => ?_⟩
  cases b
  · exact (RG.good_addVc (h.2 rfl)).2 (hi.2 rfl)
  · exact (RG.good_addVc (h.1 rfl)).2 (hi.1 rfl)
 | .any k, h => ⟨fun a n => (RG.good_addVc (h a n)).1, fun ⟨a, n, hi⟩ => (RG.good_addVc (h a n)).2 hi⟩
 | .pick _ k, h => ⟨fun y => (RG.good_addVc (h y)).1, fun ⟨y, hi⟩ => (RG.good_addVc (h y)).2 hi⟩
theorem RG.is_addVc {c : SB} {Φ : Ex → SL → Mem → Gh → Prop} : ∀ {r : RG}, r.Is Φ → (r.addVc c).Is Φ
 | .fail, h => h
 | .leaf _ _ _ _ _, h => h
 | .br _ _ _, h => ⟨fun hb => RG.is_addVc (h.1 hb), fun hb => RG.is_addVc (h.2 hb)⟩
 | .any _, ⟨a, n, h⟩ => ⟨a, n, RG.is_addVc h⟩
 | .pick _ _, ⟨y, h⟩ => ⟨y, RG.is_addVc h⟩
theorem RG.good_is : ∀ {r : RG}, r.Good → r.Is fun _ _ _ _ => True
 | .fail, h => h
 | .leaf _ _ _ _ _, _ => trivial
 | .br _ _ _, h => ⟨fun hb => RG.good_is (h.1 hb), fun hb => RG.good_is (h.2 hb)⟩
 | .any _, h => ⟨none, 0, RG.good_is (h none 0)⟩
 | .pick x _, h => ⟨x, RG.good_is (h x)⟩
theorem RG.good_of_bind {h : SL → Mem → Gh → RG} : ∀ {r : RG}, (r.bind h).Good → r.Good
 | .fail, hg => hg
 | .leaf e vc s m g, hg => by
  cases e with
  | nrm =>
   obtain ⟨h1, h2⟩ := RG.good_addVc hg
   exact h2 (RG.good_is h1)
  | ret => exact hg
  | exit i => exact hg
  | res v => exact hg
 | .br _ _ _, hg => ⟨fun hb => RG.good_of_bind (hg.1 hb), fun hb => RG.good_of_bind (hg.2 hb)⟩
 | .any _, hg => fun a n => RG.good_of_bind (hg a n)
 | .pick _ _, hg => fun y => RG.good_of_bind (hg y)
theorem RG.is_bind {h : SL → Mem → Gh → RG} {Φ Ψ : Ex → SL → Mem → Gh → Prop} (hn : ∀ s m g, Φ .nrm s m g → (h s m g).Is Ψ) (he : ∀ e s m g, e ≠ .nrm → Φ e s m g → Ψ e s m g) : ∀ {r : RG}, r.Is Φ → (r.bind h).Is Ψ
 | .fail, hi => hi
 | .leaf e vc s m g, hi => by
  cases e with
  | nrm => exact RG.is_addVc (hn s m g hi)
  | ret => exact he _ s m g (by simp) hi
  | exit i => exact he _ s m g (by simp) hi
  | res v => exact he _ s m g (by simp) hi
 | .br _ _ _, hi => ⟨fun hb => RG.is_bind hn he (hi.1 hb), fun hb => RG.is_bind hn he (hi.2 hb)⟩
 | .any _, ⟨a, n, hi⟩ => ⟨a, n, RG.is_bind hn he hi⟩
 | .pick _ _, ⟨y, hi⟩ => ⟨y, RG.is_bind hn he hi⟩
theorem RG.is_unblock {id : Nat} {Φ : Ex → SL → Mem → Gh → Prop} : ∀ {r : RG}, (r.Is fun e s m g => Φ (match e with | .exit i => (if i = id then .nrm else .exit i) | e => e) s m g) → (r.unblock id).Is Φ
 | .fail, hi => hi
 | .leaf e vc s m g, hi => by
  cases e with
  | exit i =>
   simp only [RG.unblock, RG.Is] at hi ⊢
   cases h : Nat.beq i id
   · rw [if_neg (Nat.ne_of_beq_eq_false h)] at hi; exact hi
   · rw [if_pos (Nat.eq_of_beq_eq_true h)] at hi; exact hi
  | nrm => exact hi
  | ret => exact hi
  | res v => exact hi
 | .br _ _ _, hi => ⟨fun hb => RG.is_unblock (hi.1 hb), fun hb => RG.is_unblock (hi.2 hb)⟩
 | .any _, ⟨a, n, hi⟩ => ⟨a, n, RG.is_unblock hi⟩
 | .pick _ _, ⟨y, hi⟩ => ⟨y, RG.is_unblock hi⟩
theorem RG.good_unblock {id : Nat} : ∀ {r : RG}, (r.unblock id).Good → r.Good
 | .fail, h => h
 | .leaf e vc s m g, h => by cases e <;> exact h
 | .br _ _ _, h => ⟨fun hb => RG.good_unblock (h.1 hb), fun hb => RG.good_unblock (h.2 hb)⟩
 | .any _, h => fun a n => RG.good_unblock (h a n)
 | .pick _ _, h => fun y => RG.good_unblock (h y)
theorem toG_good {g : Gh} : ∀ {r : R}, (r.toG g).Good → r.good ∧ ∀ e vc s m, r.get = some (e, vc, s, m) → allRw m = true
 | .fail, h => h.elim
 | .leaf e vc s m, h => by
  simp only [R.toG] at h
  split at h
  · rename_i ha
    exact ⟨⟨e, vc, s, m, rfl, h⟩, fun e' vc' s' m' hh => by simp only [R.get, Option.some.injEq, Prod.mk.injEq] at hh; obtain ⟨rfl, rfl, rfl, rfl⟩ := hh; exact ha⟩
  · exact h.elim
 | .br b x y, h => by
  cases b
  · obtain ⟨⟨e, vc, s, m, h1, h2⟩, h3⟩ := toG_good (h.2 rfl)
    exact ⟨⟨e, vc, s, m, h1, h2⟩, h3⟩
  · obtain ⟨⟨e, vc, s, m, h1, h2⟩, h3⟩ := toG_good (h.1 rfl)
    exact ⟨⟨e, vc, s, m, h1, h2⟩, h3⟩
theorem toG_is {g : Gh} {Φ : Ex → SL → Mem → Gh → Prop} : ∀ {r : R}, (r.toG g).Good → (∀ e vc s m, r.get = some (e, vc, s, m) → Φ e s m g) → (r.toG g).Is Φ
 | .fail, h, _ => h
 | .leaf e vc s m, h, hp => by
  cases ha : allRw m
  · simp only [R.toG, ha] at h
    exact h.elim
  · simp only [R.toG, ha]
    exact hp e vc s m rfl
 | .br b x y, h, hp => ⟨fun hb => toG_is (h.1 hb) (fun e vc s m hh => hp e vc s m (by subst hb; exact hh)), fun hb => toG_is (h.2 hb) (fun e vc s m hh => hp e vc s m (by subst hb; exact hh))⟩
def GPost (W : Bs) (nt : Nat) (r : RG) (e : Exit) (a : Act) (w : World) : Prop := r.Is fun ex s m g => exOf ex = some e ∧ ∃ f, GSt W nt s m g f a w
end Go.Sx
