/- The shared ending of each law's proof: from 'the executor comes to true' to what the row's spec demands. No program of the seat is named here. -/
import Derived.Test.YtdglgiaegjkinaaDoorEngJ
import Derived.WalkKit
import Derived.ProofKit
import Derived.OpenShut
import Derived.Carry
import Derived.Deep.Slices
import Derived.Deep.Fields
import Derived.ChangeSame
namespace Go.Sx
open Go Go.RowKit Go.ChangeShapes Go.WideShapes Go.ChangeAt Go.Deep

/-! ### Arguments by shape: integers, bools, and aggregates of these -/
inductive CSh where
  | int (k : IntKind)
  | bool
  | ilit (k : IntKind)
  | blit
inductive ASh where
  | one (c : CSh)
  | agg (l : List CSh)
  | ints (k : IntKind)
  | rows (l : List CSh)

structure Env where
  n : Nat → Int
  b : Nat → Bool
  a : Nat → Option Addr
  len : Nat → Nat
  cap : Nat → Nat

/-- A slice of integers that came in. -/
structure RowOk (W : World) (k : IntKind) (a : Option Addr) (len cap : Nat) : Prop where
  le : len ≤ cap
  max : cap ≤ maxLen
  nil : a = none → len = 0
  at_ : ∀ j, j < len → isInt W k ((a.getD default).add j) = true ∧ k.min ≤ rdInt W ((a.getD default).add j) ∧ rdInt W ((a.getD default).add j) ≤ k.max

/-- A slice of structs that came in: each of the fields one cell. -/
def CSh.at_ (W : World) (q : Addr) : CSh → Prop
  | .int k | .ilit k => isInt W k q = true ∧ k.min ≤ rdInt W q ∧ rdInt W q ≤ k.max
  | .bool | .blit => isBool W q = true
structure RowsOk (W : World) (l : List CSh) (a : Option Addr) (len cap : Nat) : Prop where
  le : len ≤ cap
  max : cap ≤ maxLen
  nil : a = none → len = 0
  at_ : ∀ (j : Nat), j < len → ∀ (i : Nat) (c : CSh), l[i]? = some c → c.at_ W ((a.getD default).add (j * l.length + i))

def CSh.sv (e : Env) (i : Nat) : CSh → SV
  | .int k => .int k (.sym (e.n i))
  | .bool => .bool (.sym (e.b i))
  | .ilit k => .int k (.lit (e.n i))
  | .blit => .bool (.lit (e.b i))
def cellsSV (e : Env) : Nat → List CSh → List SV
  | _, [] => []
  | i, c :: r => c.sv e i :: cellsSV e (i + 1) r
def argsTV (e : Env) : Nat → List ASh → List TV
  | _, [] => []
  | i, .one c :: r => .one (c.sv e i) :: argsTV e (i + 1) r
  | i, .agg l :: r => .agg (cellsSV e i l) :: argsTV e (i + l.length) r
  | i, .ints _ :: r => .one (.sl (e.a i) (e.len i) (e.cap i)) :: argsTV e (i + 1) r
  | i, .rows _ :: r => .one (.sl (e.a i) (e.len i) (e.cap i)) :: argsTV e (i + 1) r
def CSh.ok (e : Env) (i : Nat) : CSh → Prop
  | .int k | .ilit k => k.min ≤ e.n i ∧ e.n i ≤ k.max
  | .bool | .blit => True
def cellsOk (e : Env) : Nat → List CSh → Prop
  | _, [] => True
  | i, c :: r => c.ok e i ∧ cellsOk e (i + 1) r
def argsOk (W : World) (e : Env) : Nat → List ASh → Prop
  | _, [] => True
  | i, .one c :: r => c.ok e i ∧ argsOk W e (i + 1) r
  | i, .agg l :: r => cellsOk e i l ∧ argsOk W e (i + l.length) r
  | i, .ints k :: r => RowOk W k (e.a i) (e.len i) (e.cap i) ∧ argsOk W e (i + 1) r
  | i, .rows l :: r => RowsOk W l (e.a i) (e.len i) (e.cap i) ∧ argsOk W e (i + 1) r

def CSh.fits (P : Program) (t : TypeId) : CSh → Bool
  | .int k | .ilit k => match P.underlying t with
    | some (.int k') => decide (k' = k)
    | _ => false
  | .bool | .blit => match P.underlying t with
    | some .bool => true
    | _ => false
def cellsFit (P : Program) : List TypeId → List CSh → Bool
  | [], [] => true
  | t :: ts, c :: cs => c.fits P t && cellsFit P ts cs
  | _, _ => false
def ASh.fits (P : Program) (t : TypeId) : ASh → Bool
  | .one c => c.fits P t
  | .agg l => (match P.underlying t with
    | some (.struct _) | some (.array _ _) => true
    | _ => false) && decide (P.cellsOf t = l.length) && (match P.cellTypes P.depth t with
    | some ts => cellsFit P ts l
    | none => false)
  | .ints k => match P.underlying t with
    | some (.slice e) => (match P.underlying e with
      | some (.int k') => decide (k' = k) && decide (P.cellsOf e = 1)
      | _ => false)
    | _ => false
  | .rows l => match P.underlying t with
    | some (.slice e) => (match P.underlying e with
      | some (.struct fs) => oneCellFields P fs && decide (P.cellsOf e = fs.size) && cellsFit P (fs.toList.map (·.type)) l
      | _ => false)
    | _ => false
def argsFit (P : Program) : List TypeId → List ASh → Bool
  | [], [] => true
  | t :: ts, c :: cs => c.fits P t && argsFit P ts cs
  | _, _ => false

/-! ### A slice of structs, opened -/
section
variable {H : Type} {enc : TypeId × Value → H} {P : Program} {w : World} {base : Nat} {spare : Nat → Bool} {held : Bool}
theorem open_slice_fields {t e : TypeId} {fs : Array Field} {fuel : Nat} {cs : List Value} {x : DataW H × List MemPlace} (ht : P.underlying t = some (.slice e)) (he : P.underlying e = some (.struct fs))
    (hone : oneCellFields P fs = true) (hC : P.cellsOf e = fs.size) (h : DataW.trod enc P w base spare held fuel t cs = some x) :
    cs = [.slice none 0 0] ∨ ∃ (a : Addr) (len cap m : Nat), cs = [.slice (some a) len cap] ∧ len ≤ cap ∧ cap ≤ maxLen ∧ m = (if spare a.block then cap else len) ∧
      ∀ i, i < m → ∃ n : Nat, ∀ (j : Nat) (f : Field), fs[j]? = some f → ∃ (v : Value) (y : DataW H × List MemPlace), w.cell? (a.add (i * fs.size + j)) = some v ∧ DataW.trod enc P w base spare held n f.type [v] = some y := by
  rcases open_slice ht h with h0 | ⟨a, len, cap, m, n, D, Pl, hcs, hb, hl, hm, hmm, hx, hi⟩
  · exact .inl h0.1
  · refine .inr ⟨a, len, cap, m, hcs, hl, hm, hmm, fun i him => ?_⟩
    obtain ⟨cs', hc, ht'⟩ := hi i him
    rw [hC] at hc
    obtain ⟨ys, n', hn', hy, hlen, hyl, hf⟩ := DataW.trod_struct he ht'
    obtain ⟨_, hcl, hat⟩ := World.cells?_some hc
    refine ⟨n', fun j f hj => ?_⟩
    obtain ⟨ho, hk⟩ := hone_of hone j f hj
    have hjl : j < fs.size := (Array.getElem?_eq_some_iff.1 hj).1
    have hcell := hat j hjl
    have hv : cs'[j]? = some (cs'[j]'(by omega)) := List.getElem?_eq_getElem (by omega)
    have h1 := hf j f hj
    rw [ho, hk] at h1
    have hone' : (cs'.drop j).take 1 = [cs'[j]'(by omega)] := by
      rw [List.drop_eq_getElem_cons (by omega)]
      rfl
    rw [hone'] at h1
    have hys : ys[j]? = some (ys[j]'(by omega)) := List.getElem?_eq_getElem (by omega)
    refine ⟨_, _, ?_, h1.trans hys⟩
    rw [← Go.Deep.add_add, hcell, hv]
theorem cellsFit_get : ∀ (ts : List TypeId) (cs : List CSh), cellsFit P ts cs = true → ∀ (i : Nat) (c : CSh), cs[i]? = some c → ∃ t, ts[i]? = some t ∧ c.fits P t = true
  | [], [], _, i, c, h => by simp at h
  | [], _ :: _, h, _, _, _ => by simp [cellsFit] at h
  | _ :: _, [], h, _, _, _ => by simp [cellsFit] at h
  | t :: ts, c :: cs, h, i, d, hd => by
    simp only [cellsFit, Bool.and_eq_true] at h
    cases i with
    | zero =>
      simp only [List.getElem?_cons_zero, Option.some.injEq] at hd
      subst hd
      exact ⟨t, rfl, h.1⟩
    | succ i => exact cellsFit_get ts cs h.2 i d (by simpa using hd)
theorem cell_at {t : TypeId} {c : CSh} {v : Value} {n : Nat} {y : DataW H × List MemPlace} {q : Addr} (hf : c.fits P t = true) (hq : w.cell? q = some v) (h : DataW.trod enc P w base spare held n t [v] = some y) : c.at_ w q := by
  have hi : ∀ k, (match P.underlying t with
      | some (.int k') => decide (k' = k)
      | _ => false) = true → isInt w k q = true ∧ k.min ≤ rdInt w q ∧ rdInt w q ≤ k.max := by
    intro k hf
    split at hf
    · rename_i k' he
      simp only [decide_eq_true_eq] at hf
      subst hf
      obtain ⟨z, hz, _, hw⟩ := DataW.trod_int he h
      simp only [List.cons.injEq, and_true] at hz
      subst hz
      simp only [isInt, rdInt, hq, decide_true, true_and]
      simpa [Lit.wf, IntKind.has] using hw
    · exact absurd hf (by decide)
  have hb : (match P.underlying t with
      | some .bool => true
      | _ => false) = true → isBool w q = true := by
    intro hf
    split at hf
    · rename_i he
      obtain ⟨z, hz, _⟩ := DataW.trod_bool he h
      simp only [List.cons.injEq, and_true] at hz
      subst hz
      simp only [isBool, hq]
    · exact absurd hf (by decide)
  cases c with
  | int k => exact hi k hf
  | ilit k => exact hi k hf
  | bool => exact hb hf
  | blit => exact hb hf
end
/-! ### Opening -/
def flat1 : Value → List Value
  | .agg cs => cs.toList
  | v => [v]
def intAt (l : List Value) (i : Nat) : Int := match l[i]? with
  | some (.int _ n) => n
  | _ => 0
def boolAt (l : List Value) (i : Nat) : Bool := match l[i]? with
  | some (.bool b) => b
  | _ => false
def addrAt (l : List Value) (i : Nat) : Option Addr := match l[i]? with
  | some (.slice a _ _) => a
  | _ => none
def lenAt (l : List Value) (i : Nat) : Nat := match l[i]? with
  | some (.slice _ n _) => n
  | _ => 0
def capAt (l : List Value) (i : Nat) : Nat := match l[i]? with
  | some (.slice _ _ c) => c
  | _ => 0
def envOf (l : List Value) : Env := ⟨intAt l, boolAt l, addrAt l, lenAt l, capAt l⟩

section
variable {P : Program} {w : World} {r : Reach} {base : Nat}

theorem cell_one {t : TypeId} {c : CSh} {v : Value} (hf : c.fits P t = true) (h : Cell.okWide P w r base t v) :
    (∃ k n, (c = .int k ∨ c = .ilit k) ∧ v = .int k n ∧ k.min ≤ n ∧ n ≤ k.max) ∨ ∃ b, (c = .bool ∨ c = .blit) ∧ v = .bool b := by
  have hint : ∀ k, (c = .int k ∨ c = .ilit k) → (match P.underlying t with
    | some (.int k') => decide (k' = k)
    | _ => false) = true → ∃ k n, (c = .int k ∨ c = .ilit k) ∧ v = .int k n ∧ k.min ≤ n ∧ n ≤ k.max := by
    intro k hc hf
    split at hf
    · next k' he =>
      simp only [decide_eq_true_eq] at hf
      subst hf
      have h' : Cell.ok P w r base t v := by
        unfold Cell.okWide at h
        rw [he] at h
        exact h
      unfold Cell.ok at h'
      rw [he] at h'
      cases v <;> try exact h'.elim
      next k2 n =>
        obtain ⟨rfl, h1, h2⟩ := h'
        exact ⟨_, _, hc, rfl, h1, h2⟩
    · exact absurd hf (by decide)
  have hbool : (c = .bool ∨ c = .blit) → (match P.underlying t with
    | some .bool => true
    | _ => false) = true → ∃ b, (c = .bool ∨ c = .blit) ∧ v = .bool b := by
    intro hc hf
    split at hf
    · next he =>
      have h' : Cell.ok P w r base t v := by
        unfold Cell.okWide at h
        rw [he] at h
        exact h
      unfold Cell.ok at h'
      rw [he] at h'
      cases v <;> try exact h'.elim
      exact ⟨_, hc, rfl⟩
    · exact absurd hf (by decide)
  cases c with
  | int k => exact .inl (hint k (.inl rfl) hf)
  | ilit k => exact .inl (hint k (.inr rfl) hf)
  | bool => exact .inr (hbool (.inl rfl) hf)
  | blit => exact .inr (hbool (.inr rfl) hf)

theorem cell_open {t : TypeId} {c : CSh} {v : Value} (pre post : List Value) (hf : c.fits P t = true) (h : Cell.okWide P w r base t v) :
    v = (c.sv (envOf (pre ++ v :: post)) pre.length).den (fun _ => 0) ∧ c.ok (envOf (pre ++ v :: post)) pre.length := by
  have hg : (pre ++ v :: post)[pre.length]? = some v := by simp
  rcases cell_one hf h with ⟨k, n, rfl | rfl, rfl, h1, h2⟩ | ⟨b, rfl | rfl, rfl⟩
  · have e : intAt (pre ++ Value.int k n :: post) pre.length = n := by simp only [intAt, hg]
    exact ⟨by simp only [CSh.sv, SV.den, SI.val, envOf, e], by simp only [CSh.ok, envOf, e]; exact ⟨h1, h2⟩⟩
  · have e : intAt (pre ++ Value.int k n :: post) pre.length = n := by simp only [intAt, hg]
    exact ⟨by simp only [CSh.sv, SV.den, SI.val, envOf, e], by simp only [CSh.ok, envOf, e]; exact ⟨h1, h2⟩⟩
  · have e : boolAt (pre ++ Value.bool b :: post) pre.length = b := by simp only [boolAt, hg]
    exact ⟨by simp only [CSh.sv, SV.den, SB.val, envOf, e], trivial⟩
  · have e : boolAt (pre ++ Value.bool b :: post) pre.length = b := by simp only [boolAt, hg]
    exact ⟨by simp only [CSh.sv, SV.den, SB.val, envOf, e], trivial⟩

theorem cells_open : ∀ (ts : List TypeId) (cs : List CSh) (vs pre post : List Value), cellsFit P ts cs = true → vs.length = ts.length →
    (∀ (i : Nat) v, vs[i]? = some v → ∃ u, ts[i]? = some u ∧ Cell.okWide P w r base u v) →
    vs = (cellsSV (envOf (pre ++ vs ++ post)) pre.length cs).map (SV.den fun _ => 0) ∧ cellsOk (envOf (pre ++ vs ++ post)) pre.length cs
  | [], cs, vs, pre, post, hf, hl, _ => by
    cases cs with
    | cons c cs => simp [cellsFit] at hf
    | nil =>
      cases vs with
      | nil => exact ⟨rfl, trivial⟩
      | cons v vs => simp at hl
  | t :: ts, cs, vs, pre, post, hf, hl, h => by
    cases cs with
    | nil => simp [cellsFit] at hf
    | cons c cs =>
      cases vs with
      | nil => simp at hl
      | cons v vs =>
        simp only [cellsFit, Bool.and_eq_true] at hf
        obtain ⟨u, hu, hv⟩ := h 0 v rfl
        simp only [List.getElem?_cons_zero, Option.some.injEq] at hu
        subst hu
        have h1 := cell_open (P := P) pre (vs ++ post) hf.1 hv
        have e1 : pre ++ v :: (vs ++ post) = pre ++ v :: vs ++ post := by simp
        have e2 : pre ++ [v] ++ vs ++ post = pre ++ v :: vs ++ post := by simp
        have h2 := cells_open ts cs vs (pre ++ [v]) post hf.2 (by simpa using hl) (fun i v' hi => by
          obtain ⟨u, hu, hv'⟩ := h (i + 1) v' (by simpa using hi)
          exact ⟨u, by simpa using hu, hv'⟩)
        rw [e1] at h1
        rw [e2, List.length_append] at h2
        simp only [cellsSV, List.map_cons, cellsOk]
        exact ⟨congr (congrArg _ h1.1) h2.1, h1.2, h2.2⟩

theorem cellsFit_length : ∀ (ts : List TypeId) (cs : List CSh), cellsFit P ts cs = true → ts.length = cs.length
  | [], [], _ => rfl
  | [], _ :: _, h => by simp [cellsFit] at h
  | _ :: _, [], h => by simp [cellsFit] at h
  | _ :: ts, _ :: cs, h => by
    simp only [cellsFit, Bool.and_eq_true] at h
    simp [cellsFit_length ts cs h.2]

theorem args_open {H : Type} {enc : TypeId × Value → H} : ∀ (ts : List TypeId) (ss : List ASh) (vs : List Value) (pre : List Value), argsFit P ts ss = true → vs.length = ts.length →
    (∀ (j : Nat) t v, ts[j]? = some t → vs[j]? = some v → Value.okWide P w r base t v) → (∀ (j : Nat) t v, ts[j]? = some t → vs[j]? = some v → ∃ d ps, DataW.Trod enc P w 0 (fun _ => true) true t v d ps) →
    vs = (argsTV (envOf (pre ++ vs.flatMap flat1)) pre.length ss).map (TV.den fun _ => 0) ∧ argsOk w (envOf (pre ++ vs.flatMap flat1)) pre.length ss
  | [], ss, vs, pre, hf, hl, _, _ => by
    cases ss with
    | cons c cs => simp [argsFit] at hf
    | nil =>
      cases vs with
      | nil => exact ⟨rfl, trivial⟩
      | cons v vs => simp at hl
  | t :: ts, ss, vs, pre, hf, hl, h, hd => by
    cases ss with
    | nil => simp [argsFit] at hf
    | cons s ss =>
      cases vs with
      | nil => simp at hl
      | cons v vs =>
        simp only [argsFit, Bool.and_eq_true] at hf
        have hv := h 0 t v rfl rfl
        have hrec := fun pre' => args_open ts ss vs pre' hf.2 (by simpa using hl) (fun j t' v' hj hv' => h (j + 1) t' v' (by simpa using hj) (by simpa using hv')) (fun j t' v' hj hv' => hd (j + 1) t' v' (by simpa using hj) (by simpa using hv'))
        cases s with
        | ints k =>
          have hf1 := hf.1
          simp only [ASh.fits] at hf1
          split at hf1 <;> try contradiction
          rename_i e ht
          split at hf1 <;> try contradiction
          rename_i k' he
          simp only [Bool.and_eq_true, decide_eq_true_eq] at hf1
          obtain ⟨rfl, hc⟩ := hf1
          obtain ⟨d, ps, fuel, htr⟩ := hd 0 t v rfl rfl
          have key : ∃ (a : Option Addr) (len cap : Nat), v = .slice a len cap ∧ RowOk w k' a len cap := by
            have hcells : v.cells.toList = [v] := by
              unfold Value.okWide Cell.okWide Cell.ok at hv
              rw [ht] at hv
              cases v <;> first | rfl | exact hv.elim
            rw [hcells] at htr
            rcases open_ints ht he hc htr with ⟨h1, _⟩ | ⟨a, len, cap, zs, h1, _, h2, h3, h4, _, h5, h6⟩
            · simp only [List.cons.injEq, and_true] at h1
              exact ⟨none, 0, 0, h1, ⟨Nat.le_refl _, Nat.zero_le _, fun _ => rfl, fun j hj => absurd hj (Nat.not_lt_zero _)⟩⟩
            · simp only [List.cons.injEq, and_true] at h1
              refine ⟨some a, len, cap, h1, ⟨h2, h3, fun h => (by cases h), fun j hj => ?_⟩⟩
              simp only [if_true] at h4
              have h7 := h5 j (by omega)
              have h8 := h6 (zs.getD j 0) (by simp [List.getD, List.getElem?_eq_getElem (show j < zs.length by omega)])
              have h9 : k'.min ≤ zs.getD j 0 ∧ zs.getD j 0 ≤ k'.max := by
                simpa [Lit.wf, IntKind.has] using h8
              simp only [Option.getD_some, isInt, rdInt, h7, decide_true, true_and]
              exact h9
          obtain ⟨a, len, cap, rfl, hrow⟩ := key
          have h2 := hrec (pre ++ [Value.slice a len cap])
          have e0 : pre ++ (Value.slice a len cap :: vs).flatMap flat1 = pre ++ Value.slice a len cap :: vs.flatMap flat1 := by simp [flat1]
          have e1 : pre ++ [Value.slice a len cap] ++ vs.flatMap flat1 = pre ++ Value.slice a len cap :: vs.flatMap flat1 := by simp
          have hg : (pre ++ Value.slice a len cap :: vs.flatMap flat1)[pre.length]? = some (Value.slice a len cap) := by simp
          rw [e0]
          rw [e1, List.length_append] at h2
          simp only [argsTV, List.map_cons, argsOk, TV.den]
          have ea : (envOf (pre ++ Value.slice a len cap :: vs.flatMap flat1)).a pre.length = a := by simp only [envOf, addrAt, hg]
          have el : (envOf (pre ++ Value.slice a len cap :: vs.flatMap flat1)).len pre.length = len := by simp only [envOf, lenAt, hg]
          have ec : (envOf (pre ++ Value.slice a len cap :: vs.flatMap flat1)).cap pre.length = cap := by simp only [envOf, capAt, hg]
          rw [ea, el, ec]
          exact ⟨congr (congrArg _ rfl) h2.1, hrow, h2.2⟩
        | rows l =>
          have hf1 := hf.1
          simp only [ASh.fits] at hf1
          split at hf1 <;> try contradiction
          rename_i e ht
          split at hf1 <;> try contradiction
          rename_i fs he
          simp only [Bool.and_eq_true, decide_eq_true_eq] at hf1
          obtain ⟨⟨hone, hC⟩, hcf⟩ := hf1
          obtain ⟨d, ps, fuel, htr⟩ := hd 0 t v rfl rfl
          have hfl := cellsFit_length _ _ hcf
          rw [List.length_map, Array.length_toList] at hfl
          have key : ∃ (a : Option Addr) (len cap : Nat), v = .slice a len cap ∧ RowsOk w l a len cap := by
            have hcells : v.cells.toList = [v] := by
              unfold Value.okWide Cell.okWide Cell.ok at hv
              rw [ht] at hv
              cases v <;> first | rfl | exact hv.elim
            rw [hcells] at htr
            rcases open_slice_fields ht he hone hC htr with h1 | ⟨a, len, cap, m, h1, h2, h3, h4, h5⟩
            · simp only [List.cons.injEq, and_true] at h1
              exact ⟨none, 0, 0, h1, ⟨Nat.le_refl _, Nat.zero_le _, fun _ => rfl, fun j hj => absurd hj (Nat.not_lt_zero _)⟩⟩
            · simp only [List.cons.injEq, and_true] at h1
              refine ⟨some a, len, cap, h1, ⟨h2, h3, fun h => (by cases h), fun j hj i c hc => ?_⟩⟩
              simp only [if_true] at h4
              obtain ⟨n, h6⟩ := h5 j (by omega)
              obtain ⟨u, hu, hcu⟩ := cellsFit_get _ _ hcf i c hc
              rw [List.getElem?_map] at hu
              obtain ⟨fd, hfd, rfl⟩ := Option.map_eq_some_iff.1 hu
              obtain ⟨x, y, hx, hy⟩ := h6 i fd (by simpa using hfd)
              rw [hfl] at hx
              exact cell_at hcu hx hy
          obtain ⟨a, len, cap, rfl, hrow⟩ := key
          have h2 := hrec (pre ++ [Value.slice a len cap])
          have e0 : pre ++ (Value.slice a len cap :: vs).flatMap flat1 = pre ++ Value.slice a len cap :: vs.flatMap flat1 := by simp [flat1]
          have e1 : pre ++ [Value.slice a len cap] ++ vs.flatMap flat1 = pre ++ Value.slice a len cap :: vs.flatMap flat1 := by simp
          have hg : (pre ++ Value.slice a len cap :: vs.flatMap flat1)[pre.length]? = some (Value.slice a len cap) := by simp
          rw [e0]
          rw [e1, List.length_append] at h2
          simp only [argsTV, List.map_cons, argsOk, TV.den]
          have ea : (envOf (pre ++ Value.slice a len cap :: vs.flatMap flat1)).a pre.length = a := by simp only [envOf, addrAt, hg]
          have el : (envOf (pre ++ Value.slice a len cap :: vs.flatMap flat1)).len pre.length = len := by simp only [envOf, lenAt, hg]
          have ec : (envOf (pre ++ Value.slice a len cap :: vs.flatMap flat1)).cap pre.length = cap := by simp only [envOf, capAt, hg]
          rw [ea, el, ec]
          exact ⟨congr (congrArg _ rfl) h2.1, hrow, h2.2⟩
        | one c =>
          have hf1 : c.fits P t = true := hf.1
          have hc : Cell.okWide P w r base t v := by
            unfold Value.okWide at hv
            cases c <;> simp only [CSh.fits] at hf1 <;> split at hf1 <;> first
              | exact absurd hf1 (by decide)
              | (next he => rw [he] at hv; exact hv)
          have hfl : flat1 v = [v] := by
            rcases cell_one hf1 hc with ⟨_, _, _, rfl, _, _⟩ | ⟨_, _, rfl⟩ <;> rfl
          have h1 := cell_open (P := P) pre (vs.flatMap flat1) hf1 hc
          have h2 := hrec (pre ++ [v])
          have e0 : pre ++ (v :: vs).flatMap flat1 = pre ++ v :: vs.flatMap flat1 := by simp [hfl]
          have e1 : pre ++ [v] ++ vs.flatMap flat1 = pre ++ v :: vs.flatMap flat1 := by simp
          rw [e0]
          rw [e1, List.length_append] at h2
          simp only [argsTV, List.map_cons, argsOk, TV.den]
          exact ⟨congr (congrArg _ h1.1) h2.1, h1.2, h2.2⟩
        | agg l =>
          have hf1 := hf.1
          simp only [ASh.fits, Bool.and_eq_true, decide_eq_true_eq] at hf1
          obtain ⟨⟨hsh, hsz⟩, hct⟩ := hf1
          unfold Value.okWide at hv
          split at hsh
          all_goals first
            | exact absurd hsh (by decide)
            | skip
          all_goals
            rename_i he
            rw [he] at hv
            obtain ⟨cs, rfl, hcs, tys, htys, hn, hcell⟩ := hv
            rw [htys] at hct
            have hlen := cellsFit_length tys l hct
            have hcl : cs.toList.length = tys.length := by simp [hcs, hsz, hlen]
            have h1 := cells_open (P := P) (w := w) (r := r) (base := base) tys l cs.toList pre (vs.flatMap flat1) hct hcl (fun i v' hi => by
              have hi' : cs[i]? = some v' := by simpa using hi
              have hlt : i < tys.length := by
                have h5 := (Array.getElem?_eq_some_iff.1 hi').1
                rw [Array.length_toList] at hcl
                omega
              obtain ⟨u, hu, ho⟩ := hcell i v' hi'
              rw [Nat.mod_eq_of_lt hlt] at hu
              exact ⟨u, hu, ho⟩)
            have h2 := hrec (pre ++ cs.toList)
            have e0 : pre ++ (Value.agg cs :: vs).flatMap flat1 = pre ++ cs.toList ++ vs.flatMap flat1 := by simp [flat1]
            rw [e0]
            rw [List.length_append, hcl, hlen] at h2
            simp only [argsTV, List.map_cons, argsOk, TV.den, dens]
            refine ⟨congr (congrArg _ ?_) h2.1, h1.2, h2.2⟩
            rw [← h1.1]
end

/-! ### The executor's value, looked at -/
def okTrue : Option TV → Bool
  | some (.one (.bool b)) => b.val
  | _ => false

theorem okTrue_some {o : Option TV} (h : okTrue o = true) : ∃ b : SB, o = some (.one (.bool b)) ∧ b.val = true := by
  unfold okTrue at h
  split at h
  · next b => exact ⟨b, rfl, h⟩
  · exact absurd h (by decide)

theorem law_calls {P : Program} {G : List (Nat × Spec)} {w : World} (hG : GOk w P G) {g : FuncId} {args : List TV} (h : okTrue (eval P w G g args) = true) :
    Calls P g (args.map (TV.den fun _ => 0)).toArray w fun en w' => en = .returned (.bool true) ∧ Below w.heap.size w w' := by
  obtain ⟨b, he, hb⟩ := okTrue_some h
  refine (calls_of_eval hG he w (.refl w)).mono fun en w' ⟨⟨f, hf⟩, hbe⟩ => ⟨?_, hbe⟩
  rw [hf]
  show Ending.returned (.bool b.val) = _
  rw [hb]

theorem gok_nil {P : Program} : ∀ W : World, GOk W P [] := fun _ g s h => by cases h
theorem gok_cons {W : World} {P : Program} {G : List (Nat × Spec)} {g : Nat} {sp : Spec} (h : SpecOk W P g sp) (hG : GOk W P G) (hn : sp.kn [] = [77777] → NbOk W P g sp := by exact fun h => absurd h.symm (List.cons_ne_nil _ _)) : GOk W P ((g, sp) :: G) := by
  intro k s hk
  rw [look_cons] at hk
  split at hk
  · rename_i he
    simp only [Option.some.injEq] at hk
    subst he hk
    exact ⟨h, hn⟩
  · exact hG k s hk

/-! ### A function whose value hangs on its arguments alone -/
def specF (F : List TV → Option TV) : Spec := ⟨fun _ => [], fun _ => [], fun args _ _ => match F args with
  | some v => some (.pure v)
  | none => none⟩

theorem allLt_den {args : List TV} (h : allB (TV.lt 0) args = true) (f f' : Nat → Nat) : args.map (TV.den f) = args.map (TV.den f') :=
  List.map_congr_left fun v hv => TV.lt_den (allB_iff h v hv) (fun b hb => by omega)

theorem specF_ok {W : World} {P : Program} {G : List (Nat × Spec)} (hG : GOk W P G) {g : FuncId} {F : List TV → Option TV}
    (fn : ∃ fn, P.funcs[g]? = some fn ∧ (fn.name == "runtime.NumGoroutine") = false ∧ fn.body.isNone = false)
    (h : ∀ args v, F args = some v → allB (TV.lt 0) args = true ∧ v.lt 0 = true ∧ v ≠ .un ∧ ∃ v', eval P W G g args = some v' ∧ ∀ f, v'.den f = v.den f) : SpecOk W P g (specF F) := by
  refine ⟨fn, ?_⟩
  intro args C K e f w he _ _ _ _ hW _
  simp only [specF] at he
  split at he
  · rename_i v hv
    simp only [Option.some.injEq] at he
    subst he
    obtain ⟨h1, h2, h3, v', h4, h5⟩ := h args v hv
    refine ⟨h3, fun p hp => by simp [Eff.pure] at hp, ?_⟩
    rw [allLt_den h1 f (fun _ => 0)]
    refine (calls_of_eval hG h4 w hW).mono fun en w' ⟨⟨f', hf⟩, hb⟩ => ⟨?_, ⟨hb.os, hb.tape, hb.output, hb.size, fun i hi => hb.block i hi⟩⟩
    rw [hf, h5 f']
    exact congrArg _ (TV.lt_den h2 (fun b hb => by omega))
  · simp at he

/-- As 'specF', under a condition. -/
def specV (F : List TV → Option (SB × TV)) : Spec := ⟨fun _ => [], fun _ => [], fun args _ _ => match F args with
  | some (c, v) => some ⟨c, v, [], none⟩
  | none => none⟩
theorem specV_ok {W : World} {P : Program} {G : List (Nat × Spec)} (hG : GOk W P G) {g : FuncId} {F : List TV → Option (SB × TV)}
    (fn : ∃ fn, P.funcs[g]? = some fn ∧ (fn.name == "runtime.NumGoroutine") = false ∧ fn.body.isNone = false)
    (h : ∀ args c v, F args = some (c, v) → c.val = true → allB (TV.lt 0) args = true ∧ v.lt 0 = true ∧ v ≠ .un ∧ ∃ v', eval P W G g args = some v' ∧ ∀ f, v'.den f = v.den f) : SpecOk W P g (specV F) := by
  refine ⟨fn, ?_⟩
  intro args C K e f w he _ hvc _ _ hW _
  simp only [specV] at he
  split at he
  · rename_i c v hv
    simp only [Option.some.injEq] at he
    subst he
    obtain ⟨h1, h2, h3, v', h4, h5⟩ := h args c v hv hvc
    refine ⟨h3, fun p hp => by simp at hp, ?_⟩
    rw [allLt_den h1 f (fun _ => 0)]
    refine (calls_of_eval hG h4 w hW).mono fun en w' ⟨⟨f', hf⟩, hb⟩ => ⟨?_, ⟨hb.os, hb.tape, hb.output, hb.size, fun i hi => hb.block i hi⟩⟩
    rw [hf, h5 f']
    exact congrArg _ (TV.lt_den h2 (fun b hb => by omega))
  · simp at he

/-- .. by a run at other arguments of the same sense. -/
theorem specV_ok' {W : World} {P : Program} {G : List (Nat × Spec)} (hG : GOk W P G) {g : FuncId} {F : List TV → Option (SB × TV)}
    (fn : ∃ fn, P.funcs[g]? = some fn ∧ (fn.name == "runtime.NumGoroutine") = false ∧ fn.body.isNone = false)
    (h : ∀ args c v, F args = some (c, v) → c.val = true → allB (TV.lt 0) args = true ∧ v.lt 0 = true ∧ v ≠ .un ∧
      ∃ args', allB (TV.lt 0) args' = true ∧ args'.map (TV.den fun _ => 0) = args.map (TV.den fun _ => 0) ∧ ∃ v', eval P W G g args' = some v' ∧ ∀ f, v'.den f = v.den f) : SpecOk W P g (specV F) := by
  refine ⟨fn, ?_⟩
  intro args C K e f w he _ hvc _ _ hW _
  simp only [specV] at he
  split at he
  · rename_i c v hv
    simp only [Option.some.injEq] at he
    subst he
    obtain ⟨h1, h2, h3, args', _, ha, v', h4, h5⟩ := h args c v hv hvc
    refine ⟨h3, fun p hp => by simp at hp, ?_⟩
    rw [allLt_den h1 f (fun _ => 0), ← ha]
    refine (calls_of_eval hG h4 w hW).mono fun en w' ⟨⟨f', hf⟩, hb⟩ => ⟨?_, ⟨hb.os, hb.tape, hb.output, hb.size, fun i hi => hb.block i hi⟩⟩
    rw [hf, h5 f']
    exact congrArg _ (TV.lt_den h2 (fun b hb => by omega))
  · simp at he

/-- A fixed example: no argument, true. -/
def FK : List TV → Option TV
  | [] => some (.one (.bool (.lit true)))
  | _ => none
theorem known_ok {W : World} {P : Program} {g : FuncId} (fn : ∃ fn, P.funcs[g]? = some fn ∧ (fn.name == "runtime.NumGoroutine") = false ∧ fn.body.isNone = false)
    (h : eval P W [] g [] = some (.one (.bool (.lit true)))) : SpecOk W P g (specF FK) := by
  refine specF_ok (G := []) (gok_nil W) fn fun args v hv => ?_
  unfold FK at hv
  split at hv
  · simp only [Option.some.injEq] at hv
    subst hv
    exact ⟨rfl, rfl, by simp, _, h, fun _ => rfl⟩
  · cases hv

/-! ### Behind the call the arguments read as before -/
theorem trodAll_below {H : Type} {enc : TypeId × Value → H} {P : Program} {W W' : World} (hl : laidOutB P = true) (hb : Below W.heap.size W W') :
    ∀ (ts : List TypeId) (vs : List Value) (ds : List (DataW H)) (ps : List MemPlace), (∀ t ∈ ts, P.readableRec t = true ∧ t < P.types.size) →
      DataW.TrodAll enc P W 0 (fun _ => true) true ts vs ds ps → (∀ x ∈ ps, x.block < W.heap.size) →
      DataW.TrodAll enc P W' 0 (fun b => decide (b < W.heap.size)) true ts vs ds ps
  | [], _, _, _, _, h, _ => by
    obtain ⟨rfl, rfl, rfl⟩ := trodAll_nil h
    exact trodAll_mk0
  | t :: ts, vs, ds, ps, ht, h, hp => by
    obtain ⟨v, vs', d, ds', p, q, rfl, rfl, rfl, hd, hr⟩ := trodAll_cons h
    obtain ⟨h1, h2⟩ := ht t (by simp)
    exact trodAll_cons_mk (Below.trod hl h1 h2 hd hb fun x hx => hp x (by simp [hx])) (trodAll_below hl hb ts vs' ds' q (fun t' ht' => ht t' (by simp [ht'])) hr fun x hx => hp x (by simp [hx]))

theorem trodAll_length {H : Type} {enc : TypeId × Value → H} {P : Program} {W : World} {base : Nat} {sp : Nat → Bool} {hd : Bool} :
    ∀ (ts : List TypeId) (vs : List Value) (ds : List (DataW H)) (ps : List MemPlace), DataW.TrodAll enc P W base sp hd ts vs ds ps → vs.length = ts.length ∧ ds.length = ts.length
  | [], _, _, _, h => by
    obtain ⟨rfl, rfl, rfl⟩ := trodAll_nil h
    exact ⟨rfl, rfl⟩
  | t :: ts, vs, ds, ps, h => by
    obtain ⟨v, vs', d, ds', p, q, rfl, rfl, rfl, hd, hr⟩ := trodAll_cons h
    have := trodAll_length ts vs' ds' q hr
    simp [this]

theorem trodAll_each {H : Type} {enc : TypeId × Value → H} {P : Program} {W : World} {base : Nat} {sp : Nat → Bool} {hd : Bool} :
    ∀ (ts : List TypeId) (vs : List Value) (ds : List (DataW H)) (ps : List MemPlace), DataW.TrodAll enc P W base sp hd ts vs ds ps →
      ∀ (j : Nat) t v, ts[j]? = some t → vs[j]? = some v → ∃ d ps, DataW.Trod enc P W base sp hd t v d ps
  | [], _, _, _, _, j, t, v, ht, _ => by simp at ht
  | t :: ts, vs, ds, ps, h, j, t', v', ht, hv => by
    obtain ⟨v, vs', d, ds', p, q, rfl, rfl, rfl, hd, hr⟩ := trodAll_cons h
    cases j with
    | zero =>
      simp only [List.getElem?_cons_zero, Option.some.injEq] at ht hv
      subst ht hv
      exact ⟨_, _, hd⟩
    | succ j => exact trodAll_each ts vs' ds' q hr j t' v' (by simpa using ht) (by simpa using hv)

def typesFine (P : Program) (f : Func) : Bool :=
  laidOutB P && f.params.toList.all (fun t => P.readableRec t && decide (t < P.types.size)) && (match f.resultTypes.toList with
    | [t] => (match P.underlying t with
      | some .bool => true
      | _ => false)
    | _ => false)

/-- THE STEP OF A ROW 'for every input the law returns true; each argument reads behind the call as it read before'. -/
theorem law_step {C : Checked} {os : Os} {g : FuncId} {f : Func} {s : ChangeSpec} {H : Type} {enc : TypeId × Value → H} (n : Nat)
    (own : ownKnob C.prog.godebug = none) (started : os.Started) (noInit : C.prog.inits.idxOf? g = none) (hfn : C.prog.funcs[g]? = some f)
    (hn : f.params.size = n) (fine : typesFine C.prog f = true) (hvars : s.vars = [])
    (hs : ∀ ds : List (DataW H), ds.length = n → s.fn H ds = { results := [.lit (.bool true)], args := ds })
    (witness : ∃ (w : World) (tape : Tape) (i : Input), w.os = os ∧ (w.forCall tape i).Shaped C.prog ∧ i.vars = [] ∧ Input.okWide C.prog (w.forCall tape i) .any w.heap.size g i ∧
      s.pre6 enc C.prog f [] false (w.forCall tape i).memory i.args ∧ ({} : Assume).holds C.prog (lone (Frame.enter C.prog g i.args .normal) [] (w.forCall tape i)))
    (walk : ∀ (W : World) (base : Nat) (args : Array Value), (∀ (j : Nat) t v, f.params.toList[j]? = some t → args.toList[j]? = some v → Value.okWide C.prog W .any base t v) → args.toList.length = f.params.toList.length →
      ∀ (ds : List (DataW H)) (ps : List MemPlace), DataW.TrodAll enc C.prog W 0 (fun _ => true) true f.params.toList args.toList ds ps →
      Calls C.prog g args W fun e W' => e = .returned (.bool true) ∧ Below W.heap.size W W') :
    ReturnsInHanded {} C os g .any (s.pre6 enc C.prog f [] false) (s.post enc C.prog f false true false false) := by
  simp only [typesFine, Bool.and_eq_true, List.all_eq_true, decide_eq_true_eq] at fine
  obtain ⟨⟨hl, hts⟩, hres⟩ := fine
  refine returnsInHanded_of_change own started noInit hfn witness ?_
  intro W base args ds gs before hval hW _ _
  have hW' := hW
  obtain ⟨p, q, hA, hV, rfl, hfz, hnd⟩ := hW
  rw [hvars] at hV
  obtain ⟨rfl, rfl⟩ := trodVars_none hV
  have hlen := trodAll_length _ _ _ _ hA
  have hdn : ds.length = n := by rw [hlen.2, ← hn]; simp
  refine (walk W base args (fun j t v hj hv => hval j t v (by simpa using hj) (by simpa using hv)) hlen.1 ds p hA).mono fun e W' ⟨he, hb⟩ => ?_
  subst he
  refine ⟨_, rfl, ds, [], p ++ [], [], p, [], hW', ?_, ?_, ?_, hb.frame _, fun h => by cases h⟩
  · rw [List.append_nil, hs ds hdn]
    split at hres
    · next t ht =>
      split at hres
      · next hu =>
        have hsz : f.resultTypes.size = 1 := by
          have := congrArg List.length ht
          simpa using this
        rw [ht, hsz]
        exact trodAll_cons_mk (shut_bool hu true) trodAll_mk0
      · exact absurd hres (by decide)
    · exact absurd hres (by decide)
  · rw [List.append_nil, hs ds hdn]
    exact trodAll_below hl hb _ _ _ _ (fun t ht => by simpa using hts t ht) hA fun x hx => hW'.lt x (by simpa using hx)
  · rw [hvars, List.append_nil, hs ds hdn]
    trivial

/-- As 'plain_walk', the call given as a whole. -/
theorem shape_walk {P : Program} {g : FuncId} {f : Func} (ss : List ASh) (hfit : argsFit P f.params.toList ss = true)
    (h : ∀ (W : World) (e : Env), argsOk W e 0 ss → Calls P g ((argsTV e 0 ss).map (TV.den fun _ => 0)).toArray W fun en W' => en = .returned (.bool true) ∧ Below W.heap.size W W')
    (W : World) (base : Nat) (args : Array Value) (hval : ∀ (j : Nat) t v, f.params.toList[j]? = some t → args.toList[j]? = some v → Value.okWide P W .any base t v) (hlen : args.toList.length = f.params.toList.length)
    {H : Type} {enc : TypeId × Value → H} {ds : List (DataW H)} {ps : List MemPlace} (htr : DataW.TrodAll enc P W 0 (fun _ => true) true f.params.toList args.toList ds ps) :
    Calls P g args W fun e W' => e = .returned (.bool true) ∧ Below W.heap.size W W' := by
  obtain ⟨h1, h2⟩ := args_open f.params.toList ss args.toList [] hfit hlen hval (trodAll_each _ _ _ _ htr)
  have h3 := h W _ h2
  rw [List.length_nil] at h1
  rw [← h1] at h3
  simpa using h3
/-- The walk's hole of 'law_step', filled for arguments of plain shapes. -/
theorem plain_walk {P : Program} {G : World → List (Nat × Spec)} (hG : ∀ W : World, GOk W P (G W)) {g : FuncId} {f : Func} (ss : List ASh) (hfit : argsFit P f.params.toList ss = true)
    (h : ∀ (W : World) (e : Env), argsOk W e 0 ss → okTrue (eval P W (G W) g (argsTV e 0 ss)) = true)
    (W : World) (base : Nat) (args : Array Value) (hval : ∀ (j : Nat) t v, f.params.toList[j]? = some t → args.toList[j]? = some v → Value.okWide P W .any base t v) (hlen : args.toList.length = f.params.toList.length)
    {H : Type} {enc : TypeId × Value → H} {ds : List (DataW H)} {ps : List MemPlace} (htr : DataW.TrodAll enc P W 0 (fun _ => true) true f.params.toList args.toList ds ps) :
    Calls P g args W fun e W' => e = .returned (.bool true) ∧ Below W.heap.size W W' := by
  obtain ⟨h1, h2⟩ := args_open f.params.toList ss args.toList [] hfit hlen hval (trodAll_each _ _ _ _ htr)
  have h3 := law_calls (hG W) (h W _ h2)
  rw [List.length_nil] at h1
  rw [← h1] at h3
  simpa using h3
end Go.Sx
