/- Rows of bytes that lie in memory; Format and value upon them among the operations of a region. -/
import Derived.Test.YtdglgiaegjkinaaDoorFmt
import Derived.Test.YtdglgiaegjkinaaDoorVal
namespace Go.Proofs.YtdglgiaegjkinaaDoor
open Go Go.Sx Go.RowKit
set_option maxRecDepth 100000
noncomputable def yes (p : Prop) : Bool := @decide p (Classical.propDecidable _)
theorem yes_of {p : Prop} (h : p) : yes p = true := @decide_eq_true _ (Classical.propDecidable _) h
theorem of_yes {p : Prop} (h : yes p = true) : p := @of_decide_eq_true _ (Classical.propDecidable _) h
abbrev den0 : SV → Value := SV.den fun _ => 0
def unB : List SV → List Int
  | .int _ x :: r => x.val :: unB r
  | _ => []
theorem unB_zs : ∀ l : List Int, unB (zs l) = l
  | [] => rfl
  | z :: l => congrArg (z :: ·) (unB_zs l)
/-- A row of bytes that lies in memory. -/
structure RowZ (w : World) (a : Option Addr) (n c : Nat) (l : List Int) : Prop where
  le : n ≤ c
  max : c ≤ maxLen
  nil : a = none → n = 0
  len : l.length = n
  flat : a = none ∨ okA a = true
  at_ : ∀ (j : Nat) (z : Int), l[j]? = some z → w.cell? ((a.getD default).add j) = some (.int .u8 z)
theorem owns_cap {w : World} {B e size : Nat} {a : Option Addr} {n c : Nat} {xs : List Value} (h : w.ownsRow B e size (.slice a n c) n xs) : n ≤ c ∧ c ≤ maxLen ∧ (a = none → n = 0) ∧ (a = none ∨ okA a = true) ∧ ∀ (j : Nat) (u : Value), xs[j]? = some u → w.cell? ((a.getD default).add j) = some u := by
  obtain ⟨h1, ⟨h2, rfl⟩ | ⟨b, cap, cur, h3, h4, h5, h6, h7, h8, h9⟩⟩ := h
  · injection h2 with h3 h4 h5
    subst h3 h5
    rw [Nat.zero_mul] at h1
    have := List.eq_nil_of_length_eq_zero h1
    subst this
    exact ⟨Nat.le_refl _, Nat.zero_le _, fun _ => rfl, .inl rfl, fun j u hj => by simp at hj⟩
  · injection h3 with h10 _ h11
    subst h10 h11
    refine ⟨h6, h7, fun h => (by cases h), .inr rfl, fun j u hj => ?_⟩
    have hrow : w.ownsRow B e size (.slice (some ⟨b, 0, none⟩) n c) n xs := ⟨h1, .inr ⟨b, c, cur, rfl, h4, h5, h6, h7, h8, h9⟩⟩
    exact World.ownsRow.cells hrow rfl j u hj
theorem own_rowZ {w : World} {B : Nat} {a : Option Addr} {n c : Nat} {l : List Int} (h : w.ownsRow B 5 1 (.slice a n c) n ((zs l).map den0)) : RowZ w a n c l := by
  obtain ⟨h1, h2, h3, hf, h4⟩ := owns_cap h
  have hl := h.1
  unfold zs at hl
  rw [List.length_map, List.length_map] at hl
  refine ⟨h1, h2, h3, by omega, hf, fun j z hj => h4 j _ ?_⟩
  unfold zs
  rw [List.map_map, List.getElem?_map, hj]
  rfl
theorem RowZ.old {W w : World} (ho : Old W w) {a : Option Addr} {n c : Nat} {l : List Int} (h : RowZ W a n c l) : RowZ w a n c l := ⟨h.le, h.max, h.nil, h.len, h.flat, fun j u hj => ho.cell (h.at_ j u hj)⟩
/-- Bytes indeed. -/
def BytL (l : List Int) : Prop := ∀ j, 0 ≤ l.getD j 0 ∧ l.getD j 0 ≤ 255
theorem rdInt_of {w : World} {a : Addr} {k : IntKind} {z : Int} (h : w.cell? a = some (.int k z)) : isInt w k a = true ∧ rdInt w a = z := by
  unfold isInt rdInt
  rw [h]
  exact ⟨decide_eq_true rfl, rfl⟩
theorem RowZ.rd {w : World} {a : Option Addr} {n c : Nat} {l : List Int} (h : RowZ w a n c l) {j : Nat} (hj : j < n) : isInt w .u8 ((a.getD default).add j) = true ∧ rdInt w ((a.getD default).add j) = l.getD j 0 := by
  have hl := h.len
  have hj' : j < l.length := by omega
  have := rdInt_of (h.at_ j _ (List.getElem?_eq_getElem hj'))
  rw [List.getD_eq_getElem?_getD, List.getElem?_eq_getElem hj']
  exact this
theorem RowZ.row {w : World} {a : Option Addr} {n c : Nat} {l : List Int} (h : RowZ w a n c l) (hb : BytL l) : RowOk w .u8 a n c := by
  refine ⟨h.le, h.max, h.nil, fun j hj => ?_⟩
  obtain ⟨h1, h2⟩ := h.rd hj
  have := hb j
  exact ⟨h1, by rw [h2]; exact this.1, by rw [h2]; exact this.2⟩
/-- What a row holds. -/
structure OkZ (o : Sx.Own) (a : Option Addr) (n c : Nat) (l : List Int) : Prop where
  a : a = o.a
  n : n = o.n
  c : c = o.c
  e : o.e = 5
  size : o.size = 1
  xs : o.xs.map den0 = (zs l).map den0
theorem OkZ.row {o : Sx.Own} {a : Option Addr} {n c B : Nat} {l : List Int} {w : World} (h : OkZ o a n c l) (hr : o.rel B w) : RowZ w a n c l := by
  obtain ⟨rfl, rfl, rfl, e1, e2, e3⟩ := h
  unfold Own.rel Own.vals Own.v at hr
  rw [e1, e2, e3] at hr
  exact own_rowZ hr
theorem txt_in {k : Bool} {n : Nat} {x y : Nat → Int} (h0 : (y 0).toNat < 256) (h : ∀ j, j < n → x j = y j) : fmtR k n x = fmtR k n y := by
  unfold fmtR
  cases n with
  | zero => rfl
  | succ n =>
    rw [h 0 (by omega)]
    show (match Nat.blt (n + 1) (tabK k (y 0).toNat).1 with | true => (strB [], (0 : Int), (1 : Int)) | false => (txt (tabK k (y 0).toNat).1 (tabK k (y 0).toNat).2 (x 1) (x 2), ((tabK k (y 0).toNat).1 : Int), 0)) = (match Nat.blt (n + 1) (tabK k (y 0).toNat).1 with | true => (strB [], (0 : Int), (1 : Int)) | false => (txt (tabK k (y 0).toNat).1 (tabK k (y 0).toNat).2 (y 1) (y 2), ((tabK k (y 0).toNat).1 : Int), 0))
    cases hlt : Nat.blt (n + 1) (tabK k (y 0).toNat).1 with
    | true => rfl
    | false =>
      have hle : (tabK k (y 0).toNat).1 ≤ n + 1 := by
        rcases Nat.lt_or_ge (n + 1) (tabK k (y 0).toNat).1 with h' | h'
        · rw [show Nat.blt (n + 1) (tabK k (y 0).toNat).1 = true by rw [Nat.blt_eq]; exact h'] at hlt
          cases hlt
        · exact h'
      have e : txt (tabK k (y 0).toNat).1 (tabK k (y 0).toNat).2 (x 1) (x 2) = txt (tabK k (y 0).toNat).1 (tabK k (y 0).toNat).2 (y 1) (y 2) := by
        rcases lens k _ h0 with h3 | h3 | h3
        · rw [h3]
          exact txt_one _ _ _ _ _
        · rw [h3, h 1 (by omega)]
          exact txt_two _ _ _ _
        · rw [h3, h 1 (by omega), h 2 (by omega)]
      rw [e]
abbrev FmtCalls (gf : FuncId) : Prop := ∀ (W : World) (c : Int) (a : Option Addr) (n cap : Nat), RowOk W .u8 a n cap → Calls Tryd.prog gf #[.int .i64 c, .slice a n cap] W fun en w' => en = .returned ((resV (fmtR (c == 2) n fun j => rdInt W ((a.getD default).add j))).den fun _ => 0) ∧ Below W.heap.size W w'
theorem fmt_at {gf : FuncId} (hc : FmtCalls gf) {w : World} {c : Int} {a : Option Addr} {n cap : Nat} {l : List Int} (h : RowZ w a n cap l) (hb : BytL l) : Calls Tryd.prog gf #[.int .i64 c, .slice a n cap] w fun en w' => en = .returned ((resV (fmtR (c == 2) n fun j => l.getD j 0)).den fun _ => 0) ∧ Below w.heap.size w w' := by
  have h1 := hc w c a n cap (h.row hb)
  rw [txt_in (y := fun j => l.getD j 0) (by have := hb 0; omega) fun j hj => (h.rd hj).2] at h1
  exact h1
section
variable {W : Bs} {nt gf x y d i j : Nat} {o : Oper}
abbrev Named (gf : FuncId) : Prop := ∃ fn, Tryd.prog.funcs[gf]? = some fn ∧ (fn.name == "runtime.NumGoroutine") = false ∧ fn.body.isNone = false
/-- Format upon an own row. -/
noncomputable def fmtO (i x y d : Nat) (l : List Int) (s : SL) (m : Mem) (g : Gh) : RG := match Go.Sx.look s x, Go.Sx.look s y, g[i]? with
  | some (.one (.int .i64 c)), some (.one (.sl a n cp)), some o => .leaf .nrm (.sym (yes (OkZ o a n cp l ∧ BytL l))) (putS (some d) (resV (fmtR (c.val == 2) n fun j => l.getD j 0)) s) m g
  | _, _, _ => .fail
theorem fmtO_ok {l : List Int} (hdst : o.dst = some d) (hop : callOf o = some (.func gf, [.tmp x, .tmp y])) (hd : d < nt) (hfn : Named gf) (hc : FmtCalls gf) : CallOk W Tryd.prog nt o (fmtO i x y d l) := by
  intro s m g f a w Q hgood h
  unfold fmtO at hgood ⊢
  split at hgood <;> try exact hgood.elim
  rename_i c q n cp o1 hx hy hi
  obtain ⟨h1, h2⟩ := of_yes hgood
  have hr := h1.row (h.gh.own i o1 hi)
  refine call_wp hop h.slots rfl (l := [.one (.int .i64 c), .one (.sl q n cp)]) ?_ hfn (fmt_at hc hr h2) ?_
  · simp only [evalList, evalO, hx, hy]
  · rintro en w' ⟨rfl, hb⟩
    refine ⟨_, rfl, rfl, f, ?_⟩
    rw [hdst]
    exact h.call hb hd rfl
abbrev ValCalls (gf : FuncId) : Prop := ∀ (W : World) (s : ByteArray) (n : Nat), (n = 1 ∨ n = 2) → Calls Tryd.prog gf #[.string s, .int .i64 (n : Int)] W fun en w' => match valS s n with
    | none => en = .returned (.tuple #[.slice none 0 0, .bool false]) ∧ Below W.heap.size W w'
    | some l => ∃ j, en = .returned (.tuple #[.slice (some ⟨j, 0, none⟩) l.length l.length, .bool true]) ∧ LaidAt W w' j (dens (fun _ => 0) (zs l)) 5
/-- value, of which it is told that it fails. -/
noncomputable def valN (x y d : Nat) (s : SL) (m : Mem) (g : Gh) : RG := match Go.Sx.look s x, Go.Sx.look s y with
  | some (.one (.str t)), some (.one (.int .i64 n)) => .leaf .nrm (.sym (yes (∃ k : Nat, n.val = k ∧ (k = 1 ∨ k = 2) ∧ valS t k = none))) (putS (some d) (.tup [(false, [.sl none 0 0]), (false, [.bool (.lit false)])]) s) m g
  | _, _ => .fail
theorem valN_ok (hdst : o.dst = some d) (hop : callOf o = some (.func gf, [.tmp x, .tmp y])) (hd : d < nt) (hfn : Named gf) (hc : ValCalls gf) : CallOk W Tryd.prog nt o (valN x y d) := by
  intro s m g f a w Q hgood h
  unfold valN at hgood ⊢
  split at hgood <;> try exact hgood.elim
  rename_i t n hx hy
  obtain ⟨k, h1, h2, h3⟩ := of_yes hgood
  have hcall := hc w t k h2
  rw [h3] at hcall
  refine call_wp hop h.slots rfl (l := [.one (.str t), .one (.int .i64 n)]) ?_ hfn (by show Calls Tryd.prog gf #[.string t, .int .i64 n.val] w _; rw [h1]; exact hcall) ?_
  · simp only [evalList, evalO, hx, hy]
  · rintro en w' ⟨rfl, hb⟩
    refine ⟨_, rfl, rfl, f, ?_⟩
    rw [hdst]
    exact h.call hb hd rfl
/-- .. of which it is told what it reads. -/
noncomputable def valY (x y d : Nat) (l : List Int) (s : SL) (m : Mem) (g : Gh) : RG := match Go.Sx.look s x, Go.Sx.look s y with
  | some (.one (.str t)), some (.one (.int .i64 n)) => .leaf .nrm (.sym (yes (∃ k : Nat, n.val = k ∧ (k = 1 ∨ k = 2) ∧ valS t k = some l) && (ltS m.next s && ltM m.next m)))
      (putS (some d) (.tup [(false, [.row m.next 0 l.length l.length]), (false, [.bool (.lit true)])]) s) ⟨m.cells, (m.next, ⟨5, zs l, true⟩) :: m.blks, m.next + 1⟩ g
  | _, _ => .fail
theorem zs_lt (n : Nat) (l : List Int) : allB (SV.lt n) (zs l) = true := by
  induction l with
  | nil => rfl
  | cons x l ih =>
    show (match SV.lt n (.int .u8 (.sym x)) with | true => allB (SV.lt n) (zs l) | false => false) = true
    exact ih
theorem zs_dens (f : Nat → Nat) (l : List Int) : dens f (zs l) = dens (fun _ => 0) (zs l) := by
  unfold dens zs
  rw [List.map_map, List.map_map]
  rfl
theorem valY_ok {l : List Int} (hdst : o.dst = some d) (hop : callOf o = some (.func gf, [.tmp x, .tmp y])) (hd : d < nt) (hfn : Named gf) (hc : ValCalls gf) : CallOk W Tryd.prog nt o (valY x y d l) := by
  intro s m g f a w Q hgood h
  unfold valY at hgood ⊢
  split at hgood <;> try exact hgood.elim
  rename_i t n hx hy
  have hv : (yes (∃ k : Nat, n.val = k ∧ (k = 1 ∨ k = 2) ∧ valS t k = some l) && (ltS m.next s && ltM m.next m)) = true := hgood
  rw [Bool.and_eq_true, Bool.and_eq_true] at hv
  obtain ⟨hv1, hv2, hv3⟩ := hv
  obtain ⟨k, h1, h2, h3⟩ := of_yes hv1
  have hcall := hc w t k h2
  rw [h3] at hcall
  refine call_wp hop h.slots rfl (l := [.one (.str t), .one (.int .i64 n)]) ?_ hfn (by show Calls Tryd.prog gf #[.string t, .int .i64 n.val] w _; rw [h1]; exact hcall) ?_
  · simp only [evalList, evalO, hx, hy]
  · rintro en w' ⟨j, rfl, hL⟩
    refine ⟨_, rfl, rfl, fun k => if k = m.next then j else f k, ?_⟩
    rw [hdst]
    refine h.laid (by rw [zs_dens]; exact hL) hv2 hv3 (zs_lt _ _) hd ?_
    simp only [TV.den, List.map_cons, List.map_nil, partDen, SV.den, if_pos, SB.val_lit]
end
/-- The ghosts dropped. -/
theorem GSt.drop {W : Bs} {nt : Nat} {s : SL} {m : Mem} {g : Gh} {f : Nat → Nat} {a : Act} {w : World} (h : GSt W nt s m g f a w) : GSt W nt s m [] f a w :=
  ⟨h.size, h.defers, h.slots, h.mem, h.base, h.fr, h.pin, ⟨fun q o ho => by simp at ho, fun q o ho => by simp at ho, fun q q' o p ho => by simp at ho⟩⟩
/-- One own slice by other names of its values. -/
theorem GSt.vals {W : Bs} {nt : Nat} {s : SL} {m : Mem} {o p : Sx.Own} {f : Nat → Nat} {a : Act} {w : World} (h : GSt W nt s m [o] f a w) (e : p.e = o.e ∧ p.size = o.size ∧ p.a = o.a ∧ p.n = o.n ∧ p.c = o.c ∧ p.xs.map den0 = o.xs.map den0) : GSt W nt s m [p] f a w := by
  obtain ⟨e1, e2, e3, e4, e5, e6⟩ := e
  have hv : p.v = o.v := by unfold Own.v; rw [e3, e4, e5]
  refine ⟨h.size, h.defers, h.slots, h.mem, h.base, h.fr, h.pin, ?_, ?_, ?_⟩
  · intro q r hr
    have h0 := h.gh.own 0 o rfl
    rcases q with _ | q
    · simp only [List.getElem?_cons_zero, Option.some.injEq] at hr
      subst hr
      unfold Own.rel Own.vals at h0 ⊢
      rw [e1, e2, hv, e4, e6]
      exact h0
    · simp at hr
  · intro q r hr
    have h0 := h.gh.off 0 o rfl
    rcases q with _ | q
    · simp only [List.getElem?_cons_zero, Option.some.injEq] at hr
      subst hr
      rw [hv]
      exact h0
    · simp at hr
  · intro q q' r r' hr hr' hne
    rcases q with _ | q
    · rcases q' with _ | q'
      · exact absurd rfl hne
      · simp at hr'
    · simp at hr
/-- A plain piece behind which the ghosts are dropped. -/
noncomputable def plain0 (P : Program) (W : World) (G : List (Nat × Sx.Spec)) (N nt : Nat) (c : Code) (s : SL) (m : Mem) (_ : Gh) : RG := (run P W G N (.code c) ⟨nt, [], noMem⟩ s m).toG []
end Go.Proofs.YtdglgiaegjkinaaDoor
