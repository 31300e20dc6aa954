/- Calls upon own rows among the operations of a region: Encode, Decode, SameInputs. -/
import Derived.Test.YtdfplmkaaodblaaRnd
namespace Go.Proofs.Ytdfplmkaaodblaa.dc
open Go Go.Sx Go.RowKit
set_option maxRecDepth 100000
noncomputable def yes (p : Prop) : Bool := @decide p (Classical.propDecidable _)
theorem yes_of {p : Prop} (h : p) : yes p = true := @decide_eq_true _ (Classical.propDecidable _) h
theorem of_yes {p : Prop} (h : yes p = true) : p := @of_decide_eq_true _ (Classical.propDecidable _) h
abbrev EncOk (gf : FuncId) : Prop := ∀ {W : World} {a : Option Addr} {n c : Nat}, RowS W a n c → Calls Try.prog gf #[.slice a n c] W fun en w' => ∃ a' c', en = .returned (.slice a' (4 * min n 65536) c') ∧ w'.ownsRow W.heap.size 5 1 (.slice a' (4 * min n 65536) c') (4 * min n 65536) ((encL W a (min n 65536)).map (SV.den fun _ => 0)) ∧ Below W.heap.size W w'
abbrev DecOk (gf : FuncId) : Prop := ∀ {W : World} {a : Option Addr} {n c : Nat}, RowB W a n c → (n : Int) ≤ 9223372036854775800 → Calls Try.prog gf #[.slice a n c] W fun en w' => ∃ a' c', en = .returned (.slice a' (cnt n) c') ∧ w'.ownsRow W.heap.size 32 10 (.slice a' (cnt n) c') (cnt n) ((decS W a (cnt n)).map (SV.den fun _ => 0)) ∧ Below W.heap.size W w'
structure OkE (o : Own) (a : Option Addr) (n c : Nat) : Prop where
  a : a = o.a
  n : n = o.n
  c : c = o.c
  e : o.e = 32
  size : o.size = 10
  xs : o.xs = ents (unE o.xs)
structure OkZ (o : Own) (a : Option Addr) (n c : Nat) : Prop where
  a : a = o.a
  n : n = o.n
  c : c = o.c
  e : o.e = 5
  size : o.size = 1
  xs : o.xs = bys (unB o.xs)
theorem okE_mk {a : Option Addr} {n c : Nat} {es : List Ent} : OkE ⟨32, 10, a, n, c, ents es⟩ a n c := ⟨rfl, rfl, rfl, rfl, rfl, by rw [unE_ents]⟩
theorem okZ_mk {a : Option Addr} {n c : Nat} {zs : List Int} : OkZ ⟨5, 1, a, n, c, bys zs⟩ a n c := ⟨rfl, rfl, rfl, rfl, rfl, by rw [unB_bys]⟩
theorem OkE.row {o : Own} {a : Option Addr} {n c B : Nat} {w : World} (h : OkE o a n c) (hr : o.rel B w) : RowE w a n c (unE o.xs) := by
  obtain ⟨rfl, rfl, rfl, e1, e2, e3⟩ := h
  unfold Own.rel Own.vals Own.v at hr
  rw [e1, e2, e3] at hr
  exact own_rowE hr
theorem OkZ.row {o : Own} {a : Option Addr} {n c B : Nat} {w : World} (h : OkZ o a n c) (hr : o.rel B w) : RowZ w a n c (unB o.xs) := by
  obtain ⟨rfl, rfl, rfl, e1, e2, e3⟩ := h
  unfold Own.rel Own.vals Own.v at hr
  rw [e1, e2, e3] at hr
  exact own_rowZ hr
def encR' (a : Option Addr) (n c : Nat) (es : List Ent) : Own := ⟨5, 1, a, 4 * min n 65536, c, bys (encE (es.take (min n 65536)))⟩
def decR' (a : Option Addr) (n c : Nat) (zs : List Int) : Own := ⟨32, 10, a, cnt n, c, ents (decE zs (cnt n))⟩
section
variable {W : Bs} {nt gf x y d i j : Nat} {o : Oper}
abbrev Named (gf : FuncId) : Prop := ∃ fn, Try.prog.funcs[gf]? = some fn ∧ (fn.name == "runtime.NumGoroutine") = false ∧ fn.body.isNone = false
/-- Encode upon a row of entries, by what lies there. -/
theorem enc_at {w : World} {a : Option Addr} {n c : Nat} {es : List Ent} (hc : EncOk gf) (h : RowE w a n c es) : Calls Try.prog gf #[.slice a n c] w fun en w' => ∃ a' c', en = .returned (encR' a' n c' es).v ∧ (encR' a' n c' es).rel w.heap.size w' ∧ Below w.heap.size w w' := by
  refine (hc h.rowS).mono ?_
  rintro en w' ⟨a', c', rfl, hown, hb⟩
  rw [h.enc _ (Nat.min_le_left _ _)] at hown
  exact ⟨a', c', rfl, hown, hb⟩
theorem dec_at {w : World} {a : Option Addr} {n c : Nat} {zs : List Int} (hc : DecOk gf) (h : RowZ w a n c zs) (hz : Ctl zs) (hn : n ≤ 1000000) : Calls Try.prog gf #[.slice a n c] w fun en w' => ∃ a' c', en = .returned (decR' a' n c' zs).v ∧ (decR' a' n c' zs).rel w.heap.size w' ∧ Below w.heap.size w w' := by
  refine (hc (h.rowB hz) (by omega)).mono ?_
  rintro en w' ⟨a', c', rfl, hown, hb⟩
  rw [h.dec _ (by unfold cnt; omega)] at hown
  exact ⟨a', c', rfl, hown, hb⟩
noncomputable def encO (i x d : Nat) (s : SL) (m : Mem) (g : Gh) : RG := match Go.Sx.look s x, g[i]? with
  | some (.one (.sl a n c)), some o => .any fun a' c' => .leaf .nrm (.sym (yes (OkE o a n c))) (putS (some d) (.one (.sl a' (4 * min n 65536) c')) s) m (g ++ [encR' a' n c' (unE o.xs)])
  | _, _ => .fail
theorem encO_ok (hdst : o.dst = some d) (hop : callOf o = some (.func gf, [.tmp x])) (hd : d < nt) (hfn : Named gf) (hc : EncOk gf) : CallOk W Try.prog nt o (encO i x d) := by
  intro s m g f a w Q hgood h
  unfold encO at hgood ⊢
  split at hgood <;> try exact hgood.elim
  rename_i q n c o1 hx hi
  have hr := (of_yes (hgood none 0)).row (h.gh.own i o1 hi)
  refine call_wp hop h.slots rfl (l := [.one (.sl q n c)]) ?_ hfn (enc_at hc hr) ?_
  · simp only [evalList, evalO, hx]
  · rintro en w' ⟨a', c', rfl, hown, hb⟩
    refine ⟨_, rfl, a', c', rfl, f, ?_⟩
    rw [hdst]
    exact h.callOwn hb hd (o := encR' a' n c' (unE o1.xs)) hown
noncomputable def encW (W : World) (x d : Nat) (s : SL) (m : Mem) (g : Gh) : RG := match Go.Sx.look s x with
  | some (.one (.sl a n c)) => .any fun a' c' => .leaf .nrm (.sym (rowS W a n c)) (putS (some d) (.one (.sl a' (4 * min n 65536) c')) s) m (g ++ [encR' a' n c' (entL W a n)])
  | _ => .fail
theorem encW_ok (hdst : o.dst = some d) (hop : callOf o = some (.func gf, [.tmp x])) (hd : d < nt) (hfn : Named gf) (hc : EncOk gf) : CallOk W Try.prog nt o (encW W.W x d) := by
  intro s m g f a w Q hgood h
  unfold encW at hgood ⊢
  split at hgood <;> try exact hgood.elim
  rename_i q n c hx
  have hr : RowS W.W q n c := by
    have h1 : rowS W.W q n c = true := hgood none 0
    unfold rowS at h1
    exact @of_decide_eq_true _ (Classical.propDecidable _) h1
  refine call_wp hop h.slots rfl (l := [.one (.sl q n c)]) ?_ hfn (enc_at hc (hr.rowE.old h.old)) ?_
  · simp only [evalList, evalO, hx]
  · rintro en w' ⟨a', c', rfl, hown, hb⟩
    refine ⟨_, rfl, a', c', rfl, f, ?_⟩
    rw [hdst]
    exact h.callOwn hb hd (o := encR' a' n c' (entL W.W q n)) hown
noncomputable def decO (i x d : Nat) (s : SL) (m : Mem) (g : Gh) : RG := match Go.Sx.look s x, g[i]? with
  | some (.one (.sl a n c)), some o => .any fun a' c' => .leaf .nrm (.sym (yes (OkZ o a n c ∧ Ctl (unB o.xs) ∧ n ≤ 1000000))) (putS (some d) (.one (.sl a' (cnt n) c')) s) m (g ++ [decR' a' n c' (unB o.xs)])
  | _, _ => .fail
theorem decO_ok (hdst : o.dst = some d) (hop : callOf o = some (.func gf, [.tmp x])) (hd : d < nt) (hfn : Named gf) (hc : DecOk gf) : CallOk W Try.prog nt o (decO i x d) := by
  intro s m g f a w Q hgood h
  unfold decO at hgood ⊢
  split at hgood <;> try exact hgood.elim
  rename_i q n c o1 hx hi
  obtain ⟨h1, h2, h3⟩ := of_yes (hgood none 0)
  have hr := h1.row (h.gh.own i o1 hi)
  refine call_wp hop h.slots rfl (l := [.one (.sl q n c)]) ?_ hfn (dec_at hc hr h2 h3) ?_
  · simp only [evalList, evalO, hx]
  · rintro en w' ⟨a', c', rfl, hown, hb⟩
    refine ⟨_, rfl, a', c', rfl, f, ?_⟩
    rw [hdst]
    exact h.callOwn hb hd (o := decR' a' n c' (unB o1.xs)) hown
noncomputable def decW (W : World) (x d : Nat) (s : SL) (m : Mem) (g : Gh) : RG := match Go.Sx.look s x with
  | some (.one (.sl a n c)) => .any fun a' c' => .leaf .nrm (.sym (yes (RowOk W .u8 a n c ∧ n ≤ 1000000))) (putS (some d) (.one (.sl a' (cnt n) c')) s) m (g ++ [decR' a' n c' (byL W a n)])
  | _ => .fail
theorem decW_ok (hdst : o.dst = some d) (hop : callOf o = some (.func gf, [.tmp x])) (hd : d < nt) (hfn : Named gf) (hc : DecOk gf) : CallOk W Try.prog nt o (decW W.W x d) := by
  intro s m g f a w Q hgood h
  unfold decW at hgood ⊢
  split at hgood <;> try exact hgood.elim
  rename_i q n c hx
  obtain ⟨h1, h3⟩ := of_yes (hgood none 0)
  obtain ⟨h4, h5⟩ := row_rowZ h1
  refine call_wp hop h.slots rfl (l := [.one (.sl q n c)]) ?_ hfn (dec_at hc (h4.old h.old) h5 h3) ?_
  · simp only [evalList, evalO, hx]
  · rintro en w' ⟨a', c', rfl, hown, hb⟩
    refine ⟨_, rfl, a', c', rfl, f, ?_⟩
    rw [hdst]
    exact h.callOwn hb hd (o := decR' a' n c' (byL W.W q n)) hown
theorem same_at {w : World} {a b : Option Addr} {n c k e : Nat} {es : List Ent} (ha : RowE w a n c es) (hb : RowE w b k e es) : Calls Try.prog 11 #[.slice a n c, .slice b k e] w fun en w' => en = .returned (.bool true) ∧ Below w.heap.size w w' := by
  have : k = n := ha.len ▸ hb.len.symm
  subst this
  exact same11 ha hb
noncomputable def sameO (i j x y d : Nat) (s : SL) (m : Mem) (g : Gh) : RG := match Go.Sx.look s x, Go.Sx.look s y, g[i]?, g[j]? with
  | some (.one (.sl a n c)), some (.one (.sl b k e)), some o, some p => .leaf .nrm (.sym (yes (OkE o a n c ∧ OkE p b k e ∧ unE o.xs = unE p.xs))) (putS (some d) (.one (.bool (.lit true))) s) m g
  | _, _, _, _ => .fail
theorem named11 : Named 11 := ⟨Try.f11, Try.func11, by kernel_rfl, by kernel_rfl⟩
theorem sameO_ok (hdst : o.dst = some d) (hop : callOf o = some (.func 11, [.tmp x, .tmp y])) (hd : d < nt) : CallOk W Try.prog nt o (sameO i j x y d) := by
  intro s m g f a w Q hgood h
  unfold sameO at hgood ⊢
  split at hgood <;> try exact hgood.elim
  rename_i q n c r k e o1 p1 hx hy hi hj
  obtain ⟨h1, h2, h3⟩ := of_yes (p := OkE o1 q n c ∧ OkE p1 r k e ∧ unE o1.xs = unE p1.xs) hgood
  have hr1 := h1.row (h.gh.own i o1 hi)
  have hr2 := h2.row (h.gh.own j p1 hj)
  rw [← h3] at hr2
  refine call_wp hop h.slots rfl (l := [.one (.sl q n c), .one (.sl r k e)]) ?_ named11 (same_at hr1 hr2) ?_
  · simp only [evalList, evalO, hx, hy]
  · rintro en w' ⟨he, hb⟩
    refine ⟨_, he, rfl, f, ?_⟩
    rw [hdst]
    exact h.call hb hd (v := .one (.bool (.lit true))) rfl
noncomputable def sameW (W : World) (i x y d : Nat) (s : SL) (m : Mem) (g : Gh) : RG := match Go.Sx.look s x, Go.Sx.look s y, g[i]? with
  | some (.one (.sl a n c)), some (.one (.sl b k e)), some o => .leaf .nrm (.sym (yes (OkE o a n c ∧ RowS W b k e ∧ unE o.xs = entL W b k))) (putS (some d) (.one (.bool (.lit true))) s) m g
  | _, _, _ => .fail
theorem sameW_ok (hdst : o.dst = some d) (hop : callOf o = some (.func 11, [.tmp x, .tmp y])) (hd : d < nt) : CallOk W Try.prog nt o (sameW W.W i x y d) := by
  intro s m g f a w Q hgood h
  unfold sameW at hgood ⊢
  split at hgood <;> try exact hgood.elim
  rename_i q n c r k e o1 hx hy hi
  obtain ⟨h1, h2, h3⟩ := of_yes (p := OkE o1 q n c ∧ RowS W.W r k e ∧ unE o1.xs = entL W.W r k) hgood
  have hr1 := h1.row (h.gh.own i o1 hi)
  have hr2 := h2.rowE.old h.old
  rw [← h3] at hr2
  refine call_wp hop h.slots rfl (l := [.one (.sl q n c), .one (.sl r k e)]) ?_ named11 (same_at hr1 hr2) ?_
  · simp only [evalList, evalO, hx, hy]
  · rintro en w' ⟨he, hb⟩
    refine ⟨_, he, rfl, f, ?_⟩
    rw [hdst]
    exact h.call hb hd (v := .one (.bool (.lit true))) rfl
end
theorem okZ_enc {a : Option Addr} {n c : Nat} {es : List Ent} : OkZ (encR' a n c es) a (4 * min n 65536) c ∧ Ctl (unB (encR' a n c es).xs) ∧ 4 * min n 65536 ≤ 1000000 := by
  refine ⟨okZ_mk, ?_, by omega⟩
  unfold encR'
  rw [unB_bys]
  exact ctl_enc _
theorem okE_dec {a : Option Addr} {n c : Nat} {zs : List Int} : OkE (decR' a n c zs) a (cnt n) c := okE_mk
theorem rt {a a' : Option Addr} {n c c' : Nat} {es : List Ent} (hn : es.length = n) (h : n ≤ 65536) : unE (decR' a (4 * min n 65536) c (unB (encR' a' n c' es).xs)).xs = es := by
  unfold decR' encR'
  dsimp only
  rw [unE_ents, unB_bys, Nat.min_eq_left h]
  have hc : cnt (4 * n) = n := by unfold cnt; omega
  rw [hc, List.take_of_length_le (by omega), ← hn, dec_enc_all]
end Go.Proofs.Ytdfplmkaaodblaa.dc
