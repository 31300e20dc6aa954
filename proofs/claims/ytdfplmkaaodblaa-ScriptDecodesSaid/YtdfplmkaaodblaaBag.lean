/- Calls that hand back own rows of bytes or entries; what is read there. -/
import Derived.Test.YtdfplmkaaodblaaKnown
namespace Go.Proofs.Ytdfplmkaaodblaa.dc
open Go Go.Sx Go.RowKit
set_option maxRecDepth 100000
def insSh : List CSh := [.bool, .bool, .bool, .bool, .bool, .bool, .bool, .bool, .int .u8, .int .u8]
theorem rows_rowS {W : World} {a : Option Addr} {n c : Nat} (h : RowsOk W insSh a n c) : RowS W a n c := by
  refine ⟨h.le, h.max, h.nil, ?_, ?_⟩
  · intro j hj i hi
    have h1 := h.at_ j hj i .bool
    rw [show insSh.length = 10 from rfl, Nat.mul_comm] at h1
    refine h1 ?_
    rcases i with _ | _ | _ | _ | _ | _ | _ | _ | i <;> first | rfl | omega
  · intro j hj i hi
    have h1 := h.at_ j hj i (.int .u8)
    rw [show insSh.length = 10 from rfl, Nat.mul_comm] at h1
    refine (h1 ?_).1
    rcases hi with rfl | rfl <;> rfl
theorem isBool_cell {W : World} {q : Addr} (h : isBool W q = true) : W.cell? q = some (.bool (rdBool W q)) := by
  unfold isBool at h
  unfold rdBool
  split at h
  · rename_i b hb
    rw [hb]
  · cases h
theorem isInt_cell {W : World} {k : IntKind} {q : Addr} (h : isInt W k q = true) : W.cell? q = some (.int k (rdInt W q)) := by
  unfold isInt at h
  unfold rdInt
  split at h
  · rename_i k' n hb
    rw [hb, of_decide_eq_true h]
  · cases h
theorem isBool_of {W : World} {q : Addr} {b : Bool} (h : W.cell? q = some (.bool b)) : isBool W q = true ∧ rdBool W q = b := by
  unfold isBool rdBool
  rw [h]
  exact ⟨rfl, rfl⟩
theorem isInt_of {W : World} {k : IntKind} {q : Addr} {n : Int} (h : W.cell? q = some (.int k n)) : isInt W k q = true ∧ rdInt W q = n := by
  unfold isInt rdInt
  rw [h]
  exact ⟨decide_eq_true rfl, rfl⟩
/-- A row that came in lies as it lay. -/
theorem RowS.old {W w : World} (ho : Old W w) {a : Option Addr} {n c : Nat} (h : RowS W a n c) : RowS w a n c ∧ ∀ k, k ≤ n → encL w a k = encL W a k := by
  have hf : ∀ j, j < n → ∀ i, i < 8 → w.cell? ((a.getD default).add (10 * j + i)) = some (.bool (rdBool W ((a.getD default).add (10 * j + i)))) := fun j hj i hi => ho.cell (isBool_cell (h.flag j hj i hi))
  have hb : ∀ j, j < n → ∀ i, i = 8 ∨ i = 9 → w.cell? ((a.getD default).add (10 * j + i)) = some (.int .u8 (rdInt W ((a.getD default).add (10 * j + i)))) := fun j hj i hi => ho.cell (isInt_cell (h.byte j hj i hi))
  refine ⟨⟨h.le, h.max, h.nil, fun j hj i hi => (isBool_of (hf j hj i hi)).1, fun j hj i hi => (isInt_of (hb j hj i hi)).1⟩, ?_⟩
  intro k
  induction k with
  | zero => intro _; rfl
  | succ k ih =>
    intro hk
    rw [encL, encL, ih (by omega)]
    have e1 : ∀ i, i < 8 → rb w a (k : Int) i = rb W a (k : Int) i := fun i hi => by
      unfold rb
      rw [ea_eq]
      exact (isBool_of (hf k (by omega) i hi)).2
    have e2 : ∀ i, i = 8 ∨ i = 9 → ri w a (k : Int) i = ri W a (k : Int) i := fun i hi => by
      unfold ri
      rw [ea_eq]
      exact (isInt_of (hb k (by omega) i hi)).2
    unfold encP cw
    rw [e1 0 (by decide), e1 1 (by decide), e1 2 (by decide), e1 3 (by decide), e1 4 (by decide), e1 5 (by decide), e1 6 (by decide), e1 7 (by decide), e2 8 (.inl rfl), e2 9 (.inr rfl)]
open Classical in
noncomputable def rowS (W : World) (a : Option Addr) (n c : Nat) : Bool := decide (RowS W a n c)
noncomputable def eF (W : World) (x d : Nat) (s : SL) (m : Mem) (g : Gh) : RG :=
  match Go.Sx.look s x with
  | some (.one (.sl a n c)) => .any fun a' c' => .leaf .nrm (.sym (rowS W a n c)) (putS (some d) (.one (.sl a' (4 * min n 65536) c')) s) m (g ++ [⟨5, 1, a', 4 * min n 65536, c', encL W a (min n 65536)⟩])
  | _ => .fail
theorem enc_call {W : World} {nt : Nat} {ops : Array Oper} {gf k x d : Nat} {o : Oper} (ho : ops.toList[k]? = some o) (hg : o.guard = none) (hdst : o.dst = some d) (hop : callOf o = some (.func gf, [.tmp x])) (hd : d < nt)
    (hfn : ∃ fn, Try.prog.funcs[gf]? = some fn ∧ (fn.name == "runtime.NumGoroutine") = false ∧ fn.body.isNone = false)
    (hc : ∀ {W : World} {a : Option Addr} {n c : Nat}, RowS W a n c → Calls Try.prog gf #[.slice a n c] W fun en w' => ∃ a' c', en = .returned (.slice a' (4 * min n 65536) c') ∧ w'.ownsRow W.heap.size 5 1 (.slice a' (4 * min n 65536) c') (4 * min n 65536) ((encL W a (min n 65536)).map (SV.den fun _ => 0)) ∧ Below W.heap.size W w') :
    CallGOk W Try.prog nt ops ⟨k, eF W x d⟩ := by
  refine ⟨o, ho, .inl hg, ?_⟩
  intro s m g f a w Q hgood h
  unfold eF at hgood ⊢
  dsimp only at hgood ⊢
  split at hgood <;> try exact hgood.elim
  rename_i q n c hx
  have hr : RowS W q n c := by
    have : rowS W q n c = true := hgood none 0
    unfold rowS at this
    exact @of_decide_eq_true _ (Classical.propDecidable _) this
  obtain ⟨hr', he⟩ := hr.old h.old
  refine call_wp hop h.slots rfl (l := [.one (.sl q n c)]) ?_ hfn (hc hr') ?_
  · simp only [evalList, evalO, hx]
  · rintro en w' ⟨a', c', rfl, hown, hb⟩
    refine ⟨_, rfl, a', c', rfl, f, ?_⟩
    rw [he _ (Nat.min_le_left _ _)] at hown
    rw [hdst]
    exact h.callOwn hb hd (o := ⟨5, 1, a', 4 * min n 65536, c', encL W q (min n 65536)⟩) hown
/-- What lies in an own row is read there. -/
theorem owns_reads {w : World} {B e size : Nat} {a : Option Addr} {n c : Nat} {xs : List Value} (h : w.ownsRow B e size (.slice a n c) n xs) (hn : 0 < n) : ∃ b, a = some ⟨b, 0, none⟩ ∧ ∀ (j : Nat) (u : Value), xs[j]? = some u → w.cell? ⟨b, j, none⟩ = some u := by
  obtain ⟨h1, h2 | ⟨b, cap, cur, h3, h4⟩⟩ := h
  · omega
  · have e : (Value.slice a n c).ownBlock = some b := by rw [h3]; rfl
    have ha : a = some ⟨b, 0, none⟩ := by injection h3
    have hrow : w.ownsRow B _ _ (.slice a n c) n xs := ⟨h1, .inr ⟨b, cap, cur, h3, h4⟩⟩
    refine ⟨b, ha, fun j u hj => ?_⟩
    have h5 := World.ownsRow.cells hrow e j u hj
    rw [show (⟨b, j, none⟩ : Addr) = (⟨b, 0, none⟩ : Addr).add j by simp [Addr.add]]
    exact h5
theorem owns_none {w : World} {B e size : Nat} {n c : Nat} {xs : List Value} (h : w.ownsRow B e size (.slice none n c) n xs) : n = 0 := by
  obtain ⟨_, h2 | ⟨b, cap, cur, h3, _⟩⟩ := h
  · exact h2.2
  · cases h3
/-- An own row of bytes. -/
def Bytes (xs : List SV) : Prop := ∃ zs : List Int, xs.map (SV.den fun _ => 0) = zs.map (Value.int .u8)
theorem owns_bytes {w : World} {B : Nat} {a : Option Addr} {n c : Nat} {zs : List Int} (h : w.ownsRow B 5 1 (.slice a n c) n (zs.map (Value.int .u8))) : BytesAt w a n zs := by
  have hl := h.1
  rw [List.length_map, Nat.mul_one] at hl
  refine ⟨hl, ?_, ?_⟩
  · rintro rfl
    exact owns_none h
  · intro q hq
    subst hq
    by_cases hn : 0 < n
    · obtain ⟨b, hb, hr⟩ := owns_reads h hn
      simp only [Option.some.injEq] at hb
      subst hb
      refine ⟨rfl, fun i hi => ?_⟩
      dsimp only
      rw [Nat.zero_add]
      refine hr i _ ?_
      rw [List.getElem?_map, List.getD, List.getElem?_eq_getElem (by omega)]
      rfl
    · obtain ⟨_, ⟨h2, _⟩ | ⟨b, cap, cur, h3, _⟩⟩ := h
      · cases h2
      · injection h3 with h4
        simp only [Option.some.injEq] at h4
        subst h4
        exact ⟨rfl, fun i hi => by omega⟩
noncomputable def sameC (o p : Own) (a : Option Addr) (n c : Nat) (b : Option Addr) (k d : Nat) : Bool :=
  @decide ((a = o.a ∧ n = o.n ∧ c = o.c ∧ b = p.a ∧ k = p.n ∧ d = p.c) ∧ o.e = 5 ∧ o.size = 1 ∧ p.e = 5 ∧ p.size = 1 ∧ p.xs = o.xs ∧ Bytes o.xs) (Classical.propDecidable _)
noncomputable def sF (x y d i j : Nat) (s : SL) (m : Mem) (g : Gh) : RG :=
  match Go.Sx.look s x, Go.Sx.look s y, g[i]?, g[j]? with
  | some (.one (.sl a n c)), some (.one (.sl b k e)), some o, some p => .leaf .nrm (.sym (sameC o p a n c b k e)) (putS (some d) (.one (.bool (.lit true))) s) m g
  | _, _, _, _ => .fail
theorem same_call {W : World} {nt : Nat} {ops : Array Oper} {k x y d i j : Nat} {o : Oper} (ho : ops.toList[k]? = some o) (hg : o.guard = none) (hdst : o.dst = some d) (hop : callOf o = some (.func 16, [.tmp x, .tmp y])) (hd : d < nt) :
    CallGOk W Try.prog nt ops ⟨k, sF x y d i j⟩ := by
  refine ⟨o, ho, .inl hg, ?_⟩
  intro s m g f a w Q hgood h
  unfold sF at hgood ⊢
  dsimp only at hgood ⊢
  split at hgood <;> try exact hgood.elim
  rename_i q n c r k' e o1 p1 hx hy hi hj
  simp only [RG.Good, SB.val_sym] at hgood
  have hs := hgood
  unfold sameC at hs
  obtain ⟨⟨rfl, rfl, rfl, rfl, rfl, rfl⟩, e1, e2, e3, e4, e5, zs, hz⟩ := @of_decide_eq_true _ (Classical.propDecidable _) hs
  have h1 := h.gh.own i o1 hi
  have h2 := h.gh.own j p1 hj
  unfold Own.rel Own.vals Own.v at h1 h2
  rw [e1, e2, hz] at h1
  rw [e3, e4, e5, hz] at h2
  have b1 := owns_bytes h1
  have b2 := owns_bytes h2
  have hfn : ∃ fn, Try.prog.funcs[16]? = some fn ∧ (fn.name == "runtime.NumGoroutine") = false ∧ fn.body.isNone = false := ⟨Try.f16, Try.func16, by kernel_rfl, by kernel_rfl⟩
  have hn : p1.n = o1.n := by rw [← b1.len, ← b2.len]
  have hcalls : Calls Try.prog 16 #[.slice o1.a o1.n o1.c, .slice p1.a p1.n p1.c] w fun en w' => en = .returned (.bool true) ∧ Below w.heap.size w w' := by
    rw [hn] at b2 ⊢
    exact same16 b1 b2
  have hl : evalList (Go.Sx.look s) [.tmp x, .tmp y] = some [.one (.sl o1.a o1.n o1.c), .one (.sl p1.a p1.n p1.c)] := by simp only [evalList, evalO, hx, hy]
  refine call_wp (g := 16) hop h.slots rfl hl hfn hcalls ?_
  rintro en w' ⟨he, hb⟩
  refine ⟨_, he, rfl, f, ?_⟩
  rw [hdst]
  exact h.call hb hd (v := .one (.bool (.lit true))) rfl
theorem encL_bytes (W : World) (a : Option Addr) : ∀ k, Bytes (encL W a k)
  | 0 => ⟨[], rfl⟩
  | k + 1 => by
    obtain ⟨zs, hz⟩ := encL_bytes W a k
    refine ⟨zs ++ [cw W a k, ri W a k 8, ri W a k 9, chk (cw W a k) (ri W a k 8) (ri W a k 9)], ?_⟩
    rw [encL, List.map_append, hz, List.map_append]
    rfl
end Go.Proofs.Ytdfplmkaaodblaa.dc
