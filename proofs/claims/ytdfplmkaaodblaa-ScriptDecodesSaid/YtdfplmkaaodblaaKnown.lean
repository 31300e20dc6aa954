/- The fixed example of the chapter is true. -/
import Derived.Test.YtdfplmkaaodblaaSame
namespace Go.Proofs.Ytdfplmkaaodblaa.dc
open Go Go.Sx Go.RowKit
set_option maxRecDepth 100000
noncomputable def body8 : Code := match Try.f8.body with
  | some c => c
  | none => .skip
noncomputable def r2 : Code := match body8 with
  | .seq _ (.seq _ r) => r
  | _ => .skip
noncomputable def ops8 : Array Oper := match body8 with
  | .seq _ (.seq (.region _ ops _) _) => ops
  | _ => #[]
def E0 (W : World) (a : Option Addr) (i : Int) (x0 x1 : Bool) (y z : Int) : Bool := rb W a i 0 == x0 && (rb W a i 1 == x1 && (rb W a i 2 == false && (rb W a i 3 == false && (rb W a i 4 == false && (rb W a i 5 == false && (rb W a i 6 == false && (rb W a i 7 == false && (ri W a i 8 == y && ri W a i 9 == z))))))))
def V1 (W : World) (a : Option Addr) : Bool := inRow a 3 0 && lies W a 0
def V2 (W : World) (a : Option Addr) : Bool := inRow a 3 0 && (lies W a 0 && (inRow a 3 1 && lies W a 1))
def V3 (W : World) (a : Option Addr) : Bool := inRow a 3 0 && (lies W a 0 && (inRow a 3 1 && (lies W a 1 && (inRow a 3 2 && lies W a 2))))
theorem round8 (W : World) (a : Option Addr) (c : Nat) : (run Try.prog W (G0 W) 100000 (.code r2) ⟨28, [], noMem⟩ [(1, .one (.sl a 3 c))] ⟨[], [], 0⟩).slim 0 [] [] [(0, true)] [] =
    RL.leaf .ret (.sym (bif ((3 : Int) == 3) then bif E0 W a 0 true false 0 0 then bif E0 W a 1 true true 1 9 then V3 W a else V2 W a else V1 W a else true))
      [(0, .one (.bool (.sym (bif ((3 : Int) == 3) then bif E0 W a 0 true false 0 0 then bif E0 W a 1 true true 1 9 then E0 W a 2 true false 0 0 else false else false else false))))] [] := by kernel_rfl
def K8 : List Int := [0, 0, 0, 165, 2, 1, 9, 175, 1, 0, 0, 0, 7]
def inV (x0 x1 : Bool) (y z : Int) : List SV := [.bool (.lit x0), .bool (.lit x1), .bool (.lit false), .bool (.lit false), .bool (.lit false), .bool (.lit false), .bool (.lit false), .bool (.lit false), .int .u8 (.lit y), .int .u8 (.lit z)]
def L8 : List SV := inV true false 0 0 ++ (inV true true 1 9 ++ inV true false 0 0)
def eqLits : List SV → List Int → Bool
  | [], [] => true
  | .int .u8 (.lit x) :: r, y :: q => decide (x = y) && eqLits r q
  | _, _ => false
theorem eqLits_get : ∀ {l : List SV} {q : List Int}, eqLits l q = true → ∀ (j : Nat) (y : Int), q[j]? = some y → l[j]? = some (SV.int .u8 (.lit y))
  | [], [], _, j, y, h => by simp at h
  | .int .u8 (.lit x) :: r, y :: q, h, j, z, hj => by
    simp only [eqLits, Bool.and_eq_true, decide_eq_true_eq] at h
    cases j with
    | zero => simp only [List.getElem?_cons_zero, Option.some.injEq] at hj ⊢; rw [h.1, hj]
    | succ j => simp only [List.getElem?_cons_succ] at hj ⊢; exact eqLits_get h.2 j z hj
  | [], _ :: _, h, _, _, _ => by simp [eqLits] at h
def dF (x d : Nat) (s : SL) (m : Mem) (g : Gh) : RG :=
  match Go.Sx.look s x with
  | some (.one (.row b 0 13 13)) => match rangeC m.get b 0 13 with
    | some cells => match eqLits cells K8 with
      | true => .any fun a' c' => .leaf .nrm (.lit true) (putS (some d) (.one (.sl a' 3 c')) s) m (g ++ [⟨32, 10, a', 3, c', L8⟩])
      | false => .fail
    | none => .fail
  | _ => .fail
theorem decS_K8 {w : World} {q : Addr} (hq : ∀ (j : Nat) (y : Int), K8[j]? = some y → w.cell? (q.add j) = some (.int .u8 y)) : (decS w (some q) 3).map (SV.den fun _ => 0) = L8.map (SV.den fun _ => 0) := by
  have hb : ∀ (j : Nat) (y x : Int), K8[j]? = some y → x = (j : Int) → bt w (some q) x = y := by
    intro j y x hj hx
    unfold bt atRow rdInt
    rw [hx, show (j : Int).toNat * 1 = j by omega, Option.getD_some, hq j y hj]
  have e : decS w (some q) 3 = (([] ++ entS (bt w (some q) (4 * ((0 : Nat) : Int))) (bt w (some q) (4 * ((0 : Nat) : Int) + 1)) (bt w (some q) (4 * ((0 : Nat) : Int) + 2)) (bt w (some q) (4 * ((0 : Nat) : Int) + 3))) ++
      entS (bt w (some q) (4 * ((1 : Nat) : Int))) (bt w (some q) (4 * ((1 : Nat) : Int) + 1)) (bt w (some q) (4 * ((1 : Nat) : Int) + 2)) (bt w (some q) (4 * ((1 : Nat) : Int) + 3))) ++
      entS (bt w (some q) (4 * ((2 : Nat) : Int))) (bt w (some q) (4 * ((2 : Nat) : Int) + 1)) (bt w (some q) (4 * ((2 : Nat) : Int) + 2)) (bt w (some q) (4 * ((2 : Nat) : Int) + 3)) := rfl
  rw [e, hb 0 0 _ rfl (by omega), hb 1 0 _ rfl (by omega), hb 2 0 _ rfl (by omega), hb 3 165 _ rfl (by omega), hb 4 2 _ rfl (by omega), hb 5 1 _ rfl (by omega), hb 6 9 _ rfl (by omega), hb 7 175 _ rfl (by omega),
    hb 8 1 _ rfl (by omega), hb 9 0 _ rfl (by omega), hb 10 0 _ rfl (by omega), hb 11 0 _ rfl (by omega)]
  first | rfl | exact (by kernel_rfl)
noncomputable def o8 : Oper := match ops8.toList[1]? with
  | some o => o
  | none => { dst := none, op := .assign (.tmp 0), type := 0, pos := "", after := #[], guard := none }
theorem call8 (W : World) : CallGOk W Try.prog 28 ops8 ⟨1, dF 2 3⟩ := by
  refine ⟨o8, by kernel_rfl, .inl (by kernel_rfl), ?_⟩
  intro s m g f a w Q hgood h
  unfold dF at hgood ⊢
  dsimp only at hgood ⊢
  split at hgood <;> try exact hgood.elim
  rename_i b hx
  split at hgood <;> try exact hgood.elim
  rename_i cells hcells
  split at hgood <;> try exact hgood.elim
  rename_i heq
  have hl := (rangeC_get hcells).2
  have hq : ∀ (j : Nat) (y : Int), K8[j]? = some y → w.cell? ((⟨f b, 0, none⟩ : Addr).add j) = some (.int .u8 y) := by
    intro j y hj
    have h1 := h.mem.cell b (0 + j) _ (hl j _ (eqLits_get heq j y hj))
    rw [Nat.zero_add] at h1
    rw [show (⟨f b, 0, none⟩ : Addr).add j = ⟨f b, j, none⟩ by simp [Addr.add]; intro h0; exact h0.symm]
    exact h1
  have hr : RowOk w .u8 (some ⟨f b, 0, none⟩) 13 13 := by
    refine ⟨Nat.le_refl _, by decide, fun h => (by cases h), ?_⟩
    intro j hj
    have hk : ∃ y, K8[j]? = some y ∧ IntKind.u8.min ≤ y ∧ y ≤ IntKind.u8.max := by
      have : ∀ j < 13, ∃ y, K8[j]? = some y ∧ IntKind.u8.min ≤ y ∧ y ≤ IntKind.u8.max := by
        intro j hj
        match j, hj with
        | 0, _ => exact ⟨_, rfl, by decide, by decide⟩
        | 1, _ => exact ⟨_, rfl, by decide, by decide⟩
        | 2, _ => exact ⟨_, rfl, by decide, by decide⟩
        | 3, _ => exact ⟨_, rfl, by decide, by decide⟩
        | 4, _ => exact ⟨_, rfl, by decide, by decide⟩
        | 5, _ => exact ⟨_, rfl, by decide, by decide⟩
        | 6, _ => exact ⟨_, rfl, by decide, by decide⟩
        | 7, _ => exact ⟨_, rfl, by decide, by decide⟩
        | 8, _ => exact ⟨_, rfl, by decide, by decide⟩
        | 9, _ => exact ⟨_, rfl, by decide, by decide⟩
        | 10, _ => exact ⟨_, rfl, by decide, by decide⟩
        | 11, _ => exact ⟨_, rfl, by decide, by decide⟩
        | 12, _ => exact ⟨_, rfl, by decide, by decide⟩
      exact this j hj
    obtain ⟨y, hy, h1, h2⟩ := hk
    have h3 := hq j y hy
    simp only [Option.getD_some, isInt, rdInt, h3, decide_true, true_and]
    exact ⟨h1, h2⟩
  refine call_wp (x := .func 12) (ys := [.tmp 2]) (by kernel_rfl) h.slots rfl (l := [.one (.row b 0 13 13)]) ?_ ⟨Try.f12, Try.func12, by kernel_rfl, by kernel_rfl⟩ (dec12 (W := w) (row_rowB hr)) ?_
  · simp only [evalList, evalO, hx]
  · rintro en w' ⟨a', c', rfl, hown, hb⟩
    refine ⟨_, rfl, a', c', rfl, f, ?_⟩
    have hc : cnt 13 = 3 := by decide
    rw [hc] at hown ⊢
    rw [decS_K8 hq] at hown
    rw [show o8.dst = some 3 by kernel_rfl]
    exact h.callOwn hb (by decide) (o := ⟨32, 10, a', 3, c', L8⟩) hown
/-- What lies in an own row is read there. -/
theorem row_reads {w : World} {B : Nat} {a : Option Addr} {n c : Nat} {xs : List Value} (h : w.ownsRow B 32 10 (.slice a n c) n xs) (hn : 0 < n) : a.isSome = true ∧ ∀ j u, xs[j]? = some u → w.cell? ((a.getD default).add j) = some u := by
  obtain ⟨h1, h2 | ⟨b, cap, cur, h3, h4⟩⟩ := h
  · omega
  · have e : (Value.slice a n c).ownBlock = some b := by rw [h3]; rfl
    have ha : a = some ⟨b, 0, none⟩ := by injection h3
    have hrow : w.ownsRow B 32 10 (.slice a n c) n xs := ⟨h1, .inr ⟨b, cap, cur, h3, h4⟩⟩
    refine ⟨by rw [ha]; rfl, fun j u hj => ?_⟩
    rw [ha]
    exact World.ownsRow.cells hrow e j u hj
theorem entry_ok {w : World} {a : Option Addr} (hs : a.isSome = true) {k : Nat} (hk : k < 3) {x0 x1 : Bool} {y z : Int} (h : ∀ (j : Nat) (u : SV), (inV x0 x1 y z)[j]? = some u → w.cell? ((a.getD default).add (10 * k + j)) = some (u.den fun _ => 0)) :
    E0 w a (k : Int) x0 x1 y z = true ∧ inRow a 3 (k : Int) = true ∧ lies w a (k : Int) = true := by
  have h0 := h 0 _ rfl
  have h1 := h 1 _ rfl
  have h2 := h 2 _ rfl
  have h3 := h 3 _ rfl
  have h4 := h 4 _ rfl
  have h5 := h 5 _ rfl
  have h6 := h 6 _ rfl
  have h7 := h 7 _ rfl
  have h8 := h 8 _ rfl
  have h9 := h 9 _ rfl
  simp only [SV.den] at h0 h1 h2 h3 h4 h5 h6 h7 h8 h9
  refine ⟨?_, ?_, ?_⟩
  · unfold E0 rb ri rdBool rdInt
    simp only [ea_eq, h0, h1, h2, h3, h4, h5, h6, h7, h8, h9, SB.val_lit, beq_self_eq_true, Bool.and_self, SI.val]
  · unfold inRow
    rw [hs, decide_eq_true (show (0 : Int) ≤ (k : Int) by omega), decide_eq_true (show (k : Int) < ((3 : Nat) : Int) by omega)]
    rfl
  · unfold lies isBool isInt
    simp only [ea_eq, h0, h1, h2, h3, h4, h5, h6, h7, h8, h9, decide_true, Bool.and_self]
theorem L8_get {k j : Nat} {u v : SV} (l : List SV) (hl : l[j]? = some u) (h : L8[10 * k + j]? = some v) (e : L8[10 * k + j]? = l[j]?) : v = u := by
  rw [e, hl] at h
  exact (Option.some.inj h).symm
noncomputable def F8b (s : SL) (_ : Mem) (g : Gh) : RG :=
  match Go.Sx.look s 1, g with
  | some (.one (.sl a n c)), [o] => .leaf .ret (.sym (@decide (n = 3 ∧ o = ⟨32, 10, a, 3, c, L8⟩) (Classical.propDecidable _))) [(0, .one (.bool (.lit true)))] ⟨[], [], 0⟩ []
  | _, _ => .fail
theorem cust8b (W : World) : CustOk W Try.prog 28 r2 F8b := by
  intro s m g f a w hgood h
  unfold F8b at hgood ⊢
  split at hgood <;> try exact hgood.elim
  rename_i q n c o hx
  simp only [RG.Good, SB.val_sym, decide_eq_true_eq] at hgood
  obtain ⟨rfl, rfl⟩ := hgood
  have hown : w.ownsRow W.heap.size 32 10 (.slice q 3 c) 3 (L8.map (SV.den fun _ => 0)) := h.gh.own 0 _ rfl
  obtain ⟨hs, hcell⟩ := row_reads hown (by decide)
  have hrd : ∀ (j : Nat) (u : SV), L8[j]? = some u → w.cell? ((q.getD default).add j) = some (u.den fun _ => 0) := fun j u hj => hcell j _ (by rw [List.getElem?_map, hj]; rfl)
  have e0 := entry_ok (w := w) hs (k := 0) (by decide) (x0 := true) (x1 := false) (y := 0) (z := 0) (fun j u hj => hrd (10 * 0 + j) u (by
    rw [show L8 = inV true false 0 0 ++ (inV true true 1 9 ++ inV true false 0 0) from rfl, show 10 * 0 + j = j by omega, List.getElem?_append_left (by have := (List.getElem?_eq_some_iff.1 hj).1; exact this)]; exact hj))
  have e1 := entry_ok (w := w) hs (k := 1) (by decide) (x0 := true) (x1 := true) (y := 1) (z := 9) (fun j u hj => hrd (10 * 1 + j) u (by
    have hlt : j < 10 := (List.getElem?_eq_some_iff.1 hj).1
    rw [show L8 = inV true false 0 0 ++ (inV true true 1 9 ++ inV true false 0 0) from rfl, List.getElem?_append_right (by show 10 ≤ _; omega), show 10 * 1 + j - (inV true false 0 0).length = j by show 10 * 1 + j - 10 = j; omega, List.getElem?_append_left hlt]; exact hj))
  have e2 := entry_ok (w := w) hs (k := 2) (by decide) (x0 := true) (x1 := false) (y := 0) (z := 0) (fun j u hj => hrd (10 * 2 + j) u (by
    rw [show L8 = inV true false 0 0 ++ (inV true true 1 9 ++ inV true false 0 0) from rfl, List.getElem?_append_right (by show 10 ≤ _; omega), show 10 * 2 + j - (inV true false 0 0).length = 10 + j by show 10 * 2 + j - 10 = 10 + j; omega,
      List.getElem?_append_right (by show 10 ≤ _; omega), show 10 + j - (inV true true 1 9).length = j by show 10 + j - 10 = j; omega]; exact hj))
  have r := round8 w q c
  have hget : ((run Try.prog w (G0 w) 100000 (.code r2) ⟨28, [], noMem⟩ [(1, .one (.sl q 3 c))] ⟨[], [], 0⟩).slim 0 [] [] [(0, true)] []).get =
      some (.ret, .sym (bif ((3 : Int) == 3) then bif E0 w q 0 true false 0 0 then bif E0 w q 1 true true 1 9 then V3 w q else V2 w q else V1 w q else true),
        [(0, .one (.bool (.sym (bif ((3 : Int) == 3) then bif E0 w q 0 true false 0 0 then bif E0 w q 1 true true 1 9 then E0 w q 2 true false 0 0 else false else false else false))))], []) := by
    rw [r]; rfl
  obtain ⟨s1, m1, h1, h2, h3⟩ := Sx.slim_get hget
  have hv : (bif ((3 : Int) == 3) then bif E0 w q 0 true false 0 0 then bif E0 w q 1 true true 1 9 then V3 w q else V2 w q else V1 w q else true) = true := by
    have a1 : E0 w q 0 true false 0 0 = true := e0.1
    have a2 : E0 w q 1 true true 1 9 = true := e1.1
    have b0 : inRow q 3 0 = true := e0.2.1
    have b1 : inRow q 3 1 = true := e1.2.1
    have b2 : inRow q 3 2 = true := e2.2.1
    have l0 : lies w q 0 = true := e0.2.2
    have l1 : lies w q 1 = true := e1.2.2
    have l2 : lies w q 2 = true := e2.2.2
    unfold V3
    rw [a1, a2, b0, b1, b2, l0, l1, l2]
    rfl
  have hval : (bif ((3 : Int) == 3) then bif E0 w q 0 true false 0 0 then bif E0 w q 1 true true 1 9 then E0 w q 2 true false 0 0 else false else false else false) = true := by
    have a1 : E0 w q 0 true false 0 0 = true := e0.1
    have a2 : E0 w q 1 true true 1 9 = true := e1.1
    have a3 : E0 w q 2 true false 0 0 = true := e2.1
    rw [a1, a2, a3]
    rfl
  have hm : MOk w (fun _ => False) (fun _ => 0) (⟨[], [], 0⟩ : Mem) w := by
    refine ⟨?_, ?_, ?_, ?_, ?_, ?_⟩ <;> intro b <;> simp [Sx.look, Mem.get, findC]
  have hrel : Rel w w (fun _ => False) 28 [(1, .one (.sl q 3 c))] ⟨[], [], 0⟩ (fun _ => 0) a w := by
    refine ⟨h.size, h.defers, ?_, hm, rfl, rfl, rfl, Nat.le_refl _, fun _ _ _ => rfl, .refl w, fun _ h => h.elim⟩
    intro t v hv hne
    rw [look_cons] at hv
    split at hv
    · rename_i ht
      simp only [Option.some.injEq] at hv
      subst ht hv
      exact h.slots 1 _ hx (by simp)
    · simp [Sx.look] at hv
  have hsnd := (sound (gok0 w) (fun n hS => draw_sound (gok0 w) n hS) 100000).code w (fun _ => False) r2 ⟨28, [], noMem⟩ [(1, .one (.sl q 3 c))] ⟨[], [], 0⟩ (fun _ => 0) a w ⟨_, _, _, _, h1, hv⟩ (by rw [List.append_nil, on_noMem]; exact hrel)
  refine wp_mono hsnd ?_
  rintro e a1 w1 ⟨ex, v, s2, m2, f2, hr2, hex, hrel2, _, _⟩
  rw [h1] at hr2
  simp only [Option.some.injEq, Prod.mk.injEq] at hr2
  obtain ⟨rfl, rfl, rfl, rfl⟩ := hr2
  rw [List.append_nil, on_noMem] at hrel2
  have hp := pickS_rel hrel2.slots [(0, true)]
  have hpe : pickS (Sx.look s1) [(0, true)] = [(0, .one (.bool (.sym true)))] := by
    have := h2.symm
    simp only [Ex.sel] at this
    rw [this, hval]
  rw [hpe] at hp
  refine ⟨hex, fun _ => 0, hrel2.size, hrel2.defers, ?_, ?_, fun b j hj => by simp [Sx.look] at hj, ?_, ?_, ?_, ?_, ?_⟩
  · intro t u hu hne
    rw [look_cons] at hu
    split at hu
    · rename_i ht
      simp only [Option.some.injEq] at hu
      subst ht hu
      exact hp 0 (.one (.bool (.sym true))) rfl (by simp)
    · simp [Sx.look] at hu
  · refine ⟨?_, ?_, ?_, ?_, ?_, ?_⟩ <;> intro b <;> simp [Sx.look, Mem.get, findC]
  · exact ⟨hrel2.fr.os.trans h.fr.os, hrel2.fr.tape.trans h.fr.tape, hrel2.fr.output.trans h.fr.output, Nat.le_trans h.fr.size hrel2.fr.size, fun k hk hx => (hrel2.fr.same k (by have := h.fr.size; omega) (fun h => h)).trans (h.fr.same k hk hx), (Bs.of W).base⟩
  · intro i hi; cases hi
  · intro q o ho; simp at ho
  · intro q o ho; simp at ho
  · intro q q' o p ho; simp at ho
noncomputable def F8a (W : World) : SL → Mem → Gh → RG := runCalls Try.prog W (G0 W) 100000 28 ops8 [⟨1, dF 2 3⟩] 0
theorem cust8a (W : World) : CustOk W Try.prog 28 (.region 1 ops8 false) (F8a W) := by
  refine calls_cust (W := Bs.of W) (gok0 W) ?_ (by simp)
  intro c hc
  simp only [List.mem_cons, List.not_mem_nil, or_false] at hc
  subst hc
  exact call8 W
noncomputable def t8 (W : World) : HG := .seq .plain (.seq (.cust (F8a W)) (.cust F8b))
theorem whole8 (W : World) : (runG Try.prog W (G0 W) 100000 28 (t8 W) body8 (argSlots 0 []) noMem []).slim 0 [] [] [(0, false)] [] =
    .any fun a' c' => .leaf .ret (.sym (@decide ((3 : Nat) = 3 ∧ (⟨32, 10, a', 3, c', L8⟩ : Own) = ⟨32, 10, a', 3, c', L8⟩) (Classical.propDecidable _))) [(0, .one (.bool (.lit true)))] ⟨[], [], 0⟩ [] := by kernel_rfl
/-- The fixed example is true. -/
theorem known8 (W : World) : Calls Try.prog 8 #[] W fun en w' => en = .returned (.bool true) ∧ Below W.heap.size W w' := by
  have hcalls := calls_of_runG (gok0 W) (n := 100000) (g := 8) Try.func8 (show Try.f8.body = some body8 by kernel_rfl) (t := t8 W) (args := []) ?_ (by simp)
    (R := fun v _ => v = .one (.bool (.lit true))) (N := 0) (ks := []) (bs := []) (ke := [(0, false)]) (be := []) rfl rfl ?_
  · refine hcalls.mono ?_
    rintro en w' ⟨v, g, f, rfl, rfl, _, hbl⟩
    exact ⟨rfl, hbl⟩
  · have e : HGOk W Try.prog Try.f8.ntmps (t8 W) body8 = (True ∧ (CustOk W Try.prog 28 (.region 1 ops8 false) (F8a W) ∧ CustOk W Try.prog 28 r2 F8b)) := by kernel_rfl
    rw [e]
    exact ⟨trivial, cust8a W, cust8b W⟩
  · rw [show Try.f8.ntmps = 28 by kernel_rfl, whole8]
    intro a' c'
    exact ⟨@decide_eq_true _ (Classical.propDecidable _) ⟨rfl, rfl⟩, .inr rfl, [(false, [.bool (.lit true)])], .one (.bool (.lit true)), by kernel_rfl, rfl, rfl⟩
/-- .. as a contract within the executor. -/
theorem known_spec (W : World) : SpecOk W Try.prog 8 (specF FK) := by
  refine ⟨⟨Try.f8, Try.func8, by kernel_rfl, by kernel_rfl⟩, ?_⟩
  intro args C K e f w he _ _ _ _ _ _
  simp only [specF] at he
  split at he
  · rename_i v hv
    unfold FK at hv
    split at hv
    · simp only [Option.some.injEq] at hv he
      subst hv he
      refine ⟨by simp [Eff.pure], fun p hp => by simp [Eff.pure] at hp, ?_⟩
      refine (known8 w).mono fun en w' ⟨h1, hb⟩ => ⟨h1, ⟨hb.os, hb.tape, hb.output, hb.size, fun i hi => hb.block i hi⟩⟩
    · cases hv
  · simp at he
end Go.Proofs.Ytdfplmkaaodblaa.dc
