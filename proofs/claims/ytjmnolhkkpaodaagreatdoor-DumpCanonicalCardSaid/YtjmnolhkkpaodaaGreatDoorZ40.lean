/- A part of the proof: the reference is safe, both packages write and read alike. Several texts in one; printed by slim28.py out of the texts of wip. -/
import Derived.Test.YtjmnolhkkpaodaaGreatDoorZ39
set_option linter.all false
namespace Go.Proofs.YtjmnolhkkpaodaaGreatDoor
open Go Go.Sx Go.RowKit
set_option maxRecDepth 100000
theorem t34 : T28 true 34 = some [.int .i64 1 10, .int .u16 0 65535, .int .u8 0 255, .bool, .bool, .bool, .bool, .bool, .bool, .bool, .bool, .bool, .bool, .bool, .bool, .bool, .bool] := by kernel_rfl
theorem recs_of (n : Nat) : ∀ (xs : List Value), xs.length = n * 17 → (∀ j, j < n → ∃ st a d, (1 ≤ st ∧ st ≤ 10) ∧ (0 ≤ a ∧ a ≤ 65535) ∧ (0 ≤ d ∧ d ≤ 255) ∧ xs[j * 17 + 0]? = some (.int .i64 st) ∧ xs[j * 17 + 1]? = some (.int .u16 a) ∧ xs[j * 17 + 2]? = some (.int .u8 d) ∧ ∀ i, i < 14 → ∃ b, xs[j * 17 + (3 + i)]? = some (.bool b)) →
  ∃ l : List Rq, l.length = n ∧ xs = valsL l ∧ ∀ q ∈ l, VQ q := by
 induction n with
 | zero =>
  intro xs hx _
  exact ⟨[], rfl, by rw [List.length_eq_zero_iff.1 (show xs.length = 0 by omega)]; rfl, by simp⟩
 | succ n ih =>
  intro xs hx h
  obtain ⟨l, h1, h2, h3⟩ := ih (xs.drop 17) (by rw [List.length_drop]; omega) fun j hj => by
   obtain ⟨st, a, d, r1, r2, r3, e1, e2, e3, e4⟩ := h (j + 1) (by omega)
   refine ⟨st, a, d, r1, r2, r3, ?_, ?_, ?_, fun i hi => ?_⟩
   · rw [List.getElem?_drop, ← e1]; congr 1; omega
   · rw [List.getElem?_drop, ← e2]; congr 1; omega
   · rw [List.getElem?_drop, ← e3]; congr 1; omega
   · obtain ⟨b, e⟩ := e4 i hi
     exact ⟨b, by rw [List.getElem?_drop, ← e]; congr 1; omega⟩
  obtain ⟨st, a, d, r1, r2, r3, e1, e2, e3, e4⟩ := h 0 (by omega)
  let bf : Nat → Bool := fun i => match xs[3 + i]? with
   | some (.bool b) => b
   | _ => false
  have hb : ∀ i, i < 14 → xs[3 + i]? = some (.bool (bf i)) := by
   intro i hi
   obtain ⟨b, e⟩ := e4 i hi
   have e : xs[3 + i]? = some (.bool b) := by rw [← e]; congr 1; omega
   show xs[3 + i]? = some (.bool (match xs[3 + i]? with | some (.bool b) => b | _ => false))
   rw [e]
  refine ⟨⟨st, a, d, bf⟩ :: l, by rw [List.length_cons, h1], ?_, ?_⟩
  · have hv : valsL ((⟨st, a, d, bf⟩ : Rq) :: l) = (Rq.cells ⟨st, a, d, bf⟩).map (SV.den fun _ => 0) ++ valsL l := by
     unfold valsL cellsL
     rw [List.flatMap_cons, List.map_append]
    rw [hv, ← h2]
    conv => lhs; rw [← List.take_append_drop 17 xs]
    congr 1
    refine List.ext_getElem? fun i => ?_
    by_cases hi : i < 17
    · rw [List.getElem?_take, if_pos hi]
      match i, hi with
      | 0, _ => exact e1
      | 1, _ => exact e2
      | 2, _ => exact e3
      | 3, _ => exact hb 0 (by decide)
      | 4, _ => exact hb 1 (by decide)
      | 5, _ => exact hb 2 (by decide)
      | 6, _ => exact hb 3 (by decide)
      | 7, _ => exact hb 4 (by decide)
      | 8, _ => exact hb 5 (by decide)
      | 9, _ => exact hb 6 (by decide)
      | 10, _ => exact hb 7 (by decide)
      | 11, _ => exact hb 8 (by decide)
      | 12, _ => exact hb 9 (by decide)
      | 13, _ => exact hb 10 (by decide)
      | 14, _ => exact hb 11 (by decide)
      | 15, _ => exact hb 12 (by decide)
      | 16, _ => exact hb 13 (by decide)
      | k + 17, h => exact absurd h (by omega)
    · rw [List.getElem?_take, if_neg hi]
      symm
      rw [List.getElem?_eq_none]
      rw [List.length_map]
      show (17 : Nat) ≤ i
      omega
  · intro q hq
    rcases List.mem_cons.1 hq with rfl | hq
    · exact ⟨r1.1, r1.2, r2.1, r2.2, r3.1, r3.2⟩
    · exact h3 q hq
theorem made_calls {W : World} {a : Option Addr} {n c : Nat} (h : RowOk W .i64 a n c) : Calls Tryz.prog 8 #[.slice a n c] W fun en w' =>
  ∃ a' c' l, en = .returned (.slice a' l.length c') ∧ w'.ownsRow W.heap.size 34 17 (.slice a' l.length c') l.length (valsL l) ∧ (∀ q ∈ l, VQ q) ∧ l.length ≤ 5000000 ∧ Below W.heap.size W w' := by
 have hp : PW ⟨T28, .slice a n c, W, 0, [], []⟩ := ⟨rfl, a, n, c, rfl, h⟩
 have hW : Go.Ty.WT ⟨T28, .slice a n c, W, 0, [], []⟩ (fun _ => none) (0 : Nat) W := ⟨Old.refl W, Nat.le_refl _, fun b x h => by cases h⟩
 refine ((o8.h _ hp).ok (fun _ => none) W 0 [.slice a n c] (by decide) hW ⟨rfl, trivial⟩ (fun i c hh => by cases hh)).mono ?_
 rintro en w' ⟨u, S', rfl, ho⟩
 have hb : Below W.heap.size W w' := ⟨ho.os, ho.tape, ho.output, ho.size, fun i hi => ho.same i hi (fun x hx => by cases hx)⟩
 obtain ⟨m, ⟨a', len, c', rfl, hm, hs⟩, _, hle⟩ := ho.val
 have hlen : len ≤ 5000000 := by
  have : m ≤ ((0 : Nat) : Int) + (5000000 : Nat) := hle
  omega
 rcases hs with ⟨rfl, rfl, rfl⟩ | ⟨b, k, rfl, hS, hk⟩
 · exact ⟨none, 0, [], rfl, World.ownsRow_nil _ _ _ _, by simp, by simp, hb⟩
 · obtain ⟨hnew, hkc, hcap, ts, arr, hts, hpos, harr, hsz, hat⟩ := ho.wt.blk b _ hS
   dsimp only at hnew hkc hcap hts harr hsz hat
   rw [t34, Option.some.injEq] at hts
   subst hts
   have hsz : arr.size = c' * 17 := hsz
   obtain ⟨l, h1, h2, h3⟩ := recs_of len (arr.toList.take (len * 17)) (by rw [List.length_take, Array.length_toList, hsz]; exact Nat.min_eq_left (Nat.mul_le_mul_right _ (by omega))) fun j hj => by
    have get : ∀ o ct, o < 17 → ([.int .i64 1 10, .int .u16 0 65535, .int .u8 0 255, .bool, .bool, .bool, .bool, .bool, .bool, .bool, .bool, .bool, .bool, .bool, .bool, .bool, .bool] : List Go.Ty.CT)[o]? = some ct → ∃ v, (arr.toList.take (len * 17))[j * 17 + o]? = some v ∧ ct.has S' (.slice a n c) (((0 : Nat) : Int) + ((s8.k : Nat) : Int)) v := by
     intro o ct ho' hct
     obtain ⟨v, e1, e2⟩ := hat j o ct (by omega) hct
     refine ⟨v, ?_, e2⟩
     rw [List.getElem?_take, if_pos (by omega), Array.getElem?_toList]
     exact e1
    obtain ⟨v0, e0, st, rfl, s1, s2⟩ := get 0 _ (by decide) rfl
    obtain ⟨v1, e1, ad, rfl, a1, a2⟩ := get 1 _ (by decide) rfl
    obtain ⟨v2, e2, d, rfl, d1, d2⟩ := get 2 _ (by decide) rfl
    refine ⟨st, ad, d, ⟨s1, s2⟩, ⟨a1, a2⟩, ⟨d1, d2⟩, e0, e1, e2, fun i hi => ?_⟩
    have hct : ([.int .i64 1 10, .int .u16 0 65535, .int .u8 0 255, .bool, .bool, .bool, .bool, .bool, .bool, .bool, .bool, .bool, .bool, .bool, .bool, .bool, .bool] : List Go.Ty.CT)[3 + i]? = some .bool := by
     match i, hi with
     | 0, _ | 1, _ | 2, _ | 3, _ | 4, _ | 5, _ | 6, _ | 7, _ | 8, _ | 9, _ | 10, _ | 11, _ | 12, _ | 13, _ => rfl
    obtain ⟨v, e, b, rfl⟩ := get (3 + i) _ (by omega) hct
    exact ⟨b, e⟩
   refine ⟨some ⟨b, 0, none⟩, c', l, by rw [h1], ?_, h3, by omega, hb⟩
   rw [h1]
   refine ⟨?_, .inr ⟨b, c', arr, rfl, hnew, harr, by omega, hcap, hsz, h2⟩⟩
   rw [← h2, List.length_take, Array.length_toList, hsz]
   exact Nat.min_eq_left (Nat.mul_le_mul_right _ (by omega))
end Go.Proofs.YtjmnolhkkpaodaaGreatDoor
namespace Go.Proofs.YtjmnolhkkpaodaaGreatDoor
open Go Go.Sx Go.RowKit
set_option maxRecDepth 100000
theorem valsL_get : ∀ (l : List Rq) (j : Nat) (r : Rq) (o : Nat), l[j]? = some r → o < 17 → (valsL l)[j * 17 + o]? = (r.cells.map (SV.den fun _ => 0))[o]?
 | [], j, r, o, h, _ => by simp at h
 | q :: l, j, r, o, h, ho => by
  have hv : valsL (q :: l) = q.cells.map (SV.den fun _ => 0) ++ valsL l := by
   unfold valsL cellsL
   rw [List.flatMap_cons, List.map_append]
  have hl : (q.cells.map (SV.den fun _ => 0)).length = 17 := rfl
  rw [hv]
  cases j with
  | zero =>
   simp only [List.getElem?_cons_zero, Option.some.injEq] at h
   subst h
   rw [List.getElem?_append_left (by omega)]
   congr 1
   omega
  | succ j =>
   rw [List.getElem?_cons_succ] at h
   rw [List.getElem?_append_right (by omega), hl, show (j + 1) * 17 + o - 17 = j * 17 + o by omega]
   exact valsL_get l j r o h ho
theorem adP_at (g : Nat) (j o : Nat) : adP (some ⟨g, 0, none⟩) (j : Int) o = (⟨g, 0, none⟩ : Addr).add (j * 17 + o) := by
 unfold adP atRow
 rw [Addr.add_add]
 rfl
structure RowQ (W : World) (a : Option Addr) (n : Nat) (l : List Rq) : Prop where
 len : l.length = n
 nil : a = none → n = 0
 at_ : ∀ (j : Nat) (r : Rq), l[j]? = some r → okP W a (j : Int) = true ∧ pv W a (j : Int) = r.pv
theorem rowQ_cells {w : World} {g : Nat} {l : List Rq} (h : ∀ (j : Nat) (u : Value), (valsL l)[j]? = some u → w.cell? ((⟨g, 0, none⟩ : Addr).add j) = some u) : RowQ w (some ⟨g, 0, none⟩) l.length l := by
 refine ⟨rfl, (by simp), fun j r hj => ?_⟩
 have hc : ∀ o u, (r.cells.map (SV.den fun _ => 0))[o]? = some u → o < 17 → w.cell? (adP (some ⟨g, 0, none⟩) (j : Int) o) = some u := by
  intro o u hu ho
  rw [adP_at]
  exact h _ u (by rw [valsL_get l j r o hj ho]; exact hu)
 have c0 := hc 0 _ rfl (by decide)
 have c1 := hc 1 _ rfl (by decide)
 have c2 := hc 2 _ rfl (by decide)
 have c3 := hc 3 _ rfl (by decide)
 have c4 := hc 4 _ rfl (by decide)
 have c5 := hc 5 _ rfl (by decide)
 have c6 := hc 6 _ rfl (by decide)
 have c7 := hc 7 _ rfl (by decide)
 have c8 := hc 8 _ rfl (by decide)
 have c9 := hc 9 _ rfl (by decide)
 have c10 := hc 10 _ rfl (by decide)
 have c11 := hc 11 _ rfl (by decide)
 have c12 := hc 12 _ rfl (by decide)
 have c13 := hc 13 _ rfl (by decide)
 have c14 := hc 14 _ rfl (by decide)
 have c15 := hc 15 _ rfl (by decide)
 have c16 := hc 16 _ rfl (by decide)
 constructor
 · unfold okP isInt isBool
   rw [c0, c1, c2, c3, c4, c5, c6, c7, c8, c9, c10, c11, c12, c13, c14, c15, c16]
   simp [SV.den]
 · unfold pv rdInt rdBool
   rw [c0, c1, c2, c3, c4, c5, c6, c7, c8, c9, c10, c11, c12, c13, c14, c15, c16]
   rfl
theorem rowQ_own {w : World} {base : Nat} {a : Option Addr} {k c : Nat} {l : List Rq} (h : w.ownsRow base 34 17 (.slice a k c) k (valsL l)) (hlen : l.length = k) : RowQ w a k l := by
 have hcases : (a = none ∧ k = 0) ∨ ∃ g, a = some ⟨g, 0, none⟩ := by
  rcases h.2 with ⟨h1, _⟩ | ⟨g, cap, cur, h1, _⟩
  · injection h1 with h1 h2 h3
    exact .inl ⟨h1, h2⟩
  · injection h1 with h1 h4 h5
    exact .inr ⟨g, h1⟩
 rcases hcases with ⟨rfl, rfl⟩ | ⟨g, rfl⟩
 · refine ⟨hlen, fun _ => rfl, fun j r hj => ?_⟩
   rw [List.length_eq_zero_iff.1 hlen] at hj
   simp at hj
 · subst hlen
   exact rowQ_cells fun j u hu => h.cells rfl j u hu
theorem fmtL_snoc (l : List Rq) (r : Rq) : fmtL (l ++ [r]) = fmtL l ++ (D r.pv.txt ++ [10]) := by
 unfold fmtL
 rw [List.flatMap_append, List.flatMap_singleton]
theorem D_fmtB {W : World} {a : Option Addr} {n : Nat} {l : List Rq} (h : RowQ W a n l) : ∀ k, k ≤ n → D (fmtB W a k) = fmtL (l.take k)
 | 0, _ => by rw [List.take_zero]; rfl
 | k + 1, hk => by
  have hl : k < l.length := by rw [h.len]; omega
  have hx : l[k]? = some l[k] := List.getElem?_eq_getElem hl
  have e : fmtB W a (k + 1) = catB (fmtB W a k) (catB (pv W a (k : Int)).txt nlB) := rfl
  rw [e, D_cat, D_cat, D_fmtB h k (by omega), (h.at_ k _ hx).2, List.take_add_one, hx]
  exact (fmtL_snoc _ _).symm
def fmtT (l : List Rq) : ByteArray := ⟨(fmtL l).toArray⟩
theorem D_fmtT (l : List Rq) : D (fmtT l) = fmtL l := rfl
theorem fmtB_row {W : World} {a : Option Addr} {n : Nat} {l : List Rq} (h : RowQ W a n l) : fmtB W a n = fmtT l :=
 D_inj (by rw [D_fmtB h n (Nat.le_refl _), List.take_of_length_le (by rw [h.len]; exact Nat.le_refl _), D_fmtT])
theorem fmtL_len (l : List Rq) : l.length ≤ (fmtL l).length := by
 induction l with
 | nil => exact Nat.le_refl _
 | cons q l ih =>
  have e : fmtL (q :: l) = (D q.pv.txt ++ [10]) ++ fmtL l := rfl
  rw [e, List.length_append, List.length_append, List.length_cons, List.length_singleton]
  omega
structure FmtOk (l : List Rq) : Prop where
 lim : (fmtL l).length ≤ 3000000000
 rng : ∀ q ∈ l, rngP q.pv = true
theorem rowP_of {W : World} {a : Option Addr} {n c : Nat} {l : List Rq} (h : RowQ W a n l) (hf : FmtOk l) : RowP W a n c := by
 have hs : (fmtB W a n).size = (fmtL l).length := by rw [fmtB_row h, ← D_len, D_fmtT]
 have hl := fmtL_len l
 have hlim := hf.lim
 have hlen := h.len
 refine ⟨by omega, by omega, h.nil, fun j hj => ?_⟩
 have hx : l[j]? = some l[j] := List.getElem?_eq_getElem (by omega)
 obtain ⟨h1, h2⟩ := h.at_ j _ hx
 exact ⟨h1, by rw [h2]; exact hf.rng _ (List.getElem_mem _)⟩
end Go.Proofs.YtjmnolhkkpaodaaGreatDoor
namespace Go.Proofs.YtjmnolhkkpaodaaGreatDoor
open Go Go.Sx Go.RowKit
set_option maxRecDepth 100000
noncomputable def unC (xs : List SV) : List Rq := @dite _ (∃ l, cellsL l = xs) (Classical.propDecidable _) (fun h => Classical.choose h) (fun _ => [])
theorem unC_cells (l : List Rq) : cellsL (unC (cellsL l)) = cellsL l := by
 have h : ∃ l', cellsL l' = cellsL l := ⟨l, rfl⟩
 unfold unC
 rw [dif_pos h]
 exact Classical.choose_spec h
theorem cells_inj {r r' : Rq} (h : r.cells = r'.cells) : r.pv = r'.pv := by
 unfold Rq.cells pinsA at h
 unfold Rq.pv pvB
 simp only [List.cons.injEq, SV.int.injEq, SV.bool.injEq, SI.sym.injEq, SB.sym.injEq, true_and, and_true] at h
 obtain ⟨h1, h2, h3, h4, h5, h6, h7, h8, h9, h10, h11, h12, h13, h14, h15, h16, h17⟩ := h
 rw [h1, h2, h3, h4, h5, h6, h7, h8, h9, h10, h11, h12, h13, h14, h15, h16, h17]
theorem cellsL_inj : ∀ {l l' : List Rq}, cellsL l = cellsL l' → l.map Rq.pv = l'.map Rq.pv
 | [], [], _ => rfl
 | [], q :: l', h => by
  have := congrArg List.length h
  rw [cellsL_length, cellsL_length, List.length_cons] at this
  simp at this
 | q :: l, [], h => by
  have := congrArg List.length h
  rw [cellsL_length, cellsL_length, List.length_cons] at this
  simp at this
 | q :: l, q' :: l', h => by
  have h : q.cells ++ cellsL l = q'.cells ++ cellsL l' := h
  obtain ⟨h1, h2⟩ := List.append_inj h rfl
  rw [List.map_cons, List.map_cons, cells_inj h1, cellsL_inj h2]
theorem unC_pv (l : List Rq) : (unC (cellsL l)).map Rq.pv = l.map Rq.pv := cellsL_inj (unC_cells l)
theorem unC_len (l : List Rq) : (unC (cellsL l)).length = l.length := by
 have := congrArg List.length (unC_pv l)
 simpa using this
structure OwnQ (ow : Own) (a : Option Addr) (n c : Nat) : Prop where
 eq : ow = ⟨34, 17, a, n, c, cellsL (unC ow.xs)⟩
 len : (unC ow.xs).length = n
theorem ownQ_row {ow : Own} {a : Option Addr} {n c : Nat} (h : OwnQ ow a n c) {w : World} (hr : ow.rel 0 w) : RowQ w a n (unC ow.xs) := by
 unfold Own.rel at hr
 have e := h.eq
 have hv : ow.v = .slice a n c := by rw [e]; rfl
 have hn : ow.n = n := by rw [e]
 have he : ow.e = 34 := by rw [e]
 have hs : ow.size = 17 := by rw [e]
 have hx : ow.vals = valsL (unC ow.xs) := by
  unfold Own.vals valsL
  have : ow.xs = cellsL (unC ow.xs) := by
   conv => lhs; rw [e]
  rw [← this]
 rw [hv, hn, he, hs, hx] at hr
 exact rowQ_own hr h.len
noncomputable def okQ (ow : Own) (a : Option Addr) (n c : Nat) : Bool := @decide (OwnQ ow a n c) (Classical.propDecidable _)
theorem ownQ_cells (l : List Rq) (a : Option Addr) (c : Nat) : OwnQ ⟨34, 17, a, l.length, c, cellsL l⟩ a l.length c := ⟨by dsimp only; rw [unC_cells], unC_len l⟩
theorem okQ_cells (l : List Rq) (a : Option Addr) (c : Nat) : okQ ⟨34, 17, a, l.length, c, cellsL l⟩ a l.length c = true := @decide_eq_true _ (Classical.propDecidable _) (ownQ_cells l a c)
noncomputable def okFm (l : List Rq) : Bool := @decide (FmtOk l) (Classical.propDecidable _)
noncomputable def fmtG (x d i : Nat) (s : SL) (m : Mem) (g : Gh) : RG := match Sx.look s x, g[i]? with
 | some (.one (.sl a n c)), some ow => .leaf .nrm (.sym (okQ ow a n c && okFm (unC ow.xs))) (putS (some d) (.one (.str (fmtT (unC ow.xs)))) s) m g
 | _, _ => .fail
theorem fmtG_ok {W : Bs} {nt gf x d i : Nat} {o : Oper} (hc : callOf o = some (.func gf, [.tmp x])) (hdst : o.dst = some d) (hd : d < nt)
  (hfn : ∃ fn, Tryz.prog.funcs[gf]? = some fn ∧ (fn.name == "runtime.NumGoroutine") = false ∧ fn.body.isNone = false)
  (hk : ∀ (w : World) (a : Option Addr) (n c : Nat), RowP w a n c → Calls Tryz.prog gf #[.slice a n c] w fun en w' => en = .returned (.string (fmtB w a n)) ∧ Below w.heap.size w w') :
  CallOk W Tryz.prog nt o (fmtG x d i) := by
 intro s m g f a w Q hgood h
 unfold fmtG at hgood ⊢
 split at hgood <;> try exact hgood.elim
 rename_i sa n c ow hx hgi
 have hg0 : (SB.sym (okQ ow sa n c && okFm (unC ow.xs))).val = true := hgood
 rw [SB.val_sym, Bool.and_eq_true] at hg0
 have hQ := @of_decide_eq_true _ (Classical.propDecidable _) hg0.1
 have hF := @of_decide_eq_true _ (Classical.propDecidable _) hg0.2
 have hrow := ownQ_row hQ (h.gh.own i ow hgi)
 refine call_wp hc h.slots rfl (l := [.one (.sl sa n c)]) ?_ hfn (hk w sa n c (rowP_of hrow hF)) ?_
 · simp only [evalList, evalO, hx]
 · rintro en w' ⟨rfl, hb⟩
   refine ⟨_, rfl, rfl, f, ?_⟩
   rw [hdst, fmtB_row hrow]
   exact h.call hb hd rfl
noncomputable def parG (pa : ByteArray → Pa) (c : ByteArray → Bool) (x d : Nat) (s : SL) (m : Mem) (g : Gh) : RG := match Sx.look s x with
 | some (.one (.str t)) => .any fun a k => .leaf .nrm (.sym (c t)) (putS (some d) (.tup [(false, [.sl a (pa t).l.length k]), (false, [.int .i64 (.sym (pa t).ln)]), (false, [.int .i64 (.sym (pa t).er)])]) s) m (g ++ [⟨34, 17, a, (pa t).l.length, k, cellsL (pa t).l⟩])
 | _ => .fail
theorem parG_ok {W : Bs} {nt gf x d : Nat} {pa : ByteArray → Pa} {c : ByteArray → Bool} {o : Oper} (hc : callOf o = some (.func gf, [.tmp x])) (hdst : o.dst = some d) (hd : d < nt)
  (hfn : ∃ fn, Tryz.prog.funcs[gf]? = some fn ∧ (fn.name == "runtime.NumGoroutine") = false ∧ fn.body.isNone = false)
  (hk : ∀ (t : ByteArray) (w : World), c t = true → Old W.W w → PaC w gf t (pa t)) :
  CallOk W Tryz.prog nt o (parG pa c x d) := by
 intro s m g f a w Q hgood h
 unfold parG at hgood ⊢
 split at hgood <;> try exact hgood.elim
 rename_i t hx
 have hg0 := hgood none 0
 simp only [RG.Good, SB.val_sym] at hg0
 refine call_wp hc h.slots rfl (l := [.one (.str t)]) ?_ hfn (hk t w hg0 h.old) ?_
 · simp only [evalList, evalO, hx]
 · rintro en w' ⟨a', c', rfl, hown, hb⟩
   refine ⟨_, rfl, a', c', rfl, f, ?_⟩
   rw [hdst]
   exact h.callOwnV hb hd (o := ⟨34, 17, a', (pa t).l.length, c', cellsL (pa t).l⟩) hown rfl
end Go.Proofs.YtjmnolhkkpaodaaGreatDoor
namespace Go.Sx
open Go Go.RowKit
set_option maxRecDepth 100000
section
variable {W : Bs} {P : Program} {G : List (Nat × Spec)} {nt : Nat} {f : Nat → Nat} {a : Act} {w : World}
theorem mem0 {f : Nat → Nat} {N : Nat} (w w0 : World) (X : Nat → Prop) : MOk w0 X f ⟨[], [], N⟩ w := by
 refine ⟨?_, ?_, ?_, ?_, ?_, ?_⟩ <;> intro b <;> simp [look, Mem.get, findC]
theorem GSt.tail0 {S : SL} {m : Mem} {g : Gh} (h : GSt W nt S m g f a w) : GSt (Bs.of w) nt S ⟨[], [], 0⟩ [] f a w := by
 refine ⟨h.size, h.defers, h.slots, mem0 w w _, ?_, ⟨rfl, rfl, rfl, Nat.le_refl _, fun _ _ _ => rfl, (Bs.of w).base⟩, ?_, ?_, ?_, ?_, ?_⟩
 · intro b j hj; simp [look] at hj
 · intro i hi; cases hi
 · intro q o ho; simp at ho
 · intro q o ho; simp at ho
 · intro q o ho; simp at ho
 · intro q q' o p ho; simp at ho
theorem GSt.untail0 {S S' : SL} {m : Mem} {g g' : Gh} (h : GSt W nt S m g f a w) (hp : W.pin = none) {f2 : Nat → Nat} {a2 : Act} {w2 : World} {m' : Mem} {N : Nat} (h2 : GSt (Bs.of w) nt S' m' g' f2 a2 w2) : GSt W nt S' ⟨[], [], N⟩ [] f2 a2 w2 := by
 refine ⟨h2.size, h2.defers, h2.slots, mem0 w2 w2 _, ?_, ?_, ?_, ?_, ?_, ?_, ?_⟩
 · intro b j hj; simp [look] at hj
 · have h1 := h.fr
   have h3 := h2.fr
   exact ⟨h3.os.trans h1.os, h3.tape.trans h1.tape, h3.output.trans h1.output, Nat.le_trans h1.size h3.size, fun i hi hx => (h3.same i (Nat.lt_of_lt_of_le hi h1.size) (fun hh => hh)).trans (h1.same i hi hx), h1.base⟩
 · intro i hi; rw [hp] at hi; cases hi
 · intro q o ho; simp at ho
 · intro q o ho; simp at ho
 · intro q o ho; simp at ho
 · intro q q' o p ho; simp at ho
theorem tail0_wp {n : Nat} {t : HG} {c : Code} {S : SL} {m : Mem} {g : Gh} (hst : GSt W nt S m g f a w) (hp : W.pin = none) (hG : GOk w P G) (ht : HGW (Bs.of w) P nt t c) {E : RG}
  (hres : AllW (runG P w G n nt t c S ⟨[], [], 0⟩ []) fun e vc s _ _ => vc.val = true ∧
   ∀ f2 a2 w2 e', exOf e = some e' → GSt W nt s ⟨[], [], 0⟩ [] f2 a2 w2 → GPost W nt E e' a2 w2) : c.wp P (GPost W nt E) a w := by
 have hgd := RG.All.good (fun _ _ _ _ _ h => h.1) hres.h
 refine wp_mono (runG_sound (W := Bs.of w) hG t c _ _ _ _ _ w ht.h hgd hst.tail0) ?_
 intro e a2 w2 hp2
 obtain ⟨ex, vc, s, m', g2, ⟨_, hk⟩, hex, f2, hst2⟩ := RG.All.meet hres.h hp2
 exact hk f2 a2 w2 e hex (hst.untail0 hp hst2)
end
end Go.Sx
namespace Go.Proofs.YtjmnolhkkpaodaaGreatDoor
open Go Go.Sx Go.RowKit
set_option maxRecDepth 100000
noncomputable def ops7 (k : Nat) : Array Oper := match k, bodyOf Tryz.f7 with
 | 0, .seq _ (.seq (.region _ o _) _) => o
 | 1, .seq _ (.seq _ (.seq (.region _ o _) _)) => o
 | 2, .seq _ (.seq _ (.seq _ (.seq (.region _ o _) _))) => o
 | _, _ => #[]
def kn1 : Rq := ⟨1, 0, 162, fun i => decide (i = 0)⟩
def kn2 : Rq := ⟨8, 0, 0, fun i => decide (i = 12) || decide (i = 13)⟩
def kn3 : Rq := ⟨7, 4779, 15, fun i => decide (i = 8) || decide (i = 10)⟩
noncomputable def fmtK (l : List Rq) (x d : Nat) (s : SL) (m : Mem) (g : Gh) : RG := match Sx.look s x with
 | some (.one (.row b 0 n c)) => match Sx.look m.blks b, m.cells with
  | some i, [] => .leaf .nrm (.sym ((@decide (∀ f : Nat → Nat, dens f i.init = (valsL l).toArray) (Classical.propDecidable _) && Nat.beq n l.length) && okFm l)) (putS (some d) (.one (.str (fmtT l))) s) m g
  | _, _ => .fail
 | _ => .fail
noncomputable def parC (pa : ByteArray → Pa) (t : ByteArray) (cf : Bool) (d : Nat) (s : SL) (m : Mem) (g : Gh) : RG :=
 .any fun a k => .leaf .nrm (.sym cf) (putS (some d) (.tup [(false, [.sl a (pa t).l.length k]), (false, [.int .i64 (.sym (pa t).ln)]), (false, [.int .i64 (.sym (pa t).er)])]) s) m (g ++ [⟨34, 17, a, (pa t).l.length, k, cellsL (pa t).l⟩])
theorem parC_ok {W : Bs} {nt gf d : Nat} {pa : ByteArray → Pa} {t : ByteArray} {cf : Bool} {o : Oper} (hc : callOf o = some (.func gf, [.const (.string t)])) (hdst : o.dst = some d) (hd : d < nt)
  (hfn : ∃ fn, Tryz.prog.funcs[gf]? = some fn ∧ (fn.name == "runtime.NumGoroutine") = false ∧ fn.body.isNone = false)
  (hk : ∀ (w : World), cf = true → Old W.W w → PaC w gf t (pa t)) :
  CallOk W Tryz.prog nt o (parC pa t cf d) := by
 intro s m g f a w Q hgood h
 unfold parC at hgood ⊢
 have hg0 := hgood none 0
 simp only [RG.Good, SB.val_sym] at hg0
 refine call_wp hc h.slots rfl (l := [.one (.str t)]) rfl hfn (hk w hg0 h.old) ?_
 rintro en w' ⟨a', c', rfl, hown, hb⟩
 refine ⟨_, rfl, a', c', rfl, f, ?_⟩
 rw [hdst]
 exact h.callOwnV hb hd (o := ⟨34, 17, a', (pa t).l.length, c', cellsL (pa t).l⟩) hown rfl
theorem fmtK_ok {W : Bs} {nt gf x d : Nat} {l : List Rq} {o : Oper} (hc : callOf o = some (.func gf, [.tmp x])) (hdst : o.dst = some d) (hd : d < nt)
  (hfn : ∃ fn, Tryz.prog.funcs[gf]? = some fn ∧ (fn.name == "runtime.NumGoroutine") = false ∧ fn.body.isNone = false)
  (hk : ∀ (w : World) (a : Option Addr) (n c : Nat), RowP w a n c → Calls Tryz.prog gf #[.slice a n c] w fun en w' => en = .returned (.string (fmtB w a n)) ∧ Below w.heap.size w w') :
  CallOk W Tryz.prog nt o (fmtK l x d) := by
 intro s m g f a w Q hgood h
 unfold fmtK at hgood ⊢
 split at hgood <;> try exact hgood.elim
 rename_i b n c hx
 split at hgood <;> try exact hgood.elim
 rename_i i hi hcells
 have hg0 : (SB.sym ((@decide (∀ f : Nat → Nat, dens f i.init = (valsL l).toArray) (Classical.propDecidable _) && Nat.beq n l.length) && okFm l)).val = true := hgood
 rw [SB.val_sym, Bool.and_eq_true, Bool.and_eq_true, Nat.beq_eq] at hg0
 obtain ⟨⟨h1, h2⟩, h3⟩ := hg0
 have h1 := @of_decide_eq_true _ (Classical.propDecidable _) h1
 have h3 := @of_decide_eq_true _ (Classical.propDecidable _) h3
 subst h2
 have hc0 : ∀ o' v, i.init[o']? = some v → w.cell? ⟨f b, o', none⟩ = some (v.den f) := by
  intro o' v hv
  refine h.mem.cell b o' v ?_
  simp [Mem.get, hcells, findC, hi, hv]
 have hrow : RowQ w (some ⟨f b, 0, none⟩) l.length l := by
  refine rowQ_cells fun j u hu => ?_
  have hd : (dens f i.init).toList[j]? = (valsL l)[j]? := by rw [h1 f]
  have hd : (i.init.map (SV.den f))[j]? = (valsL l)[j]? := by
   rw [← hd]
   rfl
  rw [hu, List.getElem?_map] at hd
  cases hv : i.init[j]? with
  | none => rw [hv] at hd; cases hd
  | some v =>
   rw [hv] at hd
   simp only [Option.map_some, Option.some.injEq] at hd
   rw [add_at, Nat.zero_add, hc0 j v hv, hd]
 refine call_wp hc h.slots rfl (l := [.one (.row b 0 l.length c)]) ?_ hfn (hk w (some ⟨f b, 0, none⟩) l.length c (rowP_of hrow h3)) ?_
 · simp only [evalList, evalO, hx]
 · rintro en w' ⟨rfl, hb⟩
   refine ⟨_, rfl, rfl, f, ?_⟩
   rw [hdst, fmtB_row hrow]
   exact h.call hb hd rfl
end Go.Proofs.YtjmnolhkkpaodaaGreatDoor
namespace Go.Proofs.YtjmnolhkkpaodaaGreatDoor
open Go Go.Sx Go.RowKit
set_option maxRecDepth 100000
noncomputable def la7 : Code := match bodyOf Tryz.f7 with
 | .seq _ (.seq _ (.seq _ c)) => c
 | _ => .skip
def S7 (t : ByteArray) (a : Option Addr) (n c : Nat) (ln er : Int) : SL := [(1, .one (.str t)), (2, .one (.sl a n c)), (3, .one (.int .i64 (.sym ln))), (4, .one (.int .i64 (.sym er)))]
noncomputable def y7 (W : World) (t : ByteArray) (a : Option Addr) (n c : Nat) (ln er : Int) : RG := runG Tryz.prog W [] 100000 36 .plain la7 (S7 t a n c ln er) ⟨[], [], 0⟩ []
def eq7 (W : World) (a : Option Addr) : Bool := (rdInt W (adP a 0 0) == 7) && ((rdInt W (adP a 0 1) == 4779) && ((rdInt W (adP a 0 2) == 15) && ((rdBool W (adP a 0 3) == false) && ((rdBool W (adP a 0 4) == false) && ((rdBool W (adP a 0 5) == false) && ((rdBool W (adP a 0 6) == false) && ((rdBool W (adP a 0 7) == false) && ((rdBool W (adP a 0 8) == false) && ((rdBool W (adP a 0 9) == false) && ((rdBool W (adP a 0 10) == false) && ((rdBool W (adP a 0 11) == true) && ((rdBool W (adP a 0 12) == false) && ((rdBool W (adP a 0 13) == true) && ((rdBool W (adP a 0 14) == false) && ((rdBool W (adP a 0 15) == false) && ((rdBool W (adP a 0 16) == false)))))))))))))))))
def lit7 : ByteArray := ⟨#[116, 49, 32, 48, 48, 48, 48, 32, 97, 50, 32, 115, 121, 110, 99, 10, 116, 104, 32, 48, 48, 48, 48, 32, 48, 48, 32, 104, 108, 100, 97, 32, 102, 108, 111, 97, 116, 10]⟩
def val7 (W : World) (t : ByteArray) (a : Option Addr) (n : Nat) (ln er : Int) : Bool := bif sEq t lit7 then (bif decide (er = 0) then (bif decide (ln = 0) then (bif decide ((n : Int) = 1) then eq7 W a else false) else false) else false) else false
def cnd7 (W : World) (t : ByteArray) (a : Option Addr) (n : Nat) (ln er : Int) : Bool := bif sEq t lit7 then (bif decide (er = 0) then (bif decide (ln = 0) then (bif decide ((n : Int) = 1) then inRow a n 0 && okP W a 0 else true) else true) else true) else true
def sOf7 : RG → SL
 | .leaf _ _ s _ _ => s
 | _ => []
def dOf7 : RG → SB
 | .leaf _ v _ _ _ => v
 | _ => .lit false
def mOf7 : RG → Mem
 | .leaf _ _ _ m _ => m
 | _ => noMem
def gOf7 : RG → Gh
 | .leaf _ _ _ _ g => g
 | _ => []
theorem y7_l (W : World) (t : ByteArray) (a : Option Addr) (n c : Nat) (ln er : Int) : y7 W t a n c ln er = .leaf .ret (dOf7 (y7 W t a n c ln er)) (sOf7 (y7 W t a n c ln er)) (mOf7 (y7 W t a n c ln er)) (gOf7 (y7 W t a n c ln er)) := by kernel_rfl
theorem y7_v (W : World) (t : ByteArray) (a : Option Addr) (n c : Nat) (ln er : Int) : Sx.look (sOf7 (y7 W t a n c ln er)) 0 = some (.one (.bool (.sym (val7 W t a n ln er)))) := by kernel_rfl
theorem y7_c (W : World) (t : ByteArray) (a : Option Addr) (n c : Nat) (ln er : Int) : dOf7 (y7 W t a n c ln er) = .sym (cnd7 W t a n ln er) := by kernel_rfl
theorem y7_eq (W : World) (t : ByteArray) (a : Option Addr) (n c : Nat) (ln er : Int) : ∃ s m g, y7 W t a n c ln er = .leaf .ret (.sym (cnd7 W t a n ln er)) s m g ∧ Sx.look s 0 = some (.one (.bool (.sym (val7 W t a n ln er)))) :=
 ⟨_, _, _, (y7_l W t a n c ln er).trans (by rw [y7_c]), y7_v W t a n c ln er⟩
theorem val7_ok {W : World} {t : ByteArray} {a : Option Addr} {n : Nat} {ln er : Int} (ht : t = lit7) (he : er = 0) (hl : ln = 0) (hn : n = 1) (hp : pv W a 0 = kn3.pv) (hr : inRow a n 0 = true) (ho : okP W a 0 = true) : val7 W t a n ln er = true ∧ cnd7 W t a n ln er = true := by
 subst ht he hl hn
 unfold val7 cnd7
 rw [sEq_eq, decide_eq_true rfl, hr, ho]
 refine ⟨?_, rfl⟩
 show eq7 W a = true
 unfold pv at hp
 have e : kn3.pv = ⟨7, 4779, 15, [false, false, false, false, false, false, false, false, true, false, true, false, false, false]⟩ := by kernel_rfl
 rw [e] at hp
 simp only [PinV.mk.injEq, List.cons.injEq, and_true] at hp
 obtain ⟨h1, h2, h3, h4, h5, h6, h7, h8, h9, h10, h11, h12, h13, h14, h15, h16, h17⟩ := hp
 unfold eq7
 rw [h1, h2, h3, h4, h5, h6, h7, h8, h9, h10, h11, h12, h13, h14, h15, h16, h17]
 rfl
noncomputable def c7k (t : ByteArray) (a : Option Addr) (n c : Nat) (ln er : SI) (ow : Own) : Bool := @decide (t = lit7 ∧ ln.val = 0 ∧ er.val = 0 ∧ OwnQ ow a n c ∧ (unC ow.xs).map Rq.pv = [kn3.pv]) (Classical.propDecidable _)
noncomputable def E7 (S : SL) (Bl : List (Nat × BI)) (g : Gh) : RG := match S, g with
 | [(1, .one (.str t)), (2, .one (.sl a n c)), (3, .one (.int .i64 (.sym ln))), (4, .one (.int .i64 (.sym er)))], [ow] => .leaf .ret (.sym (c7k t a n c (.sym ln) (.sym er) ow)) [(0, .one (.bool (.sym true)))] ⟨[], [], 0⟩ []
 | _, _ => .fail
theorem tail7_ok (W : World) (N : Nat) : CustOk (Bs.of W) Tryz.prog 36 la7 (custK [(1, false), (2, false), (3, true), (4, true)] [] N E7) := by
 refine custK_ok fun S Bl g f a w hgood hst => ?_
 unfold E7 at hgood ⊢
 split at hgood <;> try exact hgood.elim
 rename_i t sa n c ln er ow
 have hc : c7k t sa n c (.sym ln) (.sym er) ow = true := by
  have h0 : (SB.sym (c7k t sa n c (.sym ln) (.sym er) ow)).val = true := hgood
  rw [SB.val_sym] at h0
  exact h0
 obtain ⟨h1, h2, h3, h4, h5⟩ := @of_decide_eq_true _ (Classical.propDecidable _) hc
 have hrow := ownQ_row h4 (hst.gh.own 0 ow rfl)
 have hn : n = 1 := by
  have := congrArg List.length h5
  rw [List.length_map, h4.len] at this
  exact this
 obtain ⟨s', m', g', hy, hs'⟩ := y7_eq w t sa n c ln er
 have h2 : ln = 0 := h2
 have h3 : er = 0 := h3
 obtain ⟨r, hr⟩ : ∃ r, unC ow.xs = [r] := by
  have := h4.len
  rw [hn] at this
  exact List.length_eq_one_iff.1 this
 rw [hr] at h5 hrow
 have hat := hrow.at_ 0 r rfl
 have hpv : pv w sa 0 = kn3.pv := hat.2.trans (by simpa using h5)
 obtain ⟨hv, hcn⟩ := val7_ok (n := n) h1 h3 h2 hn hpv (show inRow sa n 0 = true from inRow_ok (v := 0) hrow.nil (by omega)) hat.1
 refine tail0_wp (t := .plain) (n := 100000) hst rfl (gok_nil w) ⟨trivial⟩ ?_
 constructor
 show (y7 w t sa n c ln er).All _
 rw [hy, hcn]
 rw [hv] at hs'
 refine ⟨rfl, fun f2 a2 w2 e' he' h6 => ⟨he', f2, h6.fewer fun k v hk => ?_⟩⟩
 rw [look_cons] at hk
 split at hk
 · rename_i e
   subst e
   rw [hs']
   exact hk
 · simp [Sx.look] at hk
noncomputable def op7k (k i : Nat) : Oper := match (ops7 k).toList[i]? with
 | some o => o
 | none => op49w
def txt7 : ByteArray := ⟨#[116, 119, 32, 49, 50, 97, 98, 32, 48, 102, 32, 114, 100, 32, 115, 111, 100, 10]⟩
noncomputable def t7k (W : World) : HG := .seq .plain (.seq (.cust (runCalls Tryz.prog W [] 100000 36 (ops7 0) [⟨3, fmtK [kn1, kn2] 7 8⟩] 0)) (.seq (.cust (runCalls Tryz.prog W [] 100000 36 (ops7 1) [⟨0, parC paD txt7 (gMax W) 10⟩] 0)) (.cust (custK [(1, false), (2, false), (3, true), (4, true)] [] 1 E7))))
noncomputable def x7k (W : World) : RG := (runG Tryz.prog W [] 100000 36 (t7k W) (bodyOf Tryz.f7) (argSlots 0 []) noMem []).slim 0 [] [] [(0, false)] []
def rL (st x d : Int) (b : Nat → Bool) : List SV := [.int .i64 (.lit st), .int .u16 (.lit x), .int .u8 (.lit d), .bool (.lit (b 0)), .bool (.lit (b 1)), .bool (.lit (b 2)), .bool (.lit (b 3)), .bool (.lit (b 4)), .bool (.lit (b 5)), .bool (.lit (b 6)), .bool (.lit (b 7)), .bool (.lit (b 8)), .bool (.lit (b 9)), .bool (.lit (b 10)), .bool (.lit (b 11)), .bool (.lit (b 12)), .bool (.lit (b 13))]
def I7 : List SV := rL kn1.st kn1.a kn1.d kn1.b ++ rL kn2.st kn2.a kn2.d kn2.b
noncomputable def q7k (W : World) (a : Option Addr) (c : Nat) : Bool := ((@decide (∀ f : Nat → Nat, dens f I7 = (valsL [kn1, kn2]).toArray) (Classical.propDecidable _) && Nat.beq 2 2) && okFm [kn1, kn2]) && (gMax W && c7k (fmtT [kn1, kn2]) a (paD txt7).l.length c (.sym (paD txt7).ln) (.sym (paD txt7).er) ⟨34, 17, a, (paD txt7).l.length, c, cellsL (paD txt7).l⟩)
theorem x7k_eq (W : World) : x7k W = .any fun a c => .leaf .ret (.sym (q7k W a c)) [(0, .one (.bool (.sym true)))] ⟨[], [], 0⟩ [] := by kernel_rfl
theorem lit7_eq : fmtT [kn1, kn2] = lit7 := by kernel_rfl
theorem txt7_eq : D txt7 = fmtL [kn3] := by kernel_rfl
theorem kn3_v : VQ kn3 := ⟨by decide, by decide, by decide, by decide, by decide, by decide⟩
theorem fm7 : okFm [kn1, kn2] = true := by
 refine @decide_eq_true _ (Classical.propDecidable _) ⟨?_, ?_⟩
 · rw [show (fmtL [kn1, kn2]).length = 38 by kernel_rfl]
   decide
 · intro q hq
   simp only [List.mem_cons, List.not_mem_nil, or_false] at hq
   rcases hq with rfl | rfl <;> rfl
theorem q7k_ok {W : World} (hm : gMax W = true) (a : Option Addr) (c : Nat) : q7k W a c = true := by
 obtain ⟨h1, h2, h3⟩ := paD_fmt txt7_eq (fun q hq => by rw [List.mem_singleton] at hq; rw [hq]; exact kn3_v)
 unfold q7k
 have e1 : @decide (∀ f : Nat → Nat, dens f I7 = (valsL [kn1, kn2]).toArray) (Classical.propDecidable _) = true := @decide_eq_true _ (Classical.propDecidable _) (fun f => rfl)
 have e2 : c7k (fmtT [kn1, kn2]) a (paD txt7).l.length c (.sym (paD txt7).ln) (.sym (paD txt7).er) ⟨34, 17, a, (paD txt7).l.length, c, cellsL (paD txt7).l⟩ = true :=
  @decide_eq_true _ (Classical.propDecidable _) ⟨lit7_eq, h2, h3, ownQ_cells _ _ _, by dsimp only; rw [unC_pv, h1]; rfl⟩
 rw [e1, e2, fm7, hm]
 rfl
theorem hg7k (W : World) : HGW (Bs.of W) Tryz.prog 36 (t7k W) (bodyOf Tryz.f7) := by
 obtain ⟨e, he⟩ : ∃ e : Code × Nat × Nat, bodyOf Tryz.f7 = .seq e.1 (.seq (.region e.2.1 (ops7 0) false) (.seq (.region e.2.2 (ops7 1) false) la7)) :=
  ⟨match bodyOf Tryz.f7 with | .seq x1 (.seq (.region i _ _) (.seq (.region j _ _) _)) => (x1, i, j) | _ => (.skip, 0, 0), by kernel_rfl⟩
 constructor
 rw [he]
 refine ⟨trivial, ?_, ?_, tail7_ok W 1⟩
 · refine calls_cust (gok_nil _) (fun c hc => ?_) (by simp)
   rw [List.mem_singleton] at hc
   subst hc
   exact callG_of (o := op7k 0 3) (by kernel_rfl) (by kernel_rfl) (fmtK_ok (gf := 9) (by kernel_rfl) (by kernel_rfl) (by decide) ⟨_, Tryz.func9, by kernel_rfl, by kernel_rfl⟩ fun w a n c h => fmt9_calls h)
 · refine calls_cust (gok_nil _) (fun c hc => ?_) (by simp)
   rw [List.mem_singleton] at hc
   subst hc
   exact callG_of (o := op7k 1 0) (by kernel_rfl) (by kernel_rfl) (parC_ok (gf := 13) (by kernel_rfl) (by kernel_rfl) (by decide) ⟨_, Tryz.func13, by kernel_rfl, by kernel_rfl⟩ fun w hm ho => parse13_calls (by kernel_rfl) (gMax_old hm ho))
theorem known_calls {W : World} (hm : gMax W = true) : Calls Tryz.prog 7 #[] W fun en w' => en = .returned (.bool true) ∧ Below W.heap.size W w' := by
 have hn : Tryz.f7.ntmps = 36 := by kernel_rfl
 have hcalls := calls_of_runG (gok_nil W) (n := 100000) (g := 7) Tryz.func7 (show Tryz.f7.body = some (bodyOf Tryz.f7) by kernel_rfl) (t := t7k W) (args := []) (by rw [hn]; exact (hg7k W).h) (by simp)
  (R := fun v _ => ∃ q, v = .one (.bool q) ∧ q.val = true) (N := 0) (ks := []) (bs := []) (ke := [(0, false)]) (be := []) rfl rfl ?_
 · refine hcalls.mono ?_
   rintro en w' ⟨v, g, f, ⟨q, rfl, hq⟩, rfl, _, hb⟩
   refine ⟨?_, hb⟩
   rw [← hq]
   rfl
 · rw [hn]
   show (x7k W).All _
   rw [x7k_eq]
   intro a c
   exact ⟨by rw [SB.val_sym]; exact q7k_ok hm a c, .inr rfl, [(false, [.bool (.sym true)])], _, by kernel_rfl, rfl, _, rfl, rfl⟩
def F7 (W : World) : List TV → Option (SB × TV)
 | [] => some (.sym (gMax W), .one (.bool (.lit true)))
 | _ => none
theorem known_ok (W : World) : SpecOk W Tryz.prog 7 (specV (F7 W)) := by
 refine specV_calls ⟨Tryz.f7, Tryz.func7, by kernel_rfl, by kernel_rfl⟩ fun args c v hv hc => ?_
 unfold F7 at hv
 split at hv <;> try contradiction
 simp only [Option.some.injEq, Prod.mk.injEq] at hv
 obtain ⟨rfl, rfl⟩ := hv
 rw [SB.val_sym] at hc
 exact ⟨by simp, fun w ho f => known_calls (gMax_old hc ho)⟩
end Go.Proofs.YtjmnolhkkpaodaaGreatDoor
namespace Go.Proofs.YtjmnolhkkpaodaaGreatDoor
open Go Go.Sx Go.RowKit
set_option maxRecDepth 100000
theorem rowOk_old {W w : World} {k : IntKind} {a : Option Addr} {n c : Nat} (h : RowOk W k a n c) (ho : Old W w) : RowOk w k a n c := by
 refine ⟨h.le, h.max, h.nil, fun j hj => ?_⟩
 obtain ⟨h1, h2, h3⟩ := h.at_ j hj
 have hc := ho.cell (isInt_cell h1)
 have e : rdInt w ((a.getD default).add j) = rdInt W ((a.getD default).add j) := by
  conv => lhs; unfold rdInt
  rw [hc]
 refine ⟨?_, by rw [e]; exact h2, by rw [e]; exact h3⟩
 unfold isInt
 rw [hc]
 simp
abbrev MadeL : Type := { l : List Rq // (∀ q ∈ l, VQ q) ∧ l.length ≤ 5000000 }
noncomputable def okScr (W : World) (a : Option Addr) (n c : Nat) : Bool := @decide (RowOk W .i64 a n c) (Classical.propDecidable _)
noncomputable def madG (W : World) (x d : Nat) (s : SL) (m : Mem) (g : Gh) : RG := match Sx.look s x with
 | some (.one (.sl a n c)) => .pick (⟨[], by simp, by simp⟩ : MadeL) fun l => .any fun a' c' => .leaf .nrm (.sym (okScr W a n c)) (putS (some d) (.one (.sl a' l.1.length c')) s) m (g ++ [⟨34, 17, a', l.1.length, c', cellsL l.1⟩])
 | _ => .fail
theorem madG_ok {W : Bs} {nt x d : Nat} {o : Oper} (hc : callOf o = some (.func 8, [.tmp x])) (hdst : o.dst = some d) (hd : d < nt) : CallOk W Tryz.prog nt o (madG W.W x d) := by
 intro s m g f a w Q hgood h
 unfold madG at hgood ⊢
 split at hgood <;> try exact hgood.elim
 rename_i sa n c hx
 have hg0 : (SB.sym (okScr W.W sa n c)).val = true := hgood ⟨[], by simp, by simp⟩ none 0
 rw [SB.val_sym] at hg0
 have hrow := rowOk_old (@of_decide_eq_true _ (Classical.propDecidable _) hg0) h.old
 refine call_wp hc h.slots rfl (l := [.one (.sl sa n c)]) ?_ ⟨_, Tryz.func8, by kernel_rfl, by kernel_rfl⟩ (made_calls hrow) ?_
 · simp only [evalList, evalO, hx]
 · rintro en w' ⟨a', c', l, rfl, hown, hv, hl, hb⟩
   refine ⟨_, rfl, ⟨l, hv, hl⟩, a', c', rfl, f, ?_⟩
   rw [hdst]
   exact h.callOwn hb hd (o := ⟨34, 17, a', l.length, c', cellsL l⟩) hown
end Go.Proofs.YtjmnolhkkpaodaaGreatDoor
namespace Go.Proofs.YtjmnolhkkpaodaaGreatDoor
open Go Go.Sx Go.RowKit
set_option maxRecDepth 100000
theorem isInt_old {W w : World} {k : IntKind} {a : Addr} (h : isInt W k a = true) (ho : Old W w) : isInt w k a = true ∧ rdInt w a = rdInt W a := by
 have hc := ho.cell (isInt_cell h)
 constructor
 · unfold isInt
   rw [hc]
   simp
 · conv => lhs; unfold rdInt
   rw [hc]
theorem isBool_old {W w : World} {a : Addr} (h : isBool W a = true) (ho : Old W w) : isBool w a = true ∧ rdBool w a = rdBool W a := by
 have hc := ho.cell (isBool_cell h)
 constructor
 · unfold isBool
   rw [hc]
 · conv => lhs; unfold rdBool
   rw [hc]
theorem okP_old {W w : World} {a : Option Addr} {v : Int} (h : okP W a v = true) (ho : Old W w) : okP w a v = true ∧ pv w a v = pv W a v := by
 unfold okP at h
 simp only [Bool.and_eq_true] at h
 obtain ⟨h0, h1, h2, h3, h4, h5, h6, h7, h8, h9, h10, h11, h12, h13, h14, h15, h16, _⟩ := h
 have i0 := isInt_old h0 ho
 have i1 := isInt_old h1 ho
 have i2 := isInt_old h2 ho
 have i3 := isBool_old h3 ho
 have i4 := isBool_old h4 ho
 have i5 := isBool_old h5 ho
 have i6 := isBool_old h6 ho
 have i7 := isBool_old h7 ho
 have i8 := isBool_old h8 ho
 have i9 := isBool_old h9 ho
 have i10 := isBool_old h10 ho
 have i11 := isBool_old h11 ho
 have i12 := isBool_old h12 ho
 have i13 := isBool_old h13 ho
 have i14 := isBool_old h14 ho
 have i15 := isBool_old h15 ho
 have i16 := isBool_old h16 ho
 constructor
 · unfold okP
   rw [i0.1, i1.1, i2.1, i3.1, i4.1, i5.1, i6.1, i7.1, i8.1, i9.1, i10.1, i11.1, i12.1, i13.1, i14.1, i15.1, i16.1]
   rfl
 · unfold pv
   rw [i0.2, i1.2, i2.2, i3.2, i4.2, i5.2, i6.2, i7.2, i8.2, i9.2, i10.2, i11.2, i12.2, i13.2, i14.2, i15.2, i16.2]
theorem fmtB_old {W w : World} {a : Option Addr} {n c : Nat} (h : RowP W a n c) (ho : Old W w) : ∀ k, k ≤ n → fmtB w a k = fmtB W a k
 | 0, _ => rfl
 | k + 1, hk => by
  unfold fmtB
  rw [fmtB_old h ho k (by omega), (okP_old (h.at_ k (by omega)).1 ho).2]
theorem rowP_old {W w : World} {a : Option Addr} {n c : Nat} (h : RowP W a n c) (ho : Old W w) : RowP w a n c := by
 refine ⟨by rw [fmtB_old h ho n (Nat.le_refl n)]; exact h.lim, h.cnt, h.nil, fun j hj => ?_⟩
 obtain ⟨h1, h2⟩ := h.at_ j hj
 obtain ⟨h3, h4⟩ := okP_old h1 ho
 exact ⟨h3, by rw [h4]; exact h2⟩
noncomputable def okRP (W : World) (a : Option Addr) (n c : Nat) : Bool := @decide (RowP W a n c) (Classical.propDecidable _)
noncomputable def FFm (W : World) : List TV → Option (SB × TV)
 | [.one (.sl a n c)] => some (.sym (okRP W a n c), .one (.str (fmtB W a n)))
 | _ => none
theorem format9_ok (W : World) : SpecOk W Tryz.prog 9 (specV (FFm W)) := by
 refine specV_calls ⟨Tryz.f9, Tryz.func9, by kernel_rfl, by kernel_rfl⟩ fun args c v hv hc => ?_
 unfold FFm at hv
 split at hv <;> try contradiction
 rename_i a n cp
 simp only [Option.some.injEq, Prod.mk.injEq] at hv
 obtain ⟨rfl, rfl⟩ := hv
 have h := @of_decide_eq_true _ (Classical.propDecidable _) hc
 refine ⟨by simp, fun w ho f => ?_⟩
 refine (fmt9_calls (rowP_old h ho)).mono ?_
 rintro en w' ⟨rfl, hb⟩
 rw [fmtB_old h ho n (Nat.le_refl n)]
 exact ⟨rfl, hb⟩
end Go.Proofs.YtjmnolhkkpaodaaGreatDoor
