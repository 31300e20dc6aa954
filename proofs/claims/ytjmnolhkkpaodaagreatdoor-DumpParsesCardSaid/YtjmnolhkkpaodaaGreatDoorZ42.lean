/- A part of the proof: the reference is safe, both packages write and read alike. Several texts in one; printed by slim28.py out of the texts of wip. -/
import Derived.Test.YtjmnolhkkpaodaaGreatDoorZ41
set_option linter.all false
namespace Go.Proofs.YtjmnolhkkpaodaaGreatDoor
open Go Go.Sx Go.RowKit
set_option maxRecDepth 100000
theorem t34 : T28 true 34 = some [.int .i64 1 10, .int .u16 0 65535, .int .u8 0 255, .bool, .bool, .bool, .bool, .bool, .bool, .bool, .bool, .bool, .bool, .bool, .bool, .bool, .bool] := by kernel_rfl
theorem recs_of (n : Nat) : ∀ (xs : List Value), xs.length = n * 17 → (∀ j, j < n → ∃ st a d, (1 ≤ st ∧ st ≤ 10) ∧ (0 ≤ a ∧ a ≤ 65535) ∧ (0 ≤ d ∧ d ≤ 255) ∧ xs[j * 17 + 0]? = some (.int .i64 st) ∧ xs[j * 17 + 1]? = some (.int .u16 a) ∧ xs[j * 17 + 2]? = some (.int .u8 d) ∧ ∀ i, i < 14 → ∃ b, xs[j * 17 + (3 + i)]? = some (.bool b)) →
  ∃ l : List Rq, l.length = n ∧ xs = valsL l ∧ ∀ q ∈ l, VQ q := by
 induction n with
 | zero =>
  intro xs hx _
  exact ⟨[], rfl, by rw [List.length_eq_zero_iff.1 (show xs.length = 0 by omega)]; rfl, by simp⟩
 | succ n ih =>
  intro xs hx h
  obtain ⟨l, h1, h2, h3⟩ := ih (xs.drop 17) (by rw [List.length_drop]; omega) fun j hj => by
   obtain ⟨st, a, d, r1, r2, r3, e1, e2, e3, e4⟩ := h (j + 1) (by omega)
   refine ⟨st, a, d, r1, r2, r3, ?_, ?_, ?_, fun i hi => ?_⟩
   · rw [List.getElem?_drop, ← e1]; congr 1; omega
   · rw [List.getElem?_drop, ← e2]; congr 1; omega
   · rw [List.getElem?_drop, ← e3]; congr 1; omega
   · obtain ⟨b, e⟩ := e4 i hi
     exact ⟨b, by rw [List.getElem?_drop, ← e]; congr 1; omega⟩
  obtain ⟨st, a, d, r1, r2, r3, e1, e2, e3, e4⟩ := h 0 (by omega)
  let bf : Nat → Bool := fun i => match xs[3 + i]? with
   | some (.bool b) => b
   | _ => false
  have hb : ∀ i, i < 14 → xs[3 + i]? = some (.bool (bf i)) := by
   intro i hi
   obtain ⟨b, e⟩ := e4 i hi
   have e : xs[3 + i]? = some (.bool b) := by rw [← e]; congr 1; omega
   show xs[3 + i]? = some (.bool (match xs[3 + i]? with | some (.bool b) => b | _ => false))
   rw [e]
  refine ⟨⟨st, a, d, bf⟩ :: l, by rw [List.length_cons, h1], ?_, ?_⟩
  · have hv : valsL ((⟨st, a, d, bf⟩ : Rq) :: l) = (Rq.cells ⟨st, a, d, bf⟩).map (SV.den fun _ => 0) ++ valsL l := by
     unfold valsL cellsL
     rw [List.flatMap_cons, List.map_append]
    rw [hv, ← h2]
    conv => lhs; rw [← List.take_append_drop 17 xs]
    congr 1
    refine List.ext_getElem? fun i => ?_
    by_cases hi : i < 17
    · rw [List.getElem?_take, if_pos hi]
      match i, hi with
      | 0, _ => exact e1
      | 1, _ => exact e2
      | 2, _ => exact e3
      | 3, _ => exact hb 0 (by decide)
      | 4, _ => exact hb 1 (by decide)
      | 5, _ => exact hb 2 (by decide)
      | 6, _ => exact hb 3 (by decide)
      | 7, _ => exact hb 4 (by decide)
      | 8, _ => exact hb 5 (by decide)
      | 9, _ => exact hb 6 (by decide)
      | 10, _ => exact hb 7 (by decide)
      | 11, _ => exact hb 8 (by decide)
      | 12, _ => exact hb 9 (by decide)
      | 13, _ => exact hb 10 (by decide)
      | 14, _ => exact hb 11 (by decide)
      | 15, _ => exact hb 12 (by decide)
      | 16, _ => exact hb 13 (by decide)
      | k + 17, h => exact absurd h (by omega)
    · rw [List.getElem?_take, if_neg hi]
      symm
      rw [List.getElem?_eq_none]
      rw [List.length_map]
      show (17 : Nat) ≤ i
      omega
  · intro q hq
    rcases List.mem_cons.1 hq with rfl | hq
    · exact ⟨r1.1, r1.2, r2.1, r2.2, r3.1, r3.2⟩
    · exact h3 q hq
theorem made_calls {W : World} {a : Option Addr} {n c : Nat} (h : RowOk W .i64 a n c) : Calls Tryz.prog 8 #[.slice a n c] W fun en w' =>
  ∃ a' c' l, en = .returned (.slice a' l.length c') ∧ w'.ownsRow W.heap.size 34 17 (.slice a' l.length c') l.length (valsL l) ∧ (∀ q ∈ l, VQ q) ∧ l.length ≤ 5000000 ∧ Below W.heap.size W w' := by
 have hp : PW ⟨T28, .slice a n c, W, 0, [], []⟩ := ⟨rfl, a, n, c, rfl, h⟩
 have hW : Go.Ty.WT ⟨T28, .slice a n c, W, 0, [], []⟩ (fun _ => none) (0 : Nat) W := ⟨Old.refl W, Nat.le_refl _, fun b x h => by cases h⟩
 refine ((o8.h _ hp).ok (fun _ => none) W 0 [.slice a n c] (by decide) hW ⟨rfl, trivial⟩ (fun i c hh => by cases hh)).mono ?_
 rintro en w' ⟨u, S', rfl, ho⟩
 have hb : Below W.heap.size W w' := ⟨ho.os, ho.tape, ho.output, ho.size, fun i hi => ho.same i hi (fun x hx => by cases hx)⟩
 obtain ⟨m, ⟨a', len, c', rfl, hm, hs⟩, _, hle⟩ := ho.val
 have hlen : len ≤ 5000000 := by
  have : m ≤ ((0 : Nat) : Int) + (5000000 : Nat) := hle
  omega
 rcases hs with ⟨rfl, rfl, rfl⟩ | ⟨b, k, rfl, hS, hk⟩
 · exact ⟨none, 0, [], rfl, World.ownsRow_nil _ _ _ _, by simp, by simp, hb⟩
 · obtain ⟨hnew, hkc, hcap, ts, arr, hts, hpos, harr, hsz, hat⟩ := ho.wt.blk b _ hS
   dsimp only at hnew hkc hcap hts harr hsz hat
   rw [t34, Option.some.injEq] at hts
   subst hts
   have hsz : arr.size = c' * 17 := hsz
   obtain ⟨l, h1, h2, h3⟩ := recs_of len (arr.toList.take (len * 17)) (by rw [List.length_take, Array.length_toList, hsz]; exact Nat.min_eq_left (Nat.mul_le_mul_right _ (by omega))) fun j hj => by
    have get : ∀ o ct, o < 17 → ([.int .i64 1 10, .int .u16 0 65535, .int .u8 0 255, .bool, .bool, .bool, .bool, .bool, .bool, .bool, .bool, .bool, .bool, .bool, .bool, .bool, .bool] : List Go.Ty.CT)[o]? = some ct → ∃ v, (arr.toList.take (len * 17))[j * 17 + o]? = some v ∧ ct.has S' (.slice a n c) (((0 : Nat) : Int) + ((s8.k : Nat) : Int)) v := by
     intro o ct ho' hct
     obtain ⟨v, e1, e2⟩ := hat j o ct (by omega) hct
     refine ⟨v, ?_, e2⟩
     rw [List.getElem?_take, if_pos (by omega), Array.getElem?_toList]
     exact e1
    obtain ⟨v0, e0, st, rfl, s1, s2⟩ := get 0 _ (by decide) rfl
    obtain ⟨v1, e1, ad, rfl, a1, a2⟩ := get 1 _ (by decide) rfl
    obtain ⟨v2, e2, d, rfl, d1, d2⟩ := get 2 _ (by decide) rfl
    refine ⟨st, ad, d, ⟨s1, s2⟩, ⟨a1, a2⟩, ⟨d1, d2⟩, e0, e1, e2, fun i hi => ?_⟩
    have hct : ([.int .i64 1 10, .int .u16 0 65535, .int .u8 0 255, .bool, .bool, .bool, .bool, .bool, .bool, .bool, .bool, .bool, .bool, .bool, .bool, .bool, .bool] : List Go.Ty.CT)[3 + i]? = some .bool := by
     match i, hi with
     | 0, _ | 1, _ | 2, _ | 3, _ | 4, _ | 5, _ | 6, _ | 7, _ | 8, _ | 9, _ | 10, _ | 11, _ | 12, _ | 13, _ => rfl
    obtain ⟨v, e, b, rfl⟩ := get (3 + i) _ (by omega) hct
    exact ⟨b, e⟩
   refine ⟨some ⟨b, 0, none⟩, c', l, by rw [h1], ?_, h3, by omega, hb⟩
   rw [h1]
   refine ⟨?_, .inr ⟨b, c', arr, rfl, hnew, harr, by omega, hcap, hsz, h2⟩⟩
   rw [← h2, List.length_take, Array.length_toList, hsz]
   exact Nat.min_eq_left (Nat.mul_le_mul_right _ (by omega))
end Go.Proofs.YtjmnolhkkpaodaaGreatDoor
namespace Go.Proofs.YtjmnolhkkpaodaaGreatDoor
open Go Go.Sx Go.RowKit
set_option maxRecDepth 100000
theorem valsL_get : ∀ (l : List Rq) (j : Nat) (r : Rq) (o : Nat), l[j]? = some r → o < 17 → (valsL l)[j * 17 + o]? = (r.cells.map (SV.den fun _ => 0))[o]?
 | [], j, r, o, h, _ => by simp at h
 | q :: l, j, r, o, h, ho => by
  have hv : valsL (q :: l) = q.cells.map (SV.den fun _ => 0) ++ valsL l := by
   unfold valsL cellsL
   rw [List.flatMap_cons, List.map_append]
  have hl : (q.cells.map (SV.den fun _ => 0)).length = 17 := rfl
  rw [hv]
  cases j with
  | zero =>
   simp only [List.getElem?_cons_zero, Option.some.injEq] at h
   subst h
   rw [List.getElem?_append_left (by omega)]
   congr 1
   omega
  | succ j =>
   rw [List.getElem?_cons_succ] at h
   rw [List.getElem?_append_right (by omega), hl, show (j + 1) * 17 + o - 17 = j * 17 + o by omega]
   exact valsL_get l j r o h ho
theorem adP_at (g : Nat) (j o : Nat) : adP (some ⟨g, 0, none⟩) (j : Int) o = (⟨g, 0, none⟩ : Addr).add (j * 17 + o) := by
 unfold adP atRow
 rw [Addr.add_add]
 rfl
structure RowQ (W : World) (a : Option Addr) (n : Nat) (l : List Rq) : Prop where
 len : l.length = n
 nil : a = none → n = 0
 at_ : ∀ (j : Nat) (r : Rq), l[j]? = some r → okP W a (j : Int) = true ∧ pv W a (j : Int) = r.pv
theorem rowQ_cells {w : World} {g : Nat} {l : List Rq} (h : ∀ (j : Nat) (u : Value), (valsL l)[j]? = some u → w.cell? ((⟨g, 0, none⟩ : Addr).add j) = some u) : RowQ w (some ⟨g, 0, none⟩) l.length l := by
 refine ⟨rfl, (by simp), fun j r hj => ?_⟩
 have hc : ∀ o u, (r.cells.map (SV.den fun _ => 0))[o]? = some u → o < 17 → w.cell? (adP (some ⟨g, 0, none⟩) (j : Int) o) = some u := by
  intro o u hu ho
  rw [adP_at]
  exact h _ u (by rw [valsL_get l j r o hj ho]; exact hu)
 have c0 := hc 0 _ rfl (by decide)
 have c1 := hc 1 _ rfl (by decide)
 have c2 := hc 2 _ rfl (by decide)
 have c3 := hc 3 _ rfl (by decide)
 have c4 := hc 4 _ rfl (by decide)
 have c5 := hc 5 _ rfl (by decide)
 have c6 := hc 6 _ rfl (by decide)
 have c7 := hc 7 _ rfl (by decide)
 have c8 := hc 8 _ rfl (by decide)
 have c9 := hc 9 _ rfl (by decide)
 have c10 := hc 10 _ rfl (by decide)
 have c11 := hc 11 _ rfl (by decide)
 have c12 := hc 12 _ rfl (by decide)
 have c13 := hc 13 _ rfl (by decide)
 have c14 := hc 14 _ rfl (by decide)
 have c15 := hc 15 _ rfl (by decide)
 have c16 := hc 16 _ rfl (by decide)
 constructor
 · unfold okP isInt isBool
   rw [c0, c1, c2, c3, c4, c5, c6, c7, c8, c9, c10, c11, c12, c13, c14, c15, c16]
   simp [SV.den]
 · unfold pv rdInt rdBool
   rw [c0, c1, c2, c3, c4, c5, c6, c7, c8, c9, c10, c11, c12, c13, c14, c15, c16]
   rfl
theorem rowQ_own {w : World} {base : Nat} {a : Option Addr} {k c : Nat} {l : List Rq} (h : w.ownsRow base 34 17 (.slice a k c) k (valsL l)) (hlen : l.length = k) : RowQ w a k l := by
 have hcases : (a = none ∧ k = 0) ∨ ∃ g, a = some ⟨g, 0, none⟩ := by
  rcases h.2 with ⟨h1, _⟩ | ⟨g, cap, cur, h1, _⟩
  · injection h1 with h1 h2 h3
    exact .inl ⟨h1, h2⟩
  · injection h1 with h1 h4 h5
    exact .inr ⟨g, h1⟩
 rcases hcases with ⟨rfl, rfl⟩ | ⟨g, rfl⟩
 · refine ⟨hlen, fun _ => rfl, fun j r hj => ?_⟩
   rw [List.length_eq_zero_iff.1 hlen] at hj
   simp at hj
 · subst hlen
   exact rowQ_cells fun j u hu => h.cells rfl j u hu
theorem fmtL_snoc (l : List Rq) (r : Rq) : fmtL (l ++ [r]) = fmtL l ++ (D r.pv.txt ++ [10]) := by
 unfold fmtL
 rw [List.flatMap_append, List.flatMap_singleton]
theorem D_fmtB {W : World} {a : Option Addr} {n : Nat} {l : List Rq} (h : RowQ W a n l) : ∀ k, k ≤ n → D (fmtB W a k) = fmtL (l.take k)
 | 0, _ => by rw [List.take_zero]; rfl
 | k + 1, hk => by
  have hl : k < l.length := by rw [h.len]; omega
  have hx : l[k]? = some l[k] := List.getElem?_eq_getElem hl
  have e : fmtB W a (k + 1) = catB (fmtB W a k) (catB (pv W a (k : Int)).txt nlB) := rfl
  rw [e, D_cat, D_cat, D_fmtB h k (by omega), (h.at_ k _ hx).2, List.take_add_one, hx]
  exact (fmtL_snoc _ _).symm
def fmtT (l : List Rq) : ByteArray := ⟨(fmtL l).toArray⟩
theorem D_fmtT (l : List Rq) : D (fmtT l) = fmtL l := rfl
theorem fmtB_row {W : World} {a : Option Addr} {n : Nat} {l : List Rq} (h : RowQ W a n l) : fmtB W a n = fmtT l :=
 D_inj (by rw [D_fmtB h n (Nat.le_refl _), List.take_of_length_le (by rw [h.len]; exact Nat.le_refl _), D_fmtT])
theorem fmtL_len (l : List Rq) : l.length ≤ (fmtL l).length := by
 induction l with
 | nil => exact Nat.le_refl _
 | cons q l ih =>
  have e : fmtL (q :: l) = (D q.pv.txt ++ [10]) ++ fmtL l := rfl
  rw [e, List.length_append, List.length_append, List.length_cons, List.length_singleton]
  omega
structure FmtOk (l : List Rq) : Prop where
 lim : (fmtL l).length ≤ 3000000000
 rng : ∀ q ∈ l, rngP q.pv = true
theorem rowP_of {W : World} {a : Option Addr} {n c : Nat} {l : List Rq} (h : RowQ W a n l) (hf : FmtOk l) : RowP W a n c := by
 have hs : (fmtB W a n).size = (fmtL l).length := by rw [fmtB_row h, ← D_len, D_fmtT]
 have hl := fmtL_len l
 have hlim := hf.lim
 have hlen := h.len
 refine ⟨by omega, by omega, h.nil, fun j hj => ?_⟩
 have hx : l[j]? = some l[j] := List.getElem?_eq_getElem (by omega)
 obtain ⟨h1, h2⟩ := h.at_ j _ hx
 exact ⟨h1, by rw [h2]; exact hf.rng _ (List.getElem_mem _)⟩
theorem rowK_of {W : World} {a : Option Addr} {n : Nat} {l : List Rq} (h : RowQ W a n l) (hl : l.length ≤ 3900000000) : RowK W a n := by
 have hlen := h.len
 refine ⟨by omega, h.nil, fun j hj => ?_⟩
 exact (h.at_ j _ (List.getElem?_eq_getElem (by omega))).1
theorem eqA_pv (W : World) (a a' : Option Addr) (v : Int) : eqA W a a' v = true ↔ pv W a v = pv W a' v := by
 unfold eqA pv
 simp only [Bool.and_eq_true, beq_iff_eq, PinV.mk.injEq, List.cons.injEq, and_true]
theorem eqN_list {W : World} {a a' : Option Addr} {n : Nat} {l l' : List Rq} (h : RowQ W a n l) (h' : RowQ W a' n l') : ∀ k, k ≤ n → (eqN W a a' k = true ↔ (l.map Rq.pv).take k = (l'.map Rq.pv).take k)
 | 0, _ => by simp [eqN]
 | k + 1, hk => by
  have hx : l[k]? = some (l[k]'(by rw [h.len]; omega)) := List.getElem?_eq_getElem _
  have hx' : l'[k]? = some (l'[k]'(by rw [h'.len]; omega)) := List.getElem?_eq_getElem _
  unfold eqN
  rw [Bool.and_eq_true, eqN_list h h' k (by omega), eqA_pv, (h.at_ k _ hx).2, (h'.at_ k _ hx').2, List.take_add_one, List.take_add_one, List.getElem?_map, List.getElem?_map, hx, hx']
  simp only [Option.map_some, Option.toList_some]
  constructor
  · rintro ⟨e1, e2⟩
    rw [e1, e2]
  · intro e
    have := List.append_inj' e rfl
    exact ⟨this.1, by simpa using this.2⟩
theorem sameA_list {W : World} {a a' : Option Addr} {n n' : Nat} {l l' : List Rq} (h : RowQ W a n l) (h' : RowQ W a' n' l') : sameA W a n a' n' = true ↔ l.map Rq.pv = l'.map Rq.pv := by
 unfold sameA
 by_cases hn : n = n'
 · subst hn
   rw [decide_eq_true rfl]
   show eqN W a a' n = true ↔ _
   rw [eqN_list h h' n (Nat.le_refl _), List.take_of_length_le (by rw [List.length_map, h.len]; exact Nat.le_refl _), List.take_of_length_le (by rw [List.length_map, h'.len]; exact Nat.le_refl _)]
 · rw [decide_eq_false (by omega)]
   show false = true ↔ _
   constructor
   · intro e; cases e
   · intro e
     have := congrArg List.length e
     rw [List.length_map, List.length_map, h.len, h'.len] at this
     exact absurd this hn
end Go.Proofs.YtjmnolhkkpaodaaGreatDoor
namespace Go.Proofs.YtjmnolhkkpaodaaGreatDoor
open Go Go.Sx Go.RowKit
set_option maxRecDepth 100000
noncomputable def unC (xs : List SV) : List Rq := @dite _ (∃ l, cellsL l = xs) (Classical.propDecidable _) (fun h => Classical.choose h) (fun _ => [])
theorem unC_cells (l : List Rq) : cellsL (unC (cellsL l)) = cellsL l := by
 have h : ∃ l', cellsL l' = cellsL l := ⟨l, rfl⟩
 unfold unC
 rw [dif_pos h]
 exact Classical.choose_spec h
theorem cells_inj {r r' : Rq} (h : r.cells = r'.cells) : r.pv = r'.pv := by
 unfold Rq.cells pinsA at h
 unfold Rq.pv pvB
 simp only [List.cons.injEq, SV.int.injEq, SV.bool.injEq, SI.sym.injEq, SB.sym.injEq, true_and, and_true] at h
 obtain ⟨h1, h2, h3, h4, h5, h6, h7, h8, h9, h10, h11, h12, h13, h14, h15, h16, h17⟩ := h
 rw [h1, h2, h3, h4, h5, h6, h7, h8, h9, h10, h11, h12, h13, h14, h15, h16, h17]
theorem cellsL_inj : ∀ {l l' : List Rq}, cellsL l = cellsL l' → l.map Rq.pv = l'.map Rq.pv
 | [], [], _ => rfl
 | [], q :: l', h => by
  have := congrArg List.length h
  rw [cellsL_length, cellsL_length, List.length_cons] at this
  simp at this
 | q :: l, [], h => by
  have := congrArg List.length h
  rw [cellsL_length, cellsL_length, List.length_cons] at this
  simp at this
 | q :: l, q' :: l', h => by
  have h : q.cells ++ cellsL l = q'.cells ++ cellsL l' := h
  obtain ⟨h1, h2⟩ := List.append_inj h rfl
  rw [List.map_cons, List.map_cons, cells_inj h1, cellsL_inj h2]
theorem unC_pv (l : List Rq) : (unC (cellsL l)).map Rq.pv = l.map Rq.pv := cellsL_inj (unC_cells l)
theorem unC_len (l : List Rq) : (unC (cellsL l)).length = l.length := by
 have := congrArg List.length (unC_pv l)
 simpa using this
structure OwnQ (ow : Own) (a : Option Addr) (n c : Nat) : Prop where
 eq : ow = ⟨34, 17, a, n, c, cellsL (unC ow.xs)⟩
 len : (unC ow.xs).length = n
theorem ownQ_row {ow : Own} {a : Option Addr} {n c : Nat} (h : OwnQ ow a n c) {w : World} (hr : ow.rel 0 w) : RowQ w a n (unC ow.xs) := by
 unfold Own.rel at hr
 have e := h.eq
 have hv : ow.v = .slice a n c := by rw [e]; rfl
 have hn : ow.n = n := by rw [e]
 have he : ow.e = 34 := by rw [e]
 have hs : ow.size = 17 := by rw [e]
 have hx : ow.vals = valsL (unC ow.xs) := by
  unfold Own.vals valsL
  have : ow.xs = cellsL (unC ow.xs) := by
   conv => lhs; rw [e]
  rw [← this]
 rw [hv, hn, he, hs, hx] at hr
 exact rowQ_own hr h.len
noncomputable def okQ (ow : Own) (a : Option Addr) (n c : Nat) : Bool := @decide (OwnQ ow a n c) (Classical.propDecidable _)
theorem ownQ_cells (l : List Rq) (a : Option Addr) (c : Nat) : OwnQ ⟨34, 17, a, l.length, c, cellsL l⟩ a l.length c := ⟨by dsimp only; rw [unC_cells], unC_len l⟩
theorem okQ_cells (l : List Rq) (a : Option Addr) (c : Nat) : okQ ⟨34, 17, a, l.length, c, cellsL l⟩ a l.length c = true := @decide_eq_true _ (Classical.propDecidable _) (ownQ_cells l a c)
noncomputable def okFm (l : List Rq) : Bool := @decide (FmtOk l) (Classical.propDecidable _)
noncomputable def fmtG (x d i : Nat) (s : SL) (m : Mem) (g : Gh) : RG := match Sx.look s x, g[i]? with
 | some (.one (.sl a n c)), some ow => .leaf .nrm (.sym (okQ ow a n c && okFm (unC ow.xs))) (putS (some d) (.one (.str (fmtT (unC ow.xs)))) s) m g
 | _, _ => .fail
theorem fmtG_ok {W : Bs} {nt gf x d i : Nat} {o : Oper} (hc : callOf o = some (.func gf, [.tmp x])) (hdst : o.dst = some d) (hd : d < nt)
  (hfn : ∃ fn, Tryz.prog.funcs[gf]? = some fn ∧ (fn.name == "runtime.NumGoroutine") = false ∧ fn.body.isNone = false)
  (hk : ∀ (w : World) (a : Option Addr) (n c : Nat), RowP w a n c → Calls Tryz.prog gf #[.slice a n c] w fun en w' => en = .returned (.string (fmtB w a n)) ∧ Below w.heap.size w w') :
  CallOk W Tryz.prog nt o (fmtG x d i) := by
 intro s m g f a w Q hgood h
 unfold fmtG at hgood ⊢
 split at hgood <;> try exact hgood.elim
 rename_i sa n c ow hx hgi
 have hg0 : (SB.sym (okQ ow sa n c && okFm (unC ow.xs))).val = true := hgood
 rw [SB.val_sym, Bool.and_eq_true] at hg0
 have hQ := @of_decide_eq_true _ (Classical.propDecidable _) hg0.1
 have hF := @of_decide_eq_true _ (Classical.propDecidable _) hg0.2
 have hrow := ownQ_row hQ (h.gh.own i ow hgi)
 refine call_wp hc h.slots rfl (l := [.one (.sl sa n c)]) ?_ hfn (hk w sa n c (rowP_of hrow hF)) ?_
 · simp only [evalList, evalO, hx]
 · rintro en w' ⟨rfl, hb⟩
   refine ⟨_, rfl, rfl, f, ?_⟩
   rw [hdst, fmtB_row hrow]
   exact h.call hb hd rfl
noncomputable def parG (pa : ByteArray → Pa) (c : ByteArray → Bool) (x d : Nat) (s : SL) (m : Mem) (g : Gh) : RG := match Sx.look s x with
 | some (.one (.str t)) => .any fun a k => .leaf .nrm (.sym (c t)) (putS (some d) (.tup [(false, [.sl a (pa t).l.length k]), (false, [.int .i64 (.sym (pa t).ln)]), (false, [.int .i64 (.sym (pa t).er)])]) s) m (g ++ [⟨34, 17, a, (pa t).l.length, k, cellsL (pa t).l⟩])
 | _ => .fail
theorem parG_ok {W : Bs} {nt gf x d : Nat} {pa : ByteArray → Pa} {c : ByteArray → Bool} {o : Oper} (hc : callOf o = some (.func gf, [.tmp x])) (hdst : o.dst = some d) (hd : d < nt)
  (hfn : ∃ fn, Tryz.prog.funcs[gf]? = some fn ∧ (fn.name == "runtime.NumGoroutine") = false ∧ fn.body.isNone = false)
  (hk : ∀ (t : ByteArray) (w : World), c t = true → Old W.W w → PaC w gf t (pa t)) :
  CallOk W Tryz.prog nt o (parG pa c x d) := by
 intro s m g f a w Q hgood h
 unfold parG at hgood ⊢
 split at hgood <;> try exact hgood.elim
 rename_i t hx
 have hg0 := hgood none 0
 simp only [RG.Good, SB.val_sym] at hg0
 refine call_wp hc h.slots rfl (l := [.one (.str t)]) ?_ hfn (hk t w hg0 h.old) ?_
 · simp only [evalList, evalO, hx]
 · rintro en w' ⟨a', c', rfl, hown, hb⟩
   refine ⟨_, rfl, a', c', rfl, f, ?_⟩
   rw [hdst]
   exact h.callOwnV hb hd (o := ⟨34, 17, a', (pa t).l.length, c', cellsL (pa t).l⟩) hown rfl
noncomputable def eqQ (l l' : List Rq) : Bool := @decide (l.map Rq.pv = l'.map Rq.pv) (Classical.propDecidable _)
def lenQ (l : List Rq) : Bool := decide (l.length ≤ 3900000000)
noncomputable def samG (x y d i j : Nat) (s : SL) (m : Mem) (g : Gh) : RG := match Sx.look s x, Sx.look s y, g[i]?, g[j]? with
 | some (.one (.sl a n c)), some (.one (.sl a' n' c')), some ow, some ow' => .leaf .nrm (.sym ((okQ ow a n c && okQ ow' a' n' c') && (lenQ (unC ow.xs) && lenQ (unC ow'.xs)))) (putS (some d) (.one (.bool (.sym (eqQ (unC ow.xs) (unC ow'.xs))))) s) m g
 | _, _, _, _ => .fail
theorem samG_ok {W : Bs} {nt x y d i j : Nat} {o : Oper} (hc : callOf o = some (.func 14, [.tmp x, .tmp y])) (hdst : o.dst = some d) (hd : d < nt) : CallOk W Tryz.prog nt o (samG x y d i j) := by
 intro s m g f a w Q hgood h
 unfold samG at hgood ⊢
 split at hgood <;> try exact hgood.elim
 rename_i sa n c sa' n' c' ow ow' hx hy hgi hgj
 have hg0 : (SB.sym ((okQ ow sa n c && okQ ow' sa' n' c') && (lenQ (unC ow.xs) && lenQ (unC ow'.xs)))).val = true := hgood
 rw [SB.val_sym] at hg0
 simp only [Bool.and_eq_true] at hg0
 obtain ⟨⟨h1, h2⟩, h3, h4⟩ := hg0
 have r1 := ownQ_row (@of_decide_eq_true _ (Classical.propDecidable _) h1) (h.gh.own i ow hgi)
 have r2 := ownQ_row (@of_decide_eq_true _ (Classical.propDecidable _) h2) (h.gh.own j ow' hgj)
 refine call_wp hc h.slots rfl (l := [.one (.sl sa n c), .one (.sl sa' n' c')]) ?_ ⟨_, Tryz.func14, by kernel_rfl, by kernel_rfl⟩ (same_calls (W := w) (rowK_of r1 (of_decide_eq_true h3)) (rowK_of r2 (of_decide_eq_true h4))) ?_
 · simp only [evalList, evalO, hx, hy]
 · rintro en w' ⟨rfl, hb⟩
   refine ⟨_, rfl, rfl, f, ?_⟩
   have e : sameA w sa n sa' n' = eqQ (unC ow.xs) (unC ow'.xs) := by
    have := sameA_list r1 r2
    unfold eqQ
    cases hz : sameA w sa n sa' n'
    · rw [hz] at this
      exact (@decide_eq_false _ (Classical.propDecidable _) (fun e => by have := this.2 e; cases this)).symm
    · rw [hz] at this
      exact (@decide_eq_true _ (Classical.propDecidable _) (this.1 rfl)).symm
   rw [hdst, e]
   exact h.call hb hd rfl
end Go.Proofs.YtjmnolhkkpaodaaGreatDoor
namespace Go.Proofs.YtjmnolhkkpaodaaGreatDoor
open Go Go.Sx Go.RowKit
set_option maxRecDepth 100000
noncomputable def ops12p (k : Nat) : Array Oper := match k, bodyOf Tryz.f12 with
 | 0, .seq _ (.seq (.region _ o _) _) => o
 | 1, .seq _ (.seq _ (.seq (.region _ o _) _)) => o
 | 2, .seq _ (.seq _ (.seq _ (.seq (.region _ o _) _))) => o
 | _, _ => #[]
noncomputable def t12p (W : World) : HG := .seq .plain (.seq (.cust (runCalls Tryz.prog W [] 100000 34 (ops12p 0) [⟨1, parG paD (fun t => lim3 t && gMax W) 10 11⟩] 0)) (.seq (.cust (runCalls Tryz.prog W [] 100000 34 (ops12p 1) [⟨1, parG paR lim3 16 17⟩] 0)) (.seq (.cust (runCalls Tryz.prog W [] 100000 34 (ops12p 2) [⟨2, samG 21 22 23 0 1⟩] 0)) .plain)))
noncomputable def x12p (W : World) (s : ByteArray) : RG := (runG Tryz.prog W [] 100000 34 (t12p W) (bodyOf Tryz.f12) (argSlots 0 [.one (.str s)]) noMem []).slim 0 [] [] [(2, false)] []
noncomputable def c12p (W : World) (s : ByteArray) (a : Option Addr) (c : Nat) (a' : Option Addr) (c' : Nat) : Bool := (lim3 s && gMax W) && (lim3 s && ((okQ ⟨34, 17, a, (paD s).l.length, c, cellsL (paD s).l⟩ a (paD s).l.length c && okQ ⟨34, 17, a', (paR s).l.length, c', cellsL (paR s).l⟩ a' (paR s).l.length c') && (lenQ (unC (cellsL (paD s).l)) && lenQ (unC (cellsL (paR s).l)))))
def g12p (s : ByteArray) (a : Option Addr) (c : Nat) (a' : Option Addr) (c' : Nat) : Gh := [⟨34, 17, a, (paD s).l.length, c, cellsL (paD s).l⟩, ⟨34, 17, a', (paR s).l.length, c', cellsL (paR s).l⟩]
noncomputable def L12p (W : World) (s : ByteArray) (a : Option Addr) (c : Nat) (a' : Option Addr) (c' : Nat) (b : SB) : RG := .leaf .ret (.sym (c12p W s a c a' c')) [(2, .one (.bool b))] ⟨[], [], 0⟩ (g12p s a c a' c')
theorem x12p_eq (W : World) (s : ByteArray) : x12p W s = .any fun a c => .any fun a' c' => .br (eqQ (unC (cellsL (paD s).l)) (unC (cellsL (paR s).l))) (.br (decide ((paD s).ln = (paR s).ln)) (L12p W s a c a' c' (.sym (decide ((paD s).er = (paR s).er)))) (L12p W s a c a' c' (.lit false))) (L12p W s a c a' c' (.lit false)) := by kernel_rfl
theorem pD_len : ∀ (k : Nat) (t : ByteArray) (l : List Rq), (pD k t l).2.length ≤ l.length + t.size
 | 0, t, l => by show l.length ≤ _; omega
 | k + 1, t, l => by
  have e : pD (k + 1) t l = bif sEq t emp then (true, l) else bif bad13 t then (false, l) else pD k (cutR t nlB) (l ++ [rdLd (cutL t nlB)]) := rfl
  rw [e]
  cases sEq t emp
  · cases hb : bad13 t
    · have h1 := cutR_lt (bad13_no hb).1
      have h2 := pD_len k (cutR t nlB) (l ++ [rdLd (cutL t nlB)])
      rw [List.length_append, List.length_singleton] at h2
      show (pD k (cutR t nlB) (l ++ [rdLd (cutL t nlB)])).2.length ≤ _
      omega
    · show l.length ≤ _
      omega
  · show l.length ≤ _
    omega
theorem paD_len (s : ByteArray) : (paD s).l.length ≤ s.size := by
 have h := pD_len s.size s []
 have h : (FD s).2.length ≤ 0 + s.size := h
 unfold paD paOf
 cases (FD s).1
 · exact Nat.zero_le _
 · show (FD s).2.length ≤ s.size
   omega
theorem paR_len (s : ByteArray) : (paR s).l.length = (paD s).l.length := by
 have := congrArg List.length (pa_eq s).l
 simpa using this.symm
theorem lim_len {s : ByteArray} (hs : lim3 s = true) {l : List Rq} (hl : l.length ≤ s.size) : lenQ (unC (cellsL l)) = true := by
 have := of_decide_eq_true hs
 unfold lenQ
 rw [unC_len]
 exact decide_eq_true (by omega)
theorem c12p_ok {W : World} {s : ByteArray} (hs : lim3 s = true) (hm : gMax W = true) (a : Option Addr) (c : Nat) (a' : Option Addr) (c' : Nat) : c12p W s a c a' c' = true := by
 unfold c12p
 rw [hs, hm, okQ_cells, okQ_cells, lim_len hs (paD_len s), lim_len hs (by rw [paR_len]; exact paD_len s)]
 rfl
theorem eq_unC (s : ByteArray) : eqQ (unC (cellsL (paD s).l)) (unC (cellsL (paR s).l)) = true := by
 unfold eqQ
 refine @decide_eq_true _ (Classical.propDecidable _) ?_
 rw [unC_pv, unC_pv]
 exact (pa_eq s).l
noncomputable def op12p (k i : Nat) : Oper := match (ops12p k).toList[i]? with
 | some o => o
 | none => op49w
theorem hg12p (W : World) : HGW (Bs.of W) Tryz.prog 34 (t12p W) (bodyOf Tryz.f12) := by
 obtain ⟨e, he⟩ : ∃ e : Code × Nat × Nat × Nat × Code, bodyOf Tryz.f12 = .seq e.1 (.seq (.region e.2.1 (ops12p 0) false) (.seq (.region e.2.2.1 (ops12p 1) false) (.seq (.region e.2.2.2.1 (ops12p 2) false) e.2.2.2.2))) :=
  ⟨match bodyOf Tryz.f12 with | .seq x1 (.seq (.region i _ _) (.seq (.region j _ _) (.seq (.region k _ _) x2))) => (x1, i, j, k, x2) | _ => (.skip, 0, 0, 0, .skip), by kernel_rfl⟩
 constructor
 rw [he]
 refine ⟨trivial, ?_, ?_, ?_, trivial⟩
 · refine calls_cust (gok_nil _) (fun c hc => ?_) (by simp)
   rw [List.mem_singleton] at hc
   subst hc
   refine callG_of (o := op12p 0 1) (by kernel_rfl) (by kernel_rfl) (parG_ok (gf := 13) (by kernel_rfl) (by kernel_rfl) (by decide) ⟨_, Tryz.func13, by kernel_rfl, by kernel_rfl⟩ fun t w ht ho => ?_)
   rw [Bool.and_eq_true] at ht
   exact parse13_calls ht.1 (gMax_old ht.2 ho)
 · refine calls_cust (gok_nil _) (fun c hc => ?_) (by simp)
   rw [List.mem_singleton] at hc
   subst hc
   exact callG_of (o := op12p 1 1) (by kernel_rfl) (by kernel_rfl) (parG_ok (gf := 21) (by kernel_rfl) (by kernel_rfl) (by decide) ⟨_, Tryz.func21, by kernel_rfl, by kernel_rfl⟩ fun t w ht _ => parse21_calls ht)
 · refine calls_cust (gok_nil _) (fun c hc => ?_) (by simp)
   rw [List.mem_singleton] at hc
   subst hc
   exact callG_of (o := op12p 2 2) (by kernel_rfl) (by kernel_rfl) (samG_ok (by kernel_rfl) (by kernel_rfl) (by decide))
theorem parses_calls {W : World} {s : ByteArray} (hs : lim3 s = true) (hm : gMax W = true) : Calls Tryz.prog 12 #[.string s] W fun en w' => en = .returned (.bool true) ∧ Below W.heap.size W w' := by
 have hn : Tryz.f12.ntmps = 34 := by kernel_rfl
 have hcalls := calls_of_runG (gok_nil W) (n := 100000) (g := 12) Tryz.func12 (show Tryz.f12.body = some (bodyOf Tryz.f12) by kernel_rfl) (t := t12p W) (args := [.one (.str s)]) (by rw [hn]; exact (hg12p W).h) (by rw [hn]; simp)
  (R := fun v _ => ∃ q, v = .one (.bool q) ∧ q.val = true) (N := 0) (ks := []) (bs := []) (ke := [(2, false)]) (be := []) rfl rfl ?_
 · refine hcalls.mono ?_
   rintro en w' ⟨v, g, f, ⟨q, rfl, hq⟩, rfl, _, hb⟩
   refine ⟨?_, hb⟩
   rw [← hq]
   rfl
 · rw [hn]
   show (x12p W s).All _
   rw [x12p_eq]
   intro a c a' c'
   have hP := pa_eq s
   have hc : (SB.sym (c12p W s a c a' c')).val = true := by rw [SB.val_sym]; exact c12p_ok hs hm a c a' c'
   refine ⟨fun _ => ⟨fun _ => ?_, fun h => ?_⟩, fun h => ?_⟩
   · exact ⟨hc, .inr rfl, [(false, [.bool (.sym (decide ((paD s).er = (paR s).er)))])], _, by kernel_rfl, rfl, _, rfl, by rw [SB.val_sym]; exact decide_eq_true hP.er⟩
   · exact absurd hP.ln (of_decide_eq_false h)
   · rw [eq_unC] at h
     cases h
def F12 (W : World) : List TV → Option (SB × TV)
 | [.one (.str s)] => some (.sym (lim3 s && gMax W), .one (.bool (.lit true)))
 | _ => none
theorem parses_ok (W : World) : SpecOk W Tryz.prog 12 (specV (F12 W)) := by
 refine specV_calls ⟨Tryz.f12, Tryz.func12, by kernel_rfl, by kernel_rfl⟩ fun args c v hv hc => ?_
 unfold F12 at hv
 split at hv <;> try contradiction
 rename_i s
 simp only [Option.some.injEq, Prod.mk.injEq] at hv
 obtain ⟨rfl, rfl⟩ := hv
 rw [SB.val_sym, Bool.and_eq_true] at hc
 exact ⟨by simp, fun w ho f => parses_calls hc.1 (gMax_old hc.2 ho)⟩
end Go.Proofs.YtjmnolhkkpaodaaGreatDoor
namespace Go.Sx
open Go Go.RowKit
set_option maxRecDepth 100000
section
variable {W : Bs} {P : Program} {G : List (Nat × Spec)} {nt : Nat} {f : Nat → Nat} {a : Act} {w : World}
theorem mem0 {f : Nat → Nat} {N : Nat} (w w0 : World) (X : Nat → Prop) : MOk w0 X f ⟨[], [], N⟩ w := by
 refine ⟨?_, ?_, ?_, ?_, ?_, ?_⟩ <;> intro b <;> simp [look, Mem.get, findC]
theorem GSt.tail0 {S : SL} {m : Mem} {g : Gh} (h : GSt W nt S m g f a w) : GSt (Bs.of w) nt S ⟨[], [], 0⟩ [] f a w := by
 refine ⟨h.size, h.defers, h.slots, mem0 w w _, ?_, ⟨rfl, rfl, rfl, Nat.le_refl _, fun _ _ _ => rfl, (Bs.of w).base⟩, ?_, ?_, ?_, ?_, ?_⟩
 · intro b j hj; simp [look] at hj
 · intro i hi; cases hi
 · intro q o ho; simp at ho
 · intro q o ho; simp at ho
 · intro q o ho; simp at ho
 · intro q q' o p ho; simp at ho
theorem GSt.untail0 {S S' : SL} {m : Mem} {g g' : Gh} (h : GSt W nt S m g f a w) (hp : W.pin = none) {f2 : Nat → Nat} {a2 : Act} {w2 : World} {m' : Mem} {N : Nat} (h2 : GSt (Bs.of w) nt S' m' g' f2 a2 w2) : GSt W nt S' ⟨[], [], N⟩ [] f2 a2 w2 := by
 refine ⟨h2.size, h2.defers, h2.slots, mem0 w2 w2 _, ?_, ?_, ?_, ?_, ?_, ?_, ?_⟩
 · intro b j hj; simp [look] at hj
 · have h1 := h.fr
   have h3 := h2.fr
   exact ⟨h3.os.trans h1.os, h3.tape.trans h1.tape, h3.output.trans h1.output, Nat.le_trans h1.size h3.size, fun i hi hx => (h3.same i (Nat.lt_of_lt_of_le hi h1.size) (fun hh => hh)).trans (h1.same i hi hx), h1.base⟩
 · intro i hi; rw [hp] at hi; cases hi
 · intro q o ho; simp at ho
 · intro q o ho; simp at ho
 · intro q o ho; simp at ho
 · intro q q' o p ho; simp at ho
theorem tail0_wp {n : Nat} {t : HG} {c : Code} {S : SL} {m : Mem} {g : Gh} (hst : GSt W nt S m g f a w) (hp : W.pin = none) (hG : GOk w P G) (ht : HGW (Bs.of w) P nt t c) {E : RG}
  (hres : AllW (runG P w G n nt t c S ⟨[], [], 0⟩ []) fun e vc s _ _ => vc.val = true ∧
   ∀ f2 a2 w2 e', exOf e = some e' → GSt W nt s ⟨[], [], 0⟩ [] f2 a2 w2 → GPost W nt E e' a2 w2) : c.wp P (GPost W nt E) a w := by
 have hgd := RG.All.good (fun _ _ _ _ _ h => h.1) hres.h
 refine wp_mono (runG_sound (W := Bs.of w) hG t c _ _ _ _ _ w ht.h hgd hst.tail0) ?_
 intro e a2 w2 hp2
 obtain ⟨ex, vc, s, m', g2, ⟨_, hk⟩, hex, f2, hst2⟩ := RG.All.meet hres.h hp2
 exact hk f2 a2 w2 e hex (hst.untail0 hp hst2)
end
end Go.Sx
namespace Go.Proofs.YtjmnolhkkpaodaaGreatDoor
open Go Go.Sx Go.RowKit
set_option maxRecDepth 100000
noncomputable def ops7 (k : Nat) : Array Oper := match k, bodyOf Tryz.f7 with
 | 0, .seq _ (.seq (.region _ o _) _) => o
 | 1, .seq _ (.seq _ (.seq (.region _ o _) _)) => o
 | 2, .seq _ (.seq _ (.seq _ (.seq (.region _ o _) _))) => o
 | _, _ => #[]
def kn1 : Rq := ⟨1, 0, 162, fun i => decide (i = 0)⟩
def kn2 : Rq := ⟨8, 0, 0, fun i => decide (i = 12) || decide (i = 13)⟩
def kn3 : Rq := ⟨7, 4779, 15, fun i => decide (i = 8) || decide (i = 10)⟩
noncomputable def fmtK (l : List Rq) (x d : Nat) (s : SL) (m : Mem) (g : Gh) : RG := match Sx.look s x with
 | some (.one (.row b 0 n c)) => match Sx.look m.blks b, m.cells with
  | some i, [] => .leaf .nrm (.sym ((@decide (∀ f : Nat → Nat, dens f i.init = (valsL l).toArray) (Classical.propDecidable _) && Nat.beq n l.length) && okFm l)) (putS (some d) (.one (.str (fmtT l))) s) m g
  | _, _ => .fail
 | _ => .fail
noncomputable def parC (pa : ByteArray → Pa) (t : ByteArray) (cf : Bool) (d : Nat) (s : SL) (m : Mem) (g : Gh) : RG :=
 .any fun a k => .leaf .nrm (.sym cf) (putS (some d) (.tup [(false, [.sl a (pa t).l.length k]), (false, [.int .i64 (.sym (pa t).ln)]), (false, [.int .i64 (.sym (pa t).er)])]) s) m (g ++ [⟨34, 17, a, (pa t).l.length, k, cellsL (pa t).l⟩])
theorem parC_ok {W : Bs} {nt gf d : Nat} {pa : ByteArray → Pa} {t : ByteArray} {cf : Bool} {o : Oper} (hc : callOf o = some (.func gf, [.const (.string t)])) (hdst : o.dst = some d) (hd : d < nt)
  (hfn : ∃ fn, Tryz.prog.funcs[gf]? = some fn ∧ (fn.name == "runtime.NumGoroutine") = false ∧ fn.body.isNone = false)
  (hk : ∀ (w : World), cf = true → Old W.W w → PaC w gf t (pa t)) :
  CallOk W Tryz.prog nt o (parC pa t cf d) := by
 intro s m g f a w Q hgood h
 unfold parC at hgood ⊢
 have hg0 := hgood none 0
 simp only [RG.Good, SB.val_sym] at hg0
 refine call_wp hc h.slots rfl (l := [.one (.str t)]) rfl hfn (hk w hg0 h.old) ?_
 rintro en w' ⟨a', c', rfl, hown, hb⟩
 refine ⟨_, rfl, a', c', rfl, f, ?_⟩
 rw [hdst]
 exact h.callOwnV hb hd (o := ⟨34, 17, a', (pa t).l.length, c', cellsL (pa t).l⟩) hown rfl
theorem fmtK_ok {W : Bs} {nt gf x d : Nat} {l : List Rq} {o : Oper} (hc : callOf o = some (.func gf, [.tmp x])) (hdst : o.dst = some d) (hd : d < nt)
  (hfn : ∃ fn, Tryz.prog.funcs[gf]? = some fn ∧ (fn.name == "runtime.NumGoroutine") = false ∧ fn.body.isNone = false)
  (hk : ∀ (w : World) (a : Option Addr) (n c : Nat), RowP w a n c → Calls Tryz.prog gf #[.slice a n c] w fun en w' => en = .returned (.string (fmtB w a n)) ∧ Below w.heap.size w w') :
  CallOk W Tryz.prog nt o (fmtK l x d) := by
 intro s m g f a w Q hgood h
 unfold fmtK at hgood ⊢
 split at hgood <;> try exact hgood.elim
 rename_i b n c hx
 split at hgood <;> try exact hgood.elim
 rename_i i hi hcells
 have hg0 : (SB.sym ((@decide (∀ f : Nat → Nat, dens f i.init = (valsL l).toArray) (Classical.propDecidable _) && Nat.beq n l.length) && okFm l)).val = true := hgood
 rw [SB.val_sym, Bool.and_eq_true, Bool.and_eq_true, Nat.beq_eq] at hg0
 obtain ⟨⟨h1, h2⟩, h3⟩ := hg0
 have h1 := @of_decide_eq_true _ (Classical.propDecidable _) h1
 have h3 := @of_decide_eq_true _ (Classical.propDecidable _) h3
 subst h2
 have hc0 : ∀ o' v, i.init[o']? = some v → w.cell? ⟨f b, o', none⟩ = some (v.den f) := by
  intro o' v hv
  refine h.mem.cell b o' v ?_
  simp [Mem.get, hcells, findC, hi, hv]
 have hrow : RowQ w (some ⟨f b, 0, none⟩) l.length l := by
  refine rowQ_cells fun j u hu => ?_
  have hd : (dens f i.init).toList[j]? = (valsL l)[j]? := by rw [h1 f]
  have hd : (i.init.map (SV.den f))[j]? = (valsL l)[j]? := by
   rw [← hd]
   rfl
  rw [hu, List.getElem?_map] at hd
  cases hv : i.init[j]? with
  | none => rw [hv] at hd; cases hd
  | some v =>
   rw [hv] at hd
   simp only [Option.map_some, Option.some.injEq] at hd
   rw [add_at, Nat.zero_add, hc0 j v hv, hd]
 refine call_wp hc h.slots rfl (l := [.one (.row b 0 l.length c)]) ?_ hfn (hk w (some ⟨f b, 0, none⟩) l.length c (rowP_of hrow h3)) ?_
 · simp only [evalList, evalO, hx]
 · rintro en w' ⟨rfl, hb⟩
   refine ⟨_, rfl, rfl, f, ?_⟩
   rw [hdst, fmtB_row hrow]
   exact h.call hb hd rfl
end Go.Proofs.YtjmnolhkkpaodaaGreatDoor
