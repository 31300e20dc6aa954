/- The texts of the instructions, plainly: what their last parts denote, and that they differ. -/
import Derived.Test.YtdglgiaegjkinaaDoorPb
import Derived.Laws.Strings
namespace Go.Proofs.YtdglgiaegjkinaaDoor
open Go Go.Sx Go.RowKit
set_option maxRecDepth 100000
theorem eqT_iff {a b : ByteArray} : eqT a b = true ↔ a = b := by
  unfold eqT
  rw [ByteArray.toList_eq, ByteArray.toList_eq, beq_iff_eq]
  exact ⟨ba_eq, fun h => by rw [h]⟩
theorem eqT_eq (a b : ByteArray) : eqT a b = decide (a = b) := by
  cases h : eqT a b
  · exact (decide_eq_false fun e => by rw [eqT_iff.2 e] at h; cases h).symm
  · exact (decide_eq_true (eqT_iff.1 h)).symm
def bsL (l : List Int) : List UInt8 := l.map fun n => UInt8.ofNat n.toNat
theorem strB_list (l : List Int) : (strB l).data.toList = bsL l := by
  unfold strB bsL
  rfl
theorem strB_inj {l m : List Int} : strB l = strB m ↔ bsL l = bsL m := by
  constructor
  · intro h
    rw [← strB_list, ← strB_list, h]
  · intro h
    apply ba_eq
    rw [strB_list, strB_list, h]
/-- What stands behind the first part. -/
def dig (L : Nat) (x y : Int) : List Int := match L with
  | 1 => []
  | 2 => [48, 120, hi4 x, lo4 x]
  | _ => [48, 120, hi4 y, lo4 y, hi4 x, lo4 x]
def nats (p : List Nat) : List Int := p.map fun (n : Nat) => (n : Int)
theorem txt_eq (L : Nat) (p : List Nat) (x y : Int) : txt L p x y = strB (nats p ++ dig L x y) := by
  unfold txt dig nats
  split
  · simp
  · rfl
  · split
    · rename_i h _; exact absurd rfl h
    · rename_i h; exact absurd rfl h
    · rfl
theorem bsL_app (l m : List Int) : bsL (l ++ m) = bsL l ++ bsL m := List.map_append
/-! ### Digits -/
def isDig (x : Int) : Bool := decide (0 ≤ x) && (decide (x < 128) && !isSep x)
theorem hi4_ok {x : Int} (h : 0 ≤ x ∧ x ≤ 255) : isDig (hi4 x) = true := Sx.all_u8 (p := fun x => isDig (hi4 x)) (by kernel_rfl) h
theorem lo4_ok {x : Int} (h : 0 ≤ x ∧ x ≤ 255) : isDig (lo4 x) = true := Sx.all_u8 (p := fun x => isDig (lo4 x)) (by kernel_rfl) h
theorem val2 {x : Int} (h : 0 ≤ x ∧ x ≤ 255) : valS (strB [48, 120, hi4 x, lo4 x]) 1 = some [x] :=
  of_decide_eq_true (Sx.all_u8 (p := fun x => decide (valS (strB [48, 120, hi4 x, lo4 x]) 1 = some [x])) (by kernel_rfl) h)
def nb (x : Int) : Int := ixB digs ((UInt8.ofNat x.toNat).toNat : Int)
theorem val4 (a b c d : Int) : valS (strB [48, 120, a, b, c, d]) 2 = bif (bif lt0 (nb a) then true else lt0 (nb b)) then none else bif (bif lt0 (nb c) then true else lt0 (nb d)) then none else some [byt2 (nb c) (nb d), byt2 (nb a) (nb b)] := by kernel_rfl
def nbOk (x : Int) : Bool := !(bif lt0 (nb (hi4 x)) then true else lt0 (nb (lo4 x))) && decide (byt2 (nb (hi4 x)) (nb (lo4 x)) = x)
theorem nb_ok {x : Int} (h : 0 ≤ x ∧ x ≤ 255) : nbOk x = true := Sx.all_u8 (p := nbOk) (by kernel_rfl) h
theorem val3 {x y : Int} (hx : 0 ≤ x ∧ x ≤ 255) (hy : 0 ≤ y ∧ y ≤ 255) : valS (strB [48, 120, hi4 y, lo4 y, hi4 x, lo4 x]) 2 = some [x, y] := by
  have h1 := nb_ok hx
  have h2 := nb_ok hy
  unfold nbOk at h1 h2
  rw [Bool.and_eq_true, Bool.not_eq_true', decide_eq_true_eq] at h1 h2
  rw [val4, h1.1, h2.1, h1.2, h2.2]
  rfl
/-! ### The last separator -/
theorem la_skip (s : ByteArray) (n : Nat) : ∀ m, n ≤ m → (∀ i : Nat, n ≤ i → i < m → isSep (byteAt s (i : Int)) = false) → la s m = la s n
  | 0, h, _ => by rw [show n = 0 by omega]
  | m + 1, h, hs => by
    rcases Nat.lt_or_ge n (m + 1) with h1 | h1
    · rw [la_succ, hs m (by omega) (by omega), cond_false]
      exact la_skip s n m (by omega) fun i h2 h3 => hs i h2 (by omega)
    · rw [show n = m + 1 by omega]
theorem byteAt_get (s : ByteArray) (i : Nat) : byteAt s (i : Int) = ((s.data.toList.getD i 0).toNat : Int) := by
  unfold byteAt
  rw [Int.toNat_natCast, List.getD_eq_getElem?_getD]
  cases s.data.toList[i]? <;> rfl
theorem size_list (s : ByteArray) : s.size = s.data.toList.length := (ba_len s).symm
def noSep (l : List UInt8) : Bool := l.all fun b => !isSep (b.toNat : Int)
/-- A text that ends in a separator, and a part without one behind it. -/
theorem last_of {s : ByteArray} {A B : List UInt8} {z : UInt8} (h : s.data.toList = (A ++ [z]) ++ B) (hz : isSep (z.toNat : Int) = true) (hB : noSep B = true) (hn : s.size ≤ 1000000) : lastS s = ⟨B.toArray⟩ := by
  have hlen : s.size = A.length + 1 + B.length := by rw [size_list, h]; simp; omega
  have h1 : LA s = (A.length : Int) := by
    unfold LA
    rw [hlen, la_skip s (A.length + 1) _ (by omega), la_succ, byteAt_get, h]
    · have : ((A ++ [z]) ++ B).getD A.length 0 = z := by
        rw [List.getD_eq_getElem?_getD, List.getElem?_append_left (by simp), List.getElem?_append_right (Nat.le_refl _), Nat.sub_self]
        rfl
      rw [this, hz]
      rfl
    · intro i hi1 hi2
      rw [byteAt_get, h]
      have hi3 : i - (A.length + 1) < B.length := by omega
      have : ((A ++ [z]) ++ B).getD i 0 = B[i - (A.length + 1)] := by
        rw [List.getD_eq_getElem?_getD, List.getElem?_append_right (by simp; omega)]
        simp [List.getElem?_eq_getElem hi3]
      rw [this]
      have h2 := List.all_eq_true.1 hB _ (List.getElem_mem hi3)
      simpa using h2
  unfold lastS
  have e : gadd .i64 (LA s) 1 = ((A.length + 1 : Nat) : Int) := by
    unfold gadd
    rw [IntKind.wrap_i64, h1]
    omega
  rw [decide_eq_true (show LA s ≥ 0 by omega), cond_true, e, Int.toNat_natCast]
  apply ba_eq
  rw [ByteArray.data_extract, Array.toList_extract, List.extract_eq_take_drop, h, hlen]
  rw [show A.length + 1 = (A ++ [z]).length by simp, List.drop_left]
  rw [List.take_of_length_le (by simp)]
/-! ### The tables -/
def tabL (k : Bool) : List (Nat × List Nat) := bif k then tab85 else tab80
def pfx : List Nat → List Nat → Bool
  | [], _ => true
  | a :: l, b :: m => bif Nat.beq a b then pfx l m else false
  | _ :: _, [] => false
def sameN : List Nat → List Nat → Bool
  | [], [] => true
  | a :: l, b :: m => bif Nat.beq a b then sameN l m else false
  | _, _ => false
theorem sameN_eq : ∀ {l m : List Nat}, sameN l m = true → l = m
  | [], [], _ => rfl
  | a :: l, b :: m, h => by
    unfold sameN at h
    cases hb : Nat.beq a b with
    | true =>
      rw [hb] at h
      rw [Nat.eq_of_beq_eq_true hb, sameN_eq h]
    | false => rw [hb] at h; cases h
  | [], _ :: _, h => by cases h
  | _ :: _, [], h => by cases h
theorem sameN_refl : ∀ l : List Nat, sameN l l = true
  | [] => rfl
  | a :: l => by
    unfold sameN
    rw [Nat.beq_refl, cond_true, sameN_refl l]
def pre (q : Nat × List Nat) : List Nat := q.2 ++ (bif Nat.beq q.1 1 then [] else [48, 120])
def chk (q r : Nat × List Nat) : Bool := bif Nat.beq q.1 r.1 && sameN q.2 r.2 then true else
  bif Nat.beq q.1 1 && Nat.beq r.1 1 then true else (!pfx (pre q) (pre r)) && !pfx (pre r) (pre q)
def chkT (l : List (Nat × List Nat)) : Bool := l.all fun q => l.all fun r => chk q r
theorem chk_all (k : Bool) : chkT (tabL k) = true := by
  cases k
  · kernel_rfl
  · kernel_rfl
/-- What holds of each entry: it is short, its letters are below 128, it ends in a separator if more stands behind it. -/
def ent1 (q : Nat × List Nat) : Bool := q.2.all (fun n => Nat.blt n 128) && (Nat.blt q.2.length 100 && (Nat.beq q.1 1 || (match q.2.getLast? with | some z => Nat.beq z 32 || Nat.beq z 44 | none => false)))
theorem ent_all (k : Bool) : (tabL k).all ent1 = true := by
  cases k
  · kernel_rfl
  · kernel_rfl
theorem tab_mem (k : Bool) (v : Nat) (hv : v < 256) : tabK k v ∈ tabL k := by
  have hl : (tabL k).length = 256 := by cases k <;> kernel_rfl
  have e : tabK k v = (tabL k).getD v (0, []) := rfl
  rw [e, List.getD_eq_getElem?_getD, List.getElem?_eq_getElem (by omega)]
  exact List.getElem_mem _
theorem ofNat_inj {a b : Nat} (ha : a < 256) (hb : b < 256) (h : UInt8.ofNat a = UInt8.ofNat b) : a = b := by
  have := congrArg UInt8.toNat h
  rw [UInt8.toNat_ofNat', UInt8.toNat_ofNat'] at this
  omega
theorem bsL_nats (p : List Nat) : bsL (nats p) = p.map UInt8.ofNat := by
  unfold bsL nats
  rw [List.map_map]
  rfl
theorem pfx_of : ∀ {l m : List Nat} {a : List UInt8}, (∀ n ∈ l, n < 256) → (∀ n ∈ m, n < 256) → m.map UInt8.ofNat = l.map UInt8.ofNat ++ a → pfx l m = true
  | [], _, _, _, _, _ => by unfold pfx; rfl
  | x :: l, [], _, _, _, h => by simp at h
  | x :: l, y :: m, a, hl, hm, h => by
    simp only [List.map_cons, List.cons_append, List.cons.injEq] at h
    have e := ofNat_inj (hm y (by simp)) (hl x (by simp)) h.1
    unfold pfx
    rw [e, Nat.beq_refl, cond_true]
    exact pfx_of (fun n hn => hl n (by simp [hn])) (fun n hn => hm n (by simp [hn])) h.2
theorem map_inj : ∀ {l m : List Nat}, (∀ n ∈ l, n < 256) → (∀ n ∈ m, n < 256) → m.map UInt8.ofNat = l.map UInt8.ofNat → l = m
  | [], [], _, _, _ => rfl
  | [], _ :: _, _, _, h => by simp at h
  | _ :: _, [], _, _, h => by simp at h
  | x :: l, y :: m, hl, hm, h => by
    simp only [List.map_cons, List.cons.injEq] at h
    rw [ofNat_inj (hm y (by simp)) (hl x (by simp)) h.1, map_inj (fun n hn => hl n (by simp [hn])) (fun n hn => hm n (by simp [hn])) h.2]
theorem ent_lt {q : Nat × List Nat} (h : ent1 q = true) : ∀ n ∈ q.2, n < 128 := by
  intro n hn
  unfold ent1 at h
  rw [Bool.and_eq_true] at h
  have := List.all_eq_true.1 h.1 n hn
  rwa [Nat.blt_eq] at this
/-- The digits alone, behind '0x'. -/
def digs2 (L : Nat) (x y : Int) : List Int := match L with
  | 1 => []
  | 2 => [hi4 x, lo4 x]
  | _ => [hi4 y, lo4 y, hi4 x, lo4 x]
theorem txt_pre (q : Nat × List Nat) (x y : Int) (hL : q.1 = 1 ∨ q.1 = 2 ∨ q.1 = 3) : bsL (nats q.2 ++ dig q.1 x y) = (pre q).map UInt8.ofNat ++ bsL (digs2 q.1 x y) := by
  obtain ⟨L, p⟩ := q
  dsimp only at hL
  rw [bsL_app, bsL_nats]
  unfold pre
  rw [List.map_append, List.append_assoc]
  congr 1
  rcases hL with rfl | rfl | rfl <;> rfl
theorem bsL_strB {l m : List Int} (h : bsL l = bsL m) : strB l = strB m := strB_inj.2 h
/-- The same text, the same instruction. -/
theorem txt_inj {k : Bool} {v v' : Nat} (hv : v < 256) (hv' : v' < 256) {x y x' y' : Int} (hx : 0 ≤ x ∧ x ≤ 255) (hy : 0 ≤ y ∧ y ≤ 255) (hx' : 0 ≤ x' ∧ x' ≤ 255) (hy' : 0 ≤ y' ∧ y' ≤ 255)
    (h : txt (tabK k v).1 (tabK k v).2 x y = txt (tabK k v').1 (tabK k v').2 x' y') : tabK k v = tabK k v' ∧ ((tabK k v).1 = 1 ∨ ((tabK k v).1 = 2 ∧ x = x') ∨ ((tabK k v).1 = 3 ∧ x = x' ∧ y = y')) := by
  have hL := lens k v hv
  have hL' := lens k v' hv'
  have hm := tab_mem k v hv
  have hm' := tab_mem k v' hv'
  have hc := List.all_eq_true.1 (List.all_eq_true.1 (chk_all k) _ hm) _ hm'
  have hlt := ent_lt (List.all_eq_true.1 (ent_all k) _ hm)
  have hlt' := ent_lt (List.all_eq_true.1 (ent_all k) _ hm')
  generalize tabK k v = q at *
  generalize tabK k v' = r at *
  rw [txt_eq, txt_eq, strB_inj] at h
  have hplt : ∀ n ∈ pre q, n < 256 := by
    intro n hn
    unfold pre at hn
    rw [List.mem_append] at hn
    rcases hn with hn | hn
    · have := hlt n hn; omega
    · cases hb : Nat.beq q.1 1 <;> rw [hb] at hn <;> simp at hn <;> omega
  have hplt' : ∀ n ∈ pre r, n < 256 := by
    intro n hn
    unfold pre at hn
    rw [List.mem_append] at hn
    rcases hn with hn | hn
    · have := hlt' n hn; omega
    · cases hb : Nat.beq r.1 1 <;> rw [hb] at hn <;> simp at hn <;> omega
  have hqr : q = r := by
    unfold chk at hc
    cases h1 : (Nat.beq q.1 r.1 && sameN q.2 r.2) with
    | true =>
      rw [Bool.and_eq_true, Nat.beq_eq] at h1
      exact Prod.ext h1.1 (sameN_eq h1.2)
    | false =>
      rw [h1, cond_false] at hc
      cases h2 : (Nat.beq q.1 1 && Nat.beq r.1 1) with
      | true =>
        rw [Bool.and_eq_true, Nat.beq_eq, Nat.beq_eq] at h2
        rw [h2.1, h2.2] at h
        simp only [dig, List.append_nil, bsL_nats] at h
        have := map_inj (fun n hn => Nat.lt_trans (hlt' n hn) (by decide)) (fun n hn => Nat.lt_trans (hlt n hn) (by decide)) h
        rw [h2.1, h2.2, this, sameN_refl] at h1
        cases h1
      | false =>
        rw [h2, cond_false, Bool.and_eq_true, Bool.not_eq_true', Bool.not_eq_true'] at hc
        rw [txt_pre q x y hL, txt_pre r x' y' hL', List.append_eq_append_iff] at h
        rcases h with ⟨a, h3, _⟩ | ⟨a, h3, _⟩
        · rw [pfx_of hplt hplt' h3] at hc
          cases hc.1
        · rw [pfx_of hplt' hplt h3] at hc
          cases hc.2
  refine ⟨hqr, ?_⟩
  subst hqr
  rw [bsL_app, bsL_app, List.append_cancel_left_eq] at h
  have hs := bsL_strB h
  rcases hL with h1 | h1 | h1
  · exact .inl h1
  · right; left
    rw [h1] at hs
    have e1 := val2 hx
    have e2 := val2 hx'
    rw [show strB [48, 120, hi4 x, lo4 x] = strB [48, 120, hi4 x', lo4 x'] from hs, e2] at e1
    simp only [Option.some.injEq, List.cons.injEq, and_true] at e1
    exact ⟨h1, e1.symm⟩
  · right; right
    rw [h1] at hs
    have e1 := val3 hx hy
    have e2 := val3 hx' hy'
    rw [show strB [48, 120, hi4 y, lo4 y, hi4 x, lo4 x] = strB [48, 120, hi4 y', lo4 y', hi4 x', lo4 x'] from hs, e2] at e1
    simp only [Option.some.injEq, List.cons.injEq, and_true] at e1
    exact ⟨h1, e1.1.symm, e1.2.symm⟩
def idx (q : Nat × List Nat) : List (Nat × List Nat) → Nat → Nat
  | [], i => i
  | r :: l, i => bif Nat.beq q.1 r.1 && sameN q.2 r.2 then i else idx q l (i + 1)
theorem uniq_all : ((List.range 256).all fun v => Nat.beq (idx (tabK true v) tab85 0) v) = true := by kernel_rfl
theorem uniq {m n : Nat} (hm : m < 256) (hn : n < 256) (h : tabK true m = tabK true n) : m = n := by
  have h1 := List.all_eq_true.1 uniq_all m (List.mem_range.2 hm)
  have h2 := List.all_eq_true.1 uniq_all n (List.mem_range.2 hn)
  rw [Nat.beq_eq] at h1 h2
  rw [← h1, ← h2, h]
end Go.Proofs.YtdglgiaegjkinaaDoor
