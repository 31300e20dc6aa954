/- Rows of entries and of bytes by what lies in them; the calls of Encode and Decode upon own rows and upon those that came in. -/
import Derived.Test.YtdfplmkaaodblaaBag
namespace Go.Proofs.Ytdfplmkaaodblaa.dc
open Go Go.Sx Go.RowKit
set_option maxRecDepth 100000
/-- An entry: eight flags, two bytes. -/
structure Ent where
  b0 : Bool
  b1 : Bool
  b2 : Bool
  b3 : Bool
  b4 : Bool
  b5 : Bool
  b6 : Bool
  b7 : Bool
  i8 : Int
  i9 : Int
def Ent.L (e : Ent) : List SV := [.bool (.sym e.b0), .bool (.sym e.b1), .bool (.sym e.b2), .bool (.sym e.b3), .bool (.sym e.b4), .bool (.sym e.b5), .bool (.sym e.b6), .bool (.sym e.b7), .int .u8 (.sym e.i8), .int .u8 (.sym e.i9)]
def ents : List Ent → List SV
  | [] => []
  | e :: r => e.L ++ ents r
theorem ents_append : ∀ (l r : List Ent), ents (l ++ r) = ents l ++ ents r
  | [], r => rfl
  | e :: l, r => by rw [List.cons_append, ents, ents, ents_append l r, List.append_assoc]
theorem ents_length : ∀ l : List Ent, (ents l).length = 10 * l.length
  | [] => rfl
  | e :: l => by rw [ents, List.length_append, ents_length l, List.length_cons, show e.L.length = 10 from rfl]; omega
def unE : List SV → List Ent
  | .bool a0 :: .bool a1 :: .bool a2 :: .bool a3 :: .bool a4 :: .bool a5 :: .bool a6 :: .bool a7 :: .int _ x :: .int _ y :: r => ⟨a0.val, a1.val, a2.val, a3.val, a4.val, a5.val, a6.val, a7.val, x.val, y.val⟩ :: unE r
  | _ => []
theorem unE_ents : ∀ l : List Ent, unE (ents l) = l
  | [] => rfl
  | e :: l => by rw [ents]; exact congrArg (e :: ·) (unE_ents l)
def bys (l : List Int) : List SV := l.map fun z => .int .u8 (.sym z)
def unB : List SV → List Int
  | .int _ x :: r => x.val :: unB r
  | _ => []
theorem unB_bys : ∀ l : List Int, unB (bys l) = l
  | [] => rfl
  | z :: l => congrArg (z :: ·) (unB_bys l)
theorem ents_get {l : List Ent} {k : Nat} {e : Ent} (h : l[k]? = some e) {i : Nat} (hi : i < 10) : (ents l)[10 * k + i]? = e.L[i]? := by
  induction l generalizing k with
  | nil => simp at h
  | cons x l ih =>
    rw [ents]
    cases k with
    | zero =>
      simp only [List.getElem?_cons_zero, Option.some.injEq] at h
      subst h
      rw [List.getElem?_append_left (by show _ < 10; omega)]
      rw [Nat.mul_zero, Nat.zero_add]
    | succ k =>
      simp only [List.getElem?_cons_succ] at h
      rw [List.getElem?_append_right (by show 10 ≤ _; omega), ← ih h]
      congr 1
      show 10 * (k + 1) + i - 10 = _
      omega
/-- The same values, wherever pointers lie. -/
abbrev den0 : SV → Value := SV.den fun _ => 0
/-- A row of entries that lies in memory. -/
structure RowE (w : World) (a : Option Addr) (n c : Nat) (es : List Ent) : Prop where
  le : n ≤ c
  max : c ≤ maxLen
  nil : a = none → n = 0
  len : es.length = n
  at_ : ∀ (j : Nat) (u : Value), ((ents es).map den0)[j]? = some u → w.cell? ((a.getD default).add j) = some u
/-- A row of bytes that lies in memory. -/
structure RowZ (w : World) (a : Option Addr) (n c : Nat) (zs : List Int) : Prop where
  le : n ≤ c
  max : c ≤ maxLen
  nil : a = none → n = 0
  len : zs.length = n
  at_ : ∀ (j : Nat) (z : Int), zs[j]? = some z → w.cell? ((a.getD default).add j) = some (.int .u8 z)
theorem owns_cap {w : World} {B e size : Nat} {a : Option Addr} {n c : Nat} {xs : List Value} (h : w.ownsRow B e size (.slice a n c) n xs) : n ≤ c ∧ c ≤ maxLen ∧ (a = none → n = 0) ∧ ∀ (j : Nat) (u : Value), xs[j]? = some u → w.cell? ((a.getD default).add j) = some u := by
  obtain ⟨h1, ⟨h2, rfl⟩ | ⟨b, cap, cur, h3, h4, h5, h6, h7, h8, h9⟩⟩ := h
  · injection h2 with h3 h4 h5
    subst h3 h5
    rw [Nat.zero_mul] at h1
    have := List.eq_nil_of_length_eq_zero h1
    subst this
    exact ⟨Nat.le_refl _, Nat.zero_le _, fun _ => rfl, fun j u hj => by simp at hj⟩
  · injection h3 with h10 _ h11
    subst h10 h11
    refine ⟨h6, h7, fun h => (by cases h), fun j u hj => ?_⟩
    have hrow : w.ownsRow B e size (.slice (some ⟨b, 0, none⟩) n c) n xs := ⟨h1, .inr ⟨b, c, cur, rfl, h4, h5, h6, h7, h8, h9⟩⟩
    exact World.ownsRow.cells hrow rfl j u hj
theorem own_rowE {w : World} {B : Nat} {a : Option Addr} {n c : Nat} {es : List Ent} (h : w.ownsRow B 32 10 (.slice a n c) n ((ents es).map den0)) : RowE w a n c es := by
  obtain ⟨h1, h2, h3, h4⟩ := owns_cap h
  have hl := h.1
  rw [List.length_map, ents_length] at hl
  exact ⟨h1, h2, h3, by omega, h4⟩
theorem own_rowZ {w : World} {B : Nat} {a : Option Addr} {n c : Nat} {zs : List Int} (h : w.ownsRow B 5 1 (.slice a n c) n ((bys zs).map den0)) : RowZ w a n c zs := by
  obtain ⟨h1, h2, h3, h4⟩ := owns_cap h
  have hl := h.1
  unfold bys at hl
  rw [List.length_map, List.length_map] at hl
  refine ⟨h1, h2, h3, by omega, fun j z hj => h4 j _ ?_⟩
  unfold bys
  rw [List.map_map, List.getElem?_map, hj]
  rfl
theorem RowE.old {W w : World} (ho : Old W w) {a : Option Addr} {n c : Nat} {es : List Ent} (h : RowE W a n c es) : RowE w a n c es := ⟨h.le, h.max, h.nil, h.len, fun j u hj => ho.cell (h.at_ j u hj)⟩
theorem RowZ.old {W w : World} (ho : Old W w) {a : Option Addr} {n c : Nat} {zs : List Int} (h : RowZ W a n c zs) : RowZ w a n c zs := ⟨h.le, h.max, h.nil, h.len, fun j u hj => ho.cell (h.at_ j u hj)⟩
/-- The entries of a row that came in. -/
def entW (W : World) (a : Option Addr) (k : Nat) : Ent := ⟨rb W a k 0, rb W a k 1, rb W a k 2, rb W a k 3, rb W a k 4, rb W a k 5, rb W a k 6, rb W a k 7, ri W a k 8, ri W a k 9⟩
def entL (W : World) (a : Option Addr) : Nat → List Ent
  | 0 => []
  | k + 1 => entL W a k ++ [entW W a k]
theorem entL_length (W : World) (a : Option Addr) : ∀ n, (entL W a n).length = n
  | 0 => rfl
  | n + 1 => by rw [entL, List.length_append, entL_length W a n, List.length_singleton]
theorem RowS.cells {W : World} {a : Option Addr} {n c : Nat} (h : RowS W a n c) : ∀ k, k ≤ n → ∀ (j : Nat) (u : Value), ((ents (entL W a k)).map den0)[j]? = some u → W.cell? ((a.getD default).add j) = some u
  | 0, _, j, u, hj => by simp [entL, ents] at hj
  | k + 1, hk, j, u, hj => by
    rw [entL, ents_append, List.map_append] at hj
    have hl : ((ents (entL W a k)).map den0).length = 10 * k := by rw [List.length_map, ents_length, entL_length]
    by_cases hjk : j < 10 * k
    · rw [List.getElem?_append_left (by omega)] at hj
      exact h.cells k (by omega) j u hj
    · rw [List.getElem?_append_right (by omega), hl, ents, ents, List.append_nil] at hj
      obtain ⟨i, rfl⟩ : ∃ i, j = 10 * k + i := ⟨j - 10 * k, by omega⟩
      rw [Nat.add_sub_cancel_left] at hj
      have hi : i < 10 := by
        have := (List.getElem?_eq_some_iff.1 hj).1
        rw [List.length_map] at this
        exact this
      have hf : ∀ i, i < 8 → W.cell? ((a.getD default).add (10 * k + i)) = some (.bool (rb W a k i)) := fun i hi => by
        unfold rb
        rw [ea_eq]
        exact isBool_cell (h.flag k (by omega) i hi)
      have hb : ∀ i, i = 8 ∨ i = 9 → W.cell? ((a.getD default).add (10 * k + i)) = some (.int .u8 (ri W a k i)) := fun i hi => by
        unfold ri
        rw [ea_eq]
        exact isInt_cell (h.byte k (by omega) i hi)
      rcases i with _ | _ | _ | _ | _ | _ | _ | _ | _ | _ | i
      · rw [hf 0 (by decide)]; exact hj
      · rw [hf 1 (by decide)]; exact hj
      · rw [hf 2 (by decide)]; exact hj
      · rw [hf 3 (by decide)]; exact hj
      · rw [hf 4 (by decide)]; exact hj
      · rw [hf 5 (by decide)]; exact hj
      · rw [hf 6 (by decide)]; exact hj
      · rw [hf 7 (by decide)]; exact hj
      · rw [hb 8 (.inl rfl)]; exact hj
      · rw [hb 9 (.inr rfl)]; exact hj
      · omega
theorem RowS.rowE {W : World} {a : Option Addr} {n c : Nat} (h : RowS W a n c) : RowE W a n c (entL W a n) := ⟨h.le, h.max, h.nil, entL_length W a n, h.cells n (Nat.le_refl _)⟩
/-- What is read of such a row. -/
theorem RowE.read {w : World} {a : Option Addr} {n c : Nat} {es : List Ent} (h : RowE w a n c es) {k : Nat} {e : Ent} (he : es[k]? = some e) : entW w a k = e ∧ (∀ i, i < 8 → isBool w ((a.getD default).add (10 * k + i)) = true) ∧ ∀ i, i = 8 ∨ i = 9 → isInt w .u8 ((a.getD default).add (10 * k + i)) = true := by
  have hc : ∀ i v, e.L[i]? = some v → i < 10 → w.cell? ((a.getD default).add (10 * k + i)) = some (den0 v) := fun i v hv hi => h.at_ _ _ (by rw [List.getElem?_map, ents_get he hi, hv]; rfl)
  have f0 := isBool_of (hc 0 _ rfl (by decide))
  have f1 := isBool_of (hc 1 _ rfl (by decide))
  have f2 := isBool_of (hc 2 _ rfl (by decide))
  have f3 := isBool_of (hc 3 _ rfl (by decide))
  have f4 := isBool_of (hc 4 _ rfl (by decide))
  have f5 := isBool_of (hc 5 _ rfl (by decide))
  have f6 := isBool_of (hc 6 _ rfl (by decide))
  have f7 := isBool_of (hc 7 _ rfl (by decide))
  have f8 := isInt_of (hc 8 _ rfl (by decide))
  have f9 := isInt_of (hc 9 _ rfl (by decide))
  refine ⟨?_, ?_, ?_⟩
  · unfold entW rb ri
    simp only [ea_eq]
    rw [f0.2, f1.2, f2.2, f3.2, f4.2, f5.2, f6.2, f7.2, f8.2, f9.2]
    rfl
  · intro i hi
    rcases i with _ | _ | _ | _ | _ | _ | _ | _ | i
    · exact f0.1
    · exact f1.1
    · exact f2.1
    · exact f3.1
    · exact f4.1
    · exact f5.1
    · exact f6.1
    · exact f7.1
    · omega
  · rintro i (rfl | rfl)
    · exact f8.1
    · exact f9.1
theorem RowE.get {w : World} {a : Option Addr} {n c : Nat} {es : List Ent} (h : RowE w a n c es) {k : Nat} (hk : k < n) : ∃ e, es[k]? = some e := ⟨es[k]'(by have := h.len; omega), by simp [h.len, hk]⟩
theorem RowE.rowS {w : World} {a : Option Addr} {n c : Nat} {es : List Ent} (h : RowE w a n c es) : RowS w a n c := by
  refine ⟨h.le, h.max, h.nil, fun j hj i hi => ?_, fun j hj i hi => ?_⟩
  · obtain ⟨e, he⟩ := h.get hj
    exact (h.read he).2.1 i hi
  · obtain ⟨e, he⟩ := h.get hj
    exact (h.read he).2.2 i hi
/-- The bytes of entries. -/
def Ent.c (e : Ent) : Int := ctl e.b0 e.b1 e.b2 e.b3 e.b4 e.b5 e.b6 e.b7
def Ent.z (e : Ent) : List Int := [e.c, e.i8, e.i9, chk e.c e.i8 e.i9]
def encE : List Ent → List Int
  | [] => []
  | e :: r => e.z ++ encE r
theorem encE_append : ∀ (l r : List Ent), encE (l ++ r) = encE l ++ encE r
  | [], r => rfl
  | e :: l, r => by rw [List.cons_append, encE, encE, encE_append l r, List.append_assoc]
theorem encE_length : ∀ l : List Ent, (encE l).length = 4 * l.length
  | [] => rfl
  | e :: l => by rw [encE, List.length_append, encE_length l, List.length_cons, show e.z.length = 4 from rfl]; omega
theorem bys_append (l r : List Int) : bys (l ++ r) = bys l ++ bys r := List.map_append
theorem RowE.enc {w : World} {a : Option Addr} {n c : Nat} {es : List Ent} (h : RowE w a n c es) : ∀ k, k ≤ n → encL w a k = bys (encE (es.take k))
  | 0, _ => rfl
  | k + 1, hk => by
    obtain ⟨e, he⟩ := h.get (k := k) (by omega)
    have hr := (h.read he).1
    rw [encL, h.enc k (by omega), List.take_add_one, he, encE_append, bys_append]
    refine congrArg _ ?_
    have e1 : encP w a k = bys (entW w a k).z := rfl
    rw [e1, hr]
    rfl
/-- An entry from four bytes. -/
def idleE : Ent := ⟨true, false, false, false, false, false, false, false, 0, 0⟩
def decI (c r p q : Int) : Ent := bif q != chk c r p then idleE else
  ⟨bits .and .u8 c 1 == 0, bits .and .u8 c 2 != 0, bits .and .u8 c 4 != 0, bits .and .u8 c 8 != 0, bits .and .u8 c 16 != 0, bits .and .u8 c 32 != 0, bits .and .u8 c 64 != 0, bits .and .u8 c 128 != 0, r, p⟩
def decE (zs : List Int) : Nat → List Ent
  | 0 => []
  | k + 1 => decE zs k ++ [decI (zs.getD (4 * k) 0) (zs.getD (4 * k + 1) 0) (zs.getD (4 * k + 2) 0) (zs.getD (4 * k + 3) 0)]
theorem decE_length (zs : List Int) : ∀ k, (decE zs k).length = k
  | 0 => rfl
  | k + 1 => by rw [decE, List.length_append, decE_length zs k, List.length_singleton]
theorem entS_decI (c r p q : Int) : (entS c r p q).map den0 = (decI c r p q).L.map den0 := by
  unfold entS decI
  cases q != chk c r p <;> rfl
theorem RowZ.bt {w : World} {a : Option Addr} {n c : Nat} {zs : List Int} (h : RowZ w a n c zs) {j : Nat} {x : Int} (hx : x = (j : Int)) (hj : j < n) : bt w a x = zs.getD j 0 := by
  have h1 : zs[j]? = some (zs[j]'(by have := h.len; omega)) := by simp [h.len, hj]
  have h2 := isInt_of (h.at_ j _ h1)
  unfold dc.bt atRow
  rw [hx, show (j : Int).toNat * 1 = j by omega, h2.2, List.getD, h1]
  rfl
theorem RowZ.dec {w : World} {a : Option Addr} {n c : Nat} {zs : List Int} (h : RowZ w a n c zs) : ∀ k, 4 * k ≤ n → (decS w a k).map den0 = (ents (decE zs k)).map den0
  | 0, _ => rfl
  | k + 1, hk => by
    rw [decS, decE, ents_append, List.map_append, List.map_append, h.dec k (by omega), entS_decI, h.bt (j := 4 * k) (by omega) (by omega), h.bt (j := 4 * k + 1) (by omega) (by omega), h.bt (j := 4 * k + 2) (by omega) (by omega), h.bt (j := 4 * k + 3) (by omega) (by omega)]
    rfl
/-- The bytes at the heads of entries are bytes. -/
def Ctl (zs : List Int) : Prop := ∀ k z, zs[4 * k]? = some z → IntKind.u8.min ≤ z ∧ z ≤ IntKind.u8.max
theorem RowZ.rowB {w : World} {a : Option Addr} {n c : Nat} {zs : List Int} (h : RowZ w a n c zs) (hc : Ctl zs) : RowB w a n c := by
  have hg : ∀ j, j < n → zs[j]? = some (zs.getD j 0) := fun j hj => by
    rw [List.getD, List.getElem?_eq_getElem (by have := h.len; omega)]
    rfl
  refine ⟨h.le, h.max, h.nil, fun j hj => (isInt_of (h.at_ j _ (hg j hj))).1, fun k hk => ?_⟩
  rw [(isInt_of (h.at_ _ _ (hg _ hk))).2]
  exact hc k _ (hg _ hk)
def byL (W : World) (a : Option Addr) : Nat → List Int
  | 0 => []
  | k + 1 => byL W a k ++ [bt W a k]
theorem byL_length (W : World) (a : Option Addr) : ∀ n, (byL W a n).length = n
  | 0 => rfl
  | n + 1 => by rw [byL, List.length_append, byL_length W a n, List.length_singleton]
theorem byL_get (W : World) (a : Option Addr) : ∀ (n j : Nat) (z : Int), (byL W a n)[j]? = some z → j < n ∧ z = bt W a j
  | 0, j, z, h => by simp [byL] at h
  | n + 1, j, z, h => by
    rw [byL] at h
    have hl := byL_length W a n
    by_cases hj : j < n
    · rw [List.getElem?_append_left (by omega)] at h
      have := byL_get W a n j z h
      exact ⟨by omega, this.2⟩
    · rw [List.getElem?_append_right (by omega), hl] at h
      rcases hk : j - n with _ | k
      · rw [hk] at h
        simp only [List.getElem?_cons_zero, Option.some.injEq] at h
        have : j = n := by omega
        subst this
        exact ⟨by omega, h.symm⟩
      · rw [hk] at h
        simp at h
theorem row_rowZ {W : World} {a : Option Addr} {n c : Nat} (h : RowOk W .u8 a n c) : RowZ W a n c (byL W a n) ∧ Ctl (byL W a n) := by
  have hb : ∀ j : Nat, bt W a j = rdInt W ((a.getD default).add j) := fun j => by
    unfold bt atRow
    rw [show (j : Int).toNat * 1 = j by omega]
  refine ⟨⟨h.le, h.max, h.nil, byL_length W a n, fun j z hj => ?_⟩, fun k z hz => ?_⟩
  · obtain ⟨h1, rfl⟩ := byL_get W a n j z hj
    rw [hb]
    exact isInt_cell (h.at_ j h1).1
  · obtain ⟨h1, rfl⟩ := byL_get W a n _ z hz
    rw [hb]
    exact (h.at_ _ h1).2
end Go.Proofs.Ytdfplmkaaodblaa.dc
