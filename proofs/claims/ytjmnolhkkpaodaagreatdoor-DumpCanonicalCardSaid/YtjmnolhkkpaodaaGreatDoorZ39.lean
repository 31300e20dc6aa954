/- A part of the proof: the reference is safe, both packages write and read alike. Several texts in one; printed by slim28.py out of the texts of wip. -/
import Derived.Test.YtjmnolhkkpaodaaGreatDoorZ38
import Derived.Laws.BitsLemmas
set_option linter.all false
namespace Go.Proofs.YtjmnolhkkpaodaaGreatDoor
open Go Go.Sx Go.RowKit
set_option maxRecDepth 100000
abbrev D (s : ByteArray) : List UInt8 := s.data.toList
theorem D_inj {a b : ByteArray} (h : D a = D b) : a = b := ByteArray.ext (Array.toList_inj.1 h)
theorem D_cat (a b : ByteArray) : D (catB a b) = D a ++ D b := rfl
theorem D_len (a : ByteArray) : (D a).length = a.size := Array.length_toList
theorem D_ext (s : ByteArray) (b v : Nat) : D (s.extract b v) = (D s).extract b v := by
 show (s.extract b v).data.toList = _
 rw [ByteArray.data_extract, Array.toList_extract]
theorem mapD_inj : ∀ {l l' : List ByteArray}, l.map D = l'.map D → l = l'
 | [], [], _ => rfl
 | [], _ :: _, h => by simp at h
 | _ :: _, [], h => by simp at h
 | a :: l, b :: l', h => by
  simp only [List.map_cons, List.cons.injEq] at h
  rw [D_inj h.1, mapD_inj h.2]
def spl (c : UInt8) : List UInt8 → List (List UInt8)
 | [] => [[]]
 | x :: t => if x = c then [] :: spl c t else match spl c t with
  | h :: r => (x :: h) :: r
  | [] => [[x]]
theorem spl_ne (c : UInt8) : ∀ l, ∃ h r, spl c l = h :: r
 | [] => ⟨[], [], rfl⟩
 | x :: t => by
  obtain ⟨h, r, e⟩ := spl_ne c t
  unfold spl
  by_cases hx : x = c
  · rw [if_pos hx]; exact ⟨_, _, rfl⟩
  · rw [if_neg hx, e]; exact ⟨_, _, rfl⟩
theorem spl_hit (c : UInt8) : ∀ (w r : List UInt8), c ∉ w → spl c (w ++ c :: r) = w :: spl c r
 | [], r, _ => by
  show (if c = c then [] :: spl c r else _) = _
  rw [if_pos rfl]
 | x :: w, r, h => by
  have hx : x ≠ c := fun e => h (by rw [e]; exact List.mem_cons_self)
  have hw : c ∉ w := fun e => h (List.mem_cons_of_mem _ e)
  show (if x = c then _ else match spl c (w ++ c :: r) with | h :: r => (x :: h) :: r | [] => [[x]]) = _
  rw [if_neg hx, spl_hit c w r hw]
theorem spl_none (c : UInt8) : ∀ (w : List UInt8), c ∉ w → spl c w = [w]
 | [], _ => rfl
 | x :: w, h => by
  have hx : x ≠ c := fun e => h (by rw [e]; exact List.mem_cons_self)
  have hw : c ∉ w := fun e => h (List.mem_cons_of_mem _ e)
  show (if x = c then _ else match spl c w with | h :: r => (x :: h) :: r | [] => [[x]]) = _
  rw [if_neg hx, spl_none c w hw]
theorem byteAt_get {s : ByteArray} {v : Nat} (h : v < s.size) : ∃ x, (D s)[v]? = some x ∧ byteAt s (v : Int) = (x.toNat : Int) ∧ (D s).drop v = x :: (D s).drop (v + 1) := by
 have hl : v < (D s).length := by rw [D_len]; exact h
 refine ⟨(D s)[v], List.getElem?_eq_getElem hl, ?_, List.drop_eq_getElem_cons hl⟩
 unfold byteAt
 rw [Int.toNat_natCast, show s.data.toList[v]? = some (D s)[v] from List.getElem?_eq_getElem hl]
theorem D_wd (s : ByteArray) (b v : Nat) : D (wd s (b : Int) (v : Int)) = ((D s).drop b).take (v - b) := by
 unfold wd
 rw [Int.toNat_natCast, Int.toNat_natCast, D_ext]
theorem u8_eq {x : UInt8} {n : Nat} (hn : n < 256) : ((x.toNat : Int) = (n : Int)) ↔ x = UInt8.ofNat n := by
 constructor
 · intro h
   have h : x.toNat = n := by omega
   rw [← h]
   exact (UInt8.ofNat_toNat).symm
 · intro h
   rw [h, UInt8.toNat_ofNat']
   omega
structure WsI (s : ByteArray) (v : Nat) : Prop where
 le : (wsN s v).1 ≤ v
 cut : (wsN s v).2.map D ++ spl 32 ((D s).drop (wsN s v).1) = spl 32 (D s)
 no : (32 : UInt8) ∉ ((D s).drop (wsN s v).1).take (v - (wsN s v).1)
theorem drop_split (l : List UInt8) (b v : Nat) (h : b ≤ v) : l.drop b = (l.drop b).take (v - b) ++ l.drop v := by
 conv => lhs; rw [← List.take_append_drop (v - b) (l.drop b)]
 rw [List.drop_drop, show b + (v - b) = v by omega]
theorem take_snoc (l : List UInt8) (b v : Nat) (h : b ≤ v) {x : UInt8} (hx : l[v]? = some x) : (l.drop b).take (v + 1 - b) = (l.drop b).take (v - b) ++ [x] := by
 rw [show v + 1 - b = (v - b) + 1 by omega, List.take_add_one, List.getElem?_drop, show b + (v - b) = v by omega, hx]
 rfl
theorem wsI (s : ByteArray) : ∀ v, v ≤ s.size → WsI s v
 | 0, _ => ⟨Nat.le_refl _, by show [] ++ spl 32 ((D s).drop 0) = _; rw [List.drop_zero, List.nil_append], by simp [wsN]⟩
 | v + 1, hv => by
  obtain ⟨hle, hcut, hno⟩ := wsI s v (by omega)
  obtain ⟨x, hx, hb, hd⟩ := byteAt_get (show v < s.size by omega)
  have e : wsN s (v + 1) = bif cd81 s (v : Int) then (v + 1, (wsN s v).2 ++ [wd s ((wsN s v).1 : Int) (v : Int)]) else wsN s v := rfl
  have hcd : cd81 s (v : Int) = decide (x = 32) := by
   unfold cd81
   rw [decide_eq_false (by omega), cond_false, hb]
   have h8 := u8_eq (x := x) (n := 32) (by decide)
   exact decide_eq_decide.2 h8
  have hds := drop_split (D s) (wsN s v).1 v hle
  by_cases h32 : x = 32
  · rw [hcd, decide_eq_true h32, cond_true] at e
    subst h32
    rw [hd] at hds
    rw [hds, spl_hit 32 _ _ hno] at hcut
    refine ⟨by rw [e]; exact Nat.le_refl _, ?_, by rw [e]; simp⟩
    rw [e]
    dsimp only
    rw [List.map_append, List.map_singleton, D_wd, List.append_assoc]
    exact hcut
  · rw [hcd, decide_eq_false h32, cond_false] at e
    refine ⟨by rw [e]; omega, by rw [e]; exact hcut, ?_⟩
    rw [e, take_snoc _ _ _ hle hx, List.mem_append]
    rintro (h | h)
    · exact hno h
    · rw [List.mem_singleton] at h
      exact h32 h.symm
theorem wdsR_D (s : ByteArray) : (wdsR s).map D = spl 32 (D s) := by
 obtain ⟨hle, hcut, hno⟩ := wsI s s.size (Nat.le_refl _)
 have e : wsN s (s.size + 1) = bif cd81 s (s.size : Int) then (s.size + 1, (wsN s s.size).2 ++ [wd s ((wsN s s.size).1 : Int) (s.size : Int)]) else wsN s s.size := rfl
 have hcd : cd81 s (s.size : Int) = true := by
  unfold cd81
  rw [decide_eq_true rfl, cond_true]
 rw [hcd, cond_true] at e
 have ht : ((D s).drop (wsN s s.size).1).take (s.size - (wsN s s.size).1) = (D s).drop (wsN s s.size).1 := List.take_of_length_le (by rw [List.length_drop, D_len]; exact Nat.le_refl _)
 unfold wdsR
 rw [e]
 dsimp only
 rw [List.map_append, List.map_singleton, D_wd, ht]
 rw [ht] at hno
 rw [spl_none 32 _ hno] at hcut
 exact hcut
theorem idx1 (c : UInt8) : ∀ l : List UInt8, (Lib.index l [c] = -1 ∧ c ∉ l) ∨ ∃ i : Nat, Lib.index l [c] = i ∧ i < l.length ∧ l = l.take i ++ c :: l.drop (i + 1) ∧ c ∉ l.take i
 | [] => .inl ⟨by simp [Lib.index], by simp⟩
 | x :: l => by
  by_cases hx : x = c
  · subst hx
    right
    refine ⟨0, ?_, by simp, by simp, by simp⟩
    unfold Lib.index
    simp [List.isPrefixOf]
  · have hp : ([c] : List UInt8).isPrefixOf (x :: l) = false := by
     simp [List.isPrefixOf]
     exact fun e => hx e.symm
    rcases idx1 c l with ⟨h1, h2⟩ | ⟨i, h1, h2, h3, h4⟩
    · left
      refine ⟨?_, ?_⟩
      · unfold Lib.index
        rw [hp, h1]
        rfl
      · simp only [List.mem_cons, not_or]
        exact ⟨fun e => hx e.symm, h2⟩
    · right
      refine ⟨i + 1, ?_, by simp; omega, ?_, ?_⟩
      · unfold Lib.index
        rw [hp, h1]
        have : ((i : Int) == -1) = false := by rw [beq_eq_false_iff_ne]; omega
        simp [this]
      · rw [List.take_succ_cons, List.drop_succ_cons, List.cons_append]
        rw [← h3]
      · rw [List.take_succ_cons]
        simp only [List.mem_cons, not_or]
        exact ⟨fun e => hx e.symm, h4⟩
theorem splB_D : ∀ (k : Nat) (s : ByteArray), Lib.countB s spB = k → (Lib.splitB spB 0 k s).map D = spl 32 (D s)
 | k, s, hk => by
  rcases idx1 32 (D s) with ⟨h1, h2⟩ | ⟨i, h1, h2, h3, h4⟩
  · have h1 : Lib.indexB s spB = -1 := h1
    rw [Lib.splitB_miss spB 0 k s h1, spl_none 32 _ h2]
    rfl
  · have h1 : Lib.indexB s spB = i := h1
    have hc := Lib.countB_hit s spB i (by decide) h1
    obtain ⟨k, rfl⟩ : ∃ k', k = k' + 1 := ⟨k - 1, by omega⟩
    rw [D_len] at h2
    have ih := splB_D k (s.extract (i + spB.size) s.size) (by omega)
    rw [Lib.splitB_hit spB 0 k s i h1, List.map_cons, ih, D_ext, D_ext]
    have e1 : (D s).extract 0 (i + 0) = (D s).take i := by rw [List.extract_eq_take_drop, List.drop_zero]; rfl
    have e2 : (D s).extract (i + spB.size) s.size = (D s).drop (i + 1) := by
     rw [List.extract_eq_take_drop, spB_size]
     exact List.take_of_length_le (by rw [List.length_drop, D_len]; exact Nat.le_refl _)
    rw [e1, e2]
    conv => rhs; rw [h3]
    rw [spl_hit 32 _ _ h4]
theorem splD_D (s : ByteArray) : (splD s).map D = spl 32 (D s) := splB_D _ s rfl
theorem words_eq (s : ByteArray) : splD s = wdsR s := mapD_inj ((splD_D s).trans (wdsR_D s).symm)
end Go.Proofs.YtjmnolhkkpaodaaGreatDoor
namespace Go.Proofs.YtjmnolhkkpaodaaGreatDoor
open Go Go.Sx Go.RowKit
set_option maxRecDepth 100000
def dg (k : Nat) : UInt8 := (D digs)[k]?.getD 0
theorem dg_tab : ((List.range 16).all fun i => ((byteAt digs (i : Int) == ((dg i).toNat : Int)) && (ixB ((dg i).toNat : Int) == (i : Int))) && (List.range 16).all fun j => (byteAt digs (i : Int) == ((dg j).toNat : Int)) == decide (i = j)) = true := by kernel_rfl
theorem dg_at {i : Nat} (hi : i < 16) : byteAt digs (i : Int) = ((dg i).toNat : Int) ∧ ixB ((dg i).toNat : Int) = (i : Int) ∧ ∀ j, j < 16 → (byteAt digs (i : Int) == ((dg j).toNat : Int)) = decide (i = j) := by
 have h := List.all_eq_true.1 dg_tab i (List.mem_range.2 hi)
 simp only [Bool.and_eq_true, beq_iff_eq] at h
 refine ⟨h.1.1, h.1.2, fun j hj => ?_⟩
 have h2 := List.all_eq_true.1 h.2 j (List.mem_range.2 hj)
 simpa using h2
theorem wraps_i64 (n : Int) (h0 : 0 ≤ n) (h1 : n < 2 ^ 62) : IntKind.i64.wrap n = n := by rw [IntKind.wrap_i64]; omega
theorem or16 {x y : Int} (hx0 : 0 ≤ x) (hx : x % 16 = 0) (hx1 : x < 4611686018427387904) (h0 : 0 ≤ y) (h1 : y < 16) : bits .or .i64 x y = x + y :=
 bits_join .i64 62 (by decide) wraps_i64 4 x y hx0 (by omega) (by omega) h0 (by omega) (by omega)
theorem pow16 {n m : Nat} (h : n ≤ m) : (16 : Int) ^ n ≤ 16 ^ m := by
 have := Nat.pow_le_pow_right (show 0 < 16 by decide) h
 exact_mod_cast this
theorem shl4 {n : Int} (h0 : 0 ≤ n) (h1 : n < 1125899906842624) : gshl .i64 n 4 = 16 * n := by
 show IntKind.i64.wrap (n * 2 ^ (min (4 : Int).toNat IntKind.i64.bits)) = _
 rw [show min (4 : Int).toNat IntKind.i64.bits = 4 by decide, IntKind.wrap_i64]
 omega
theorem stD_dg {k : Nat} (hk : k < 16) {n : Int} (h0 : 0 ≤ n) (h1 : n < 1125899906842624) : stD ((dg k).toNat : Int) n = 16 * n + k := by
 unfold stD
 rw [(dg_at hk).2.1, shl4 h0 h1, show (15 : Int) = ((2 ^ 4 - 1 : Nat) : Int) from rfl, and_mask .i64 4 (by decide)]
 rw [or16 (by omega) (by omega) (by omega) (by omega) (by omega)]
 omega
theorem stR_dg {k : Nat} (hk : k < 16) {n : Int} (h0 : 0 ≤ n) : ∀ m, m ≤ 16 → stR ((dg k).toNat : Int) m n = if k < m then 16 * (n % 4096) + k else n
 | 0, _ => by rw [if_neg (by omega)]; rfl
 | m + 1, hm => by
  show stR1 ((dg k).toNat : Int) (stR ((dg k).toNat : Int) m n) m = _
  rw [stR_dg hk h0 m (by omega)]
  unfold stR1
  rw [(dg_at (show m < 16 by omega)).2.2 k hk]
  by_cases hmk : m = k
  · subst hmk
    rw [if_neg (by omega), if_pos (by omega), decide_eq_true rfl, cond_true, show (4095 : Int) = ((2 ^ 12 - 1 : Nat) : Int) from rfl, and_mask .i64 12 (by decide), shl4 (by omega) (by omega)]
    rw [or16 (by omega) (by omega) (by omega) (by omega) (by omega)]
    omega
  · rw [decide_eq_false hmk, cond_false]
    by_cases h : k < m
    · rw [if_pos h, if_pos (by omega)]
    · rw [if_neg h, if_neg (by omega)]
def vl (l : List Nat) : Int := l.foldl (fun (n : Int) (k : Nat) => 16 * n + (k : Int)) 0
theorem byteAt_D {s : ByteArray} {l : List Nat} (h : D s = l.map dg) {j : Nat} {k : Nat} (hk : l[j]? = some k) : byteAt s (j : Int) = ((dg k).toNat : Int) := by
 unfold byteAt
 rw [Int.toNat_natCast, show s.data.toList = l.map dg from h, List.getElem?_map, hk]
 rfl
theorem vl_snoc (l : List Nat) (k : Nat) : vl (l ++ [k]) = 16 * vl l + k := by
 unfold vl
 rw [List.foldl_append]
 rfl
theorem vl_rng (l : List Nat) (h : ∀ k ∈ l, k < 16) : 0 ≤ vl l ∧ vl l < 16 ^ l.length := by
 have key : ∀ (n : Nat) (l : List Nat), l.length = n → (∀ k ∈ l, k < 16) → 0 ≤ vl l ∧ vl l < 16 ^ l.length := by
  intro n
  induction n with
  | zero =>
   intro l hl _
   rw [List.length_eq_zero_iff.1 hl]
   decide
  | succ n ih =>
   intro l hl h
   have hne : l ≠ [] := by intro e; rw [e] at hl; cases hl
   have e := List.dropLast_concat_getLast hne
   have h1 := ih l.dropLast (by rw [List.length_dropLast, hl]; rfl) (fun k hk => h k (List.dropLast_subset l hk))
   have h2 := h _ (List.getLast_mem hne)
   rw [← e, vl_snoc, List.length_append, List.length_singleton, Int.pow_succ]
   omega
 exact key _ l rfl h
theorem ndD_vl {s : ByteArray} {l : List Nat} (h : D s = l.map dg) (hl : l.length ≤ 8) (hk : ∀ k ∈ l, k < 16) : ∀ m, m ≤ l.length → ndD s m = vl (l.take m)
 | 0, _ => rfl
 | m + 1, hm => by
  have hx : l[m]? = some l[m] := List.getElem?_eq_getElem (by omega)
  have h1 := vl_rng (l.take m) (fun k hk' => hk k (List.mem_of_mem_take hk'))
  have h2 : (16 : Int) ^ (l.take m).length ≤ 16 ^ 8 := by
   rw [List.length_take, show min m l.length = m by omega]
   exact pow16 (by omega)
  show stD (byteAt s (m : Int)) (ndD s m) = _
  rw [ndD_vl h hl hk m (by omega), byteAt_D h hx, stD_dg (hk _ (List.getElem_mem _)) h1.1 (by omega), List.take_add_one, hx]
  exact (vl_snoc _ _).symm
theorem ndR_vl {s : ByteArray} {l : List Nat} (h : D s = l.map dg) (hl : l.length ≤ 4) (hk : ∀ k ∈ l, k < 16) : ∀ m, m ≤ l.length → ndR s m = vl (l.take m)
 | 0, _ => rfl
 | m + 1, hm => by
  have hx : l[m]? = some l[m] := List.getElem?_eq_getElem (by omega)
  have h1 := vl_rng (l.take m) (fun k hk' => hk k (List.mem_of_mem_take hk'))
  have h2 : (16 : Int) ^ (l.take m).length ≤ 16 ^ 3 := by
   rw [List.length_take, show min m l.length = m by omega]
   exact pow16 (by omega)
  show stR (byteAt s (m : Int)) 16 (ndR s m) = _
  rw [ndR_vl h hl hk m (by omega), byteAt_D h hx, stR_dg (hk _ (List.getElem_mem _)) h1.1 16 (Nat.le_refl _), if_pos (hk _ (List.getElem_mem _)), List.take_add_one, hx]
  rw [show vl (l.take m) % 4096 = vl (l.take m) from Int.emod_eq_of_lt h1.1 (by omega)]
  exact (vl_snoc _ _).symm
theorem numD_vl {s : ByteArray} {l : List Nat} (h : D s = l.map dg) (hl : l.length ≤ 8) (hk : ∀ k ∈ l, k < 16) : numD s = vl l := by
 have hs : s.size = l.length := by rw [← D_len, h, List.length_map]
 unfold numD
 rw [hs, ndD_vl h hl hk _ (Nat.le_refl _), List.take_length]
theorem numR_vl {s : ByteArray} {l : List Nat} (h : D s = l.map dg) (hl : l.length ≤ 4) (hk : ∀ k ∈ l, k < 16) : numR s = vl l := by
 have hs : s.size = l.length := by rw [← D_len, h, List.length_map]
 unfold numR
 rw [hs, ndR_vl h hl hk _ (Nat.le_refl _), List.take_length]
theorem D_dig (v k : Int) : D (digB v k) = [dg (nib v k).toNat] ∧ (nib v k).toNat < 16 := by
 have h := nib_rng v k
 refine ⟨?_, by omega⟩
 unfold digB
 have hg : gadd .i64 (nib v k) 1 = nib v k + 1 := by
  unfold gadd
  rw [IntKind.wrap_i64]
  omega
 rw [hg, D_ext, List.extract_eq_take_drop, show (nib v k + 1).toNat - (nib v k).toNat = 1 by omega]
 have hl : (nib v k).toNat < (D digs).length := by rw [show (D digs).length = 16 from rfl]; omega
 rw [List.drop_eq_getElem_cons hl]
 unfold dg
 rw [List.getElem?_eq_getElem hl]
 rfl
theorem D_hex4 (v : Int) : D (hex4 v) = [(nib v 12).toNat, (nib v 8).toNat, (nib v 4).toNat, (nib v 0).toNat].map dg := by
 unfold hex4 hx1
 simp only [D_cat, (D_dig _ _).1]
 rfl
theorem D_hex2 (v : Int) : D (hex2 v) = [(nib v 4).toNat, (nib v 0).toNat].map dg := by
 unfold hex2 hx1
 simp only [D_cat, (D_dig _ _).1]
 rfl
theorem gshr_div {v : Int} (k : Nat) (hk : k ≤ 64) : gshr .i64 v (k : Int) = v / (2 ^ k : Int) := by
 unfold gshr
 rw [Int.toNat_natCast, show min k IntKind.i64.bits = k from Nat.min_eq_left hk]
 exact Int.fdiv_eq_ediv_of_nonneg _ (Int.le_of_lt (Int.pow_pos (by decide)))
theorem nib_div {v : Int} (k : Nat) (hk : k ≤ 64) : nib v (k : Int) = v / (2 ^ k : Int) % 16 := by rw [nib_eq, gshr_div k hk]
theorem hex4_num {v : Int} (h0 : 0 ≤ v) (h1 : v ≤ 65535) : numD (hex4 v) = v ∧ numR (hex4 v) = v ∧ (hex4 v).size = 4 := by
 have hk : ∀ k ∈ [(nib v 12).toNat, (nib v 8).toNat, (nib v 4).toNat, (nib v 0).toNat], k < 16 := by
  intro k hk
  simp only [List.mem_cons, List.not_mem_nil, or_false] at hk
  rcases hk with rfl | rfl | rfl | rfl <;> exact (D_dig _ _).2
 have e : vl [(nib v 12).toNat, (nib v 8).toNat, (nib v 4).toNat, (nib v 0).toNat] = v := by
  unfold vl
  simp only [List.foldl_cons, List.foldl_nil]
  have r0 := nib_rng v 0
  have r4 := nib_rng v 4
  have r8 := nib_rng v 8
  have r12 := nib_rng v 12
  rw [Int.toNat_of_nonneg r0.1, Int.toNat_of_nonneg r4.1, Int.toNat_of_nonneg r8.1, Int.toNat_of_nonneg r12.1]
  have m0 : nib v 0 = v % 16 := by rw [show (0 : Int) = ((0 : Nat) : Int) from rfl, nib_div 0 (by decide)]; omega
  have m4 : nib v 4 = v / 16 % 16 := by rw [show (4 : Int) = ((4 : Nat) : Int) from rfl, nib_div 4 (by decide)]; rfl
  have m8 : nib v 8 = v / 256 % 16 := by rw [show (8 : Int) = ((8 : Nat) : Int) from rfl, nib_div 8 (by decide)]; rfl
  have m12 : nib v 12 = v / 4096 % 16 := by rw [show (12 : Int) = ((12 : Nat) : Int) from rfl, nib_div 12 (by decide)]; rfl
  rw [m0, m4, m8, m12]
  omega
 refine ⟨by rw [numD_vl (D_hex4 v) (by simp) hk, e], by rw [numR_vl (D_hex4 v) (by simp) hk, e], ?_⟩
 rw [← D_len, D_hex4]
 rfl
theorem hex2_num {v : Int} (h0 : 0 ≤ v) (h1 : v ≤ 255) : numD (hex2 v) = v ∧ numR (hex2 v) = v ∧ (hex2 v).size = 2 := by
 have hk : ∀ k ∈ [(nib v 4).toNat, (nib v 0).toNat], k < 16 := by
  intro k hk
  simp only [List.mem_cons, List.not_mem_nil, or_false] at hk
  rcases hk with rfl | rfl <;> exact (D_dig _ _).2
 have e : vl [(nib v 4).toNat, (nib v 0).toNat] = v := by
  unfold vl
  simp only [List.foldl_cons, List.foldl_nil]
  have r0 := nib_rng v 0
  have r4 := nib_rng v 4
  rw [Int.toNat_of_nonneg r0.1, Int.toNat_of_nonneg r4.1]
  have m0 : nib v 0 = v % 16 := by rw [show (0 : Int) = ((0 : Nat) : Int) from rfl, nib_div 0 (by decide)]; omega
  have m4 : nib v 4 = v / 16 % 16 := by rw [show (4 : Int) = ((4 : Nat) : Int) from rfl, nib_div 4 (by decide)]; rfl
  rw [m0, m4]
  omega
 refine ⟨by rw [numD_vl (D_hex2 v) (by simp) hk, e], by rw [numR_vl (D_hex2 v) (by simp) hk, e], ?_⟩
 rw [← D_len, D_hex2]
 rfl
end Go.Proofs.YtjmnolhkkpaodaaGreatDoor
namespace Go.Proofs.YtjmnolhkkpaodaaGreatDoor
open Go Go.Sx Go.RowKit
set_option maxRecDepth 100000
theorem spl_join : ∀ (ns : List (List UInt8)) (w : List UInt8), (32 : UInt8) ∉ w → (∀ x ∈ ns, (32 : UInt8) ∉ x) → spl 32 (w ++ ns.flatMap (fun x => 32 :: x)) = w :: ns
 | [], w, hw, _ => by
  rw [List.flatMap_nil, List.append_nil]
  exact spl_none 32 w hw
 | x :: ns, w, hw, h => by
  rw [List.flatMap_cons, List.cons_append, spl_hit 32 w _ hw, spl_join ns x (h x List.mem_cons_self) fun y hy => h y (List.mem_cons_of_mem _ hy)]
theorem tab_st : ((List.range 10).all fun i => !(D (stN ((i + 1 : Nat) : Int))).contains 32) = true := by kernel_rfl
theorem tab_nm : ((List.range 14).all fun i => !(D (nmi i)).contains 32 && (!(D (nmi i)).contains 10 && (List.range 14).all fun j => decide (nmi i = nmi j) == decide (i = j))) = true := by kernel_rfl
theorem tab_dg : ((List.range 16).all fun i => decide (dg i ≠ 32) && decide (dg i ≠ 10)) = true := by kernel_rfl
theorem tab_s10 : ((List.range 10).all fun i => !(D (stN ((i + 1 : Nat) : Int))).contains 10) = true := by kernel_rfl
def stE (w : ByteArray) : Nat → Int
 | 0 => 0
 | k + 1 => bif decide (stN ((k + 1 : Nat) : Int) = w) then ((k + 1 : Nat) : Int) else stE w k
theorem tab_rd : ((List.range 10).all fun i => stE (stN ((i + 1 : Nat) : Int)) 10 == ((i + 1 : Nat) : Int)) = true := by kernel_rfl
theorem stR'_E (ws : List ByteArray) : ∀ k, stR' ws k = stE (gw ws 0) k
 | 0 => rfl
 | k + 1 => by
  show (bif sEq (stN ((k + 1 : Nat) : Int)) (gw ws 0) then _ else stR' ws k) = (bif decide (stN ((k + 1 : Nat) : Int) = gw ws 0) then _ else stE (gw ws 0) k)
  rw [sEq_eq, stR'_E ws k]
theorem stE_rng (w : ByteArray) : ∀ k, 0 ≤ stE w k ∧ stE w k ≤ k
 | 0 => ⟨Int.le_refl _, Int.le_refl _⟩
 | k + 1 => by
  have h := stE_rng w k
  unfold stE
  cases decide (stN ((k + 1 : Nat) : Int) = w)
  · rw [cond_false]; omega
  · rw [cond_true]; omega
theorem st_no {st : Int} (h1 : 1 ≤ st) (h2 : st ≤ 10) : (32 : UInt8) ∉ D (stN st) ∧ (10 : UInt8) ∉ D (stN st) ∧ stE (stN st) 10 = st := by
 obtain ⟨i, hi, rfl⟩ : ∃ i : Nat, i < 10 ∧ st = ((i + 1 : Nat) : Int) := ⟨st.toNat - 1, by omega, by omega⟩
 have a1 := List.all_eq_true.1 tab_st i (List.mem_range.2 hi)
 have a2 := List.all_eq_true.1 tab_s10 i (List.mem_range.2 hi)
 have a3 := List.all_eq_true.1 tab_rd i (List.mem_range.2 hi)
 exact ⟨by simpa using a1, by simpa using a2, by simpa using a3⟩
theorem nm_no {i : Nat} (hi : i < 14) : (32 : UInt8) ∉ D (nmi i) ∧ (10 : UInt8) ∉ D (nmi i) ∧ ∀ j, j < 14 → decide (nmi i = nmi j) = decide (i = j) := by
 have a1 := List.all_eq_true.1 tab_nm i (List.mem_range.2 hi)
 simp only [Bool.and_eq_true] at a1
 refine ⟨by simpa using a1.1, by simpa using a1.2.1, fun j hj => ?_⟩
 have := List.all_eq_true.1 a1.2.2 j (List.mem_range.2 hj)
 simpa using this
theorem dg_no {l : List Nat} (hl : ∀ k ∈ l, k < 16) : (32 : UInt8) ∉ l.map dg ∧ (10 : UInt8) ∉ l.map dg := by
 have key : ∀ k, k < 16 → dg k ≠ 32 ∧ dg k ≠ 10 := by
  intro k hk
  have := List.all_eq_true.1 tab_dg k (List.mem_range.2 hk)
  simpa using this
 constructor
 · intro h
   obtain ⟨k, hk, e⟩ := List.mem_map.1 h
   exact (key k (hl k hk)).1 e
 · intro h
   obtain ⟨k, hk, e⟩ := List.mem_map.1 h
   exact (key k (hl k hk)).2 e
theorem hex4_no (v : Int) : (32 : UInt8) ∉ D (hex4 v) ∧ (10 : UInt8) ∉ D (hex4 v) := by
 rw [D_hex4]
 refine dg_no ?_
 intro k hk
 simp only [List.mem_cons, List.not_mem_nil, or_false] at hk
 rcases hk with rfl | rfl | rfl | rfl <;> exact (D_dig _ _).2
theorem hex2_no (v : Int) : (32 : UInt8) ∉ D (hex2 v) ∧ (10 : UInt8) ∉ D (hex2 v) := by
 rw [D_hex2]
 refine dg_no ?_
 intro k hk
 simp only [List.mem_cons, List.not_mem_nil, or_false] at hk
 rcases hk with rfl | rfl <;> exact (D_dig _ _).2
structure VQ (q : Rq) : Prop where
 s1 : 1 ≤ q.st
 s2 : q.st ≤ 10
 a1 : 0 ≤ q.a
 a2 : q.a ≤ 65535
 d1 : 0 ≤ q.d
 d2 : q.d ≤ 255
def nsQ (b : FBw) : List Nat := (List.range 14).filter b
def wsQ (q : Rq) : List ByteArray := stN q.st :: hex4 q.a :: hex2 q.d :: (nsQ q.b).map nmi
theorem rec14_ext {b b' : FBw} (s : ByteArray) : ∀ k, (∀ i, i < k → b i = b' i) → rec14 b k s = rec14 b' k s
 | 0, _ => rfl
 | k + 1, h => by
  unfold rec14 stp
  rw [rec14_ext s k (fun i hi => h i (by omega)), h k (by omega)]
theorem D_rec14 (b : FBw) (s : ByteArray) : ∀ k, D (rec14 b k s) = D s ++ (((List.range k).filter b).map fun i => D (nmi i)).flatMap (fun x => 32 :: x)
 | 0 => by simp [rec14]
 | k + 1 => by
  have e : rec14 b (k + 1) s = bif b k then catB (rec14 b k s) (catB spB (nmi k)) else rec14 b k s := rfl
  rw [e, List.range_succ, List.filter_append, List.map_append, List.flatMap_append, ← List.append_assoc, ← D_rec14 b s k]
  cases hb : b k
  · simp [hb]
  · rw [cond_true, D_cat, D_cat]
    simp [hb]
    rfl
theorem fb_pv (q : Rq) (i : Nat) (hi : i < 14) : fbL q.pv.b i = q.b i := by
 have : ∀ i, i < 14 → fbL [q.b 0, q.b 1, q.b 2, q.b 3, q.b 4, q.b 5, q.b 6, q.b 7, q.b 8, q.b 9, q.b 10, q.b 11, q.b 12, q.b 13] i = q.b i := by
  intro i hi
  match i, hi with
  | 0, _ | 1, _ | 2, _ | 3, _ | 4, _ | 5, _ | 6, _ | 7, _ | 8, _ | 9, _ | 10, _ | 11, _ | 12, _ | 13, _ => rfl
 exact this i hi
theorem D_txt {q : Rq} (h : VQ q) : D q.pv.txt = D (stN q.st) ++ (D (hex4 q.a) :: D (hex2 q.d) :: (nsQ q.b).map fun i => D (nmi i)).flatMap (fun x => 32 :: x) := by
 have wa : IntKind.i64.wrap q.a = q.a := by have := h.a1; have := h.a2; rw [IntKind.wrap_i64]; omega
 have wd : IntKind.i64.wrap q.d = q.d := by have := h.d1; have := h.d2; rw [IntKind.wrap_i64]; omega
 have e : q.pv.txt = rec14 (fbL q.pv.b) 14 (recH q.st q.a q.d) := rfl
 rw [e, rec14_ext (b' := q.b) _ 14 (fb_pv q), D_rec14]
 unfold recH
 rw [wa, wd]
 simp only [D_cat, List.flatMap_cons, List.append_assoc, List.cons_append]
 rfl
theorem spl_txt {q : Rq} (h : VQ q) : spl 32 (D q.pv.txt) = (wsQ q).map D := by
 rw [D_txt h, spl_join _ _ (st_no h.s1 h.s2).1]
 · unfold wsQ
   simp only [List.map_cons, List.map_map]
   rfl
 · intro x hx
   simp only [List.mem_cons] at hx
   rcases hx with rfl | rfl | hx
   · exact (hex4_no _).1
   · exact (hex2_no _).1
   · obtain ⟨i, hi, rfl⟩ := List.mem_map.1 hx
     have hi := (List.mem_filter.1 hi).1
     exact (nm_no (List.mem_range.1 hi)).1
theorem words_txt {q : Rq} (h : VQ q) : wdsR q.pv.txt = wsQ q := mapD_inj ((wdsR_D _).trans (spl_txt h))
theorem split_txt {q : Rq} (h : VQ q) : splD q.pv.txt = wsQ q := (words_eq _).trans (words_txt h)
theorem no10_txt {q : Rq} (h : VQ q) : (10 : UInt8) ∉ D q.pv.txt := by
 rw [D_txt h]
 intro hx
 rcases List.mem_append.1 hx with hx | hx
 · exact (st_no h.s1 h.s2).2.1 hx
 · obtain ⟨y, hy, hx⟩ := List.mem_flatMap.1 hx
   have hx : (10 : UInt8) ∈ y := by
    rcases List.mem_cons.1 hx with e | e
    · exact absurd e (by decide)
    · exact e
   simp only [List.mem_cons] at hy
   rcases hy with rfl | rfl | hy
   · exact (hex4_no _).2 hx
   · exact (hex2_no _).2 hx
   · obtain ⟨i, hi, rfl⟩ := List.mem_map.1 hy
     have hi := (List.mem_filter.1 hi).1
     exact (nm_no (List.mem_range.1 hi)).2.1 hx
theorem any_nm (b : FBw) {i : Nat} (hi : i < 14) (f : ByteArray → Bool) (hf : ∀ j, j < 14 → f (nmi j) = decide (j = i)) : ((nsQ b).map nmi).any f = b i := by
 unfold nsQ
 cases hb : b i
 · rw [← Bool.not_eq_true, List.any_eq_true]
   rintro ⟨x, hx, hfx⟩
   obtain ⟨j, hj, rfl⟩ := List.mem_map.1 hx
   obtain ⟨hj1, hj2⟩ := List.mem_filter.1 hj
   rw [hf j (List.mem_range.1 hj1), decide_eq_true_eq] at hfx
   rw [hfx, hb] at hj2
   cases hj2
 · rw [List.any_eq_true]
   exact ⟨nmi i, List.mem_map.2 ⟨i, List.mem_filter.2 ⟨List.mem_range.2 hi, hb⟩, rfl⟩, by rw [hf i hi]; exact decide_eq_true rfl⟩
theorem mem_nm (b : FBw) {i : Nat} (hi : i < 14) : memL (nmi i) ((nsQ b).map nmi) = b i :=
 any_nm b hi _ fun j hj => by rw [sEq_eq, (nm_no hj).2.2 i hi]
theorem or_nm (b : FBw) {i : Nat} (hi : i < 14) : orL ((nsQ b).map nmi) i = b i :=
 any_nm b hi _ fun j hj => by rw [sEq_eq, (nm_no hi).2.2 j hj]; exact decide_eq_decide.2 ⟨fun e => e.symm, fun e => e.symm⟩
theorem pv_ext {q r : Rq} (h1 : q.st = r.st) (h2 : q.a = r.a) (h3 : q.d = r.d) (h4 : ∀ i, i < 14 → q.b i = r.b i) : q.pv = r.pv := by
 unfold Rq.pv pvB
 rw [h1, h2, h3, h4 0 (by decide), h4 1 (by decide), h4 2 (by decide), h4 3 (by decide), h4 4 (by decide), h4 5 (by decide), h4 6 (by decide), h4 7 (by decide), h4 8 (by decide), h4 9 (by decide), h4 10 (by decide), h4 11 (by decide), h4 12 (by decide), h4 13 (by decide)]
theorem few_ws (q : Rq) : few (wsQ q) = false := by
 unfold few wsQ
 rw [decide_eq_false_iff_not]
 simp only [List.length_cons]
 omega
theorem fewD_ws {q : Rq} (h : VQ q) : fewD (wsQ q) = false := by
 have e : decide (((wsQ q).length : Int) < 3) = false := few_ws q
 unfold fewD
 rw [e, cond_false, show gw (wsQ q) 1 = hex4 q.a from rfl, show gw (wsQ q) 2 = hex2 q.d from rfl, (hex4_num h.a1 h.a2).2.2, (hex2_num h.d1 h.d2).2.2]
 rfl
theorem rdQ_ws {q : Rq} (h : VQ q) : (rdQ (wsQ q)).pv = q.pv := by
 have ha1 := h.a1
 have ha2 := h.a2
 have hd1 := h.d1
 have hd2 := h.d2
 refine pv_ext ?_ ?_ ?_ fun i hi => mem_nm q.b hi
 · show stR' (wsQ q) 10 = q.st
   rw [stR'_E]
   exact (st_no h.s1 h.s2).2.2
 · show IntKind.u16.wrap (numR (hex4 q.a)) = q.a
   rw [(hex4_num h.a1 h.a2).2.1, show IntKind.u16.wrap q.a = q.a % 65536 from rfl]
   omega
 · show IntKind.u8.wrap (numR (hex2 q.d)) = q.d
   rw [(hex2_num h.d1 h.d2).2.1, show IntKind.u8.wrap q.d = q.d % 256 from rfl]
   omega
theorem rdDQ_ws {q : Rq} (h : VQ q) : (rdDQ (wsQ q)).pv = q.pv := by
 have ha1 := h.a1
 have ha2 := h.a2
 have hd1 := h.d1
 have hd2 := h.d2
 refine pv_ext ?_ ?_ ?_ fun i hi => or_nm q.b hi
 · show stR' (wsQ q) 10 = q.st
   rw [stR'_E]
   exact (st_no h.s1 h.s2).2.2
 · show IntKind.u16.wrap (numD (hex4 q.a)) = q.a
   rw [(hex4_num h.a1 h.a2).1, show IntKind.u16.wrap q.a = q.a % 65536 from rfl]
   omega
 · show IntKind.u8.wrap (numD (hex2 q.d)) = q.d
   rw [(hex2_num h.d1 h.d2).1, show IntKind.u8.wrap q.d = q.d % 256 from rfl]
   omega
theorem valid_line {q : Rq} (h : VQ q) : (rdLn q.pv.txt).pv = q.pv ∧ bad21 q.pv.txt = false ∧ (rdLd q.pv.txt).pv = q.pv ∧ okLd q.pv.txt = true := by
 have e1 : rdLn q.pv.txt = rdQ (wsQ q) := by
  unfold rdLn
  rw [words_txt h, few_ws]
  rfl
 have e2 : rdLd q.pv.txt = rdDQ (wsQ q) := by
  unfold rdLd
  rw [split_txt h, fewD_ws h]
  rfl
 have hst : (rdQ (wsQ q)).st = q.st := congrArg PinV.st (rdQ_ws h)
 have hst2 : (rdDQ (wsQ q)).pv.st = q.st := congrArg PinV.st (rdDQ_ws h)
 have h1 := h.s1
 refine ⟨by rw [e1, rdQ_ws h], ?_, by rw [e2, rdDQ_ws h], ?_⟩
 · unfold bad21
   rw [e1, hst, decide_eq_false (by omega), cond_false]
   show (!sEq (rdQ (wsQ q)).pv.txt q.pv.txt) = false
   rw [rdQ_ws h, sEq_eq, decide_eq_true rfl]
   rfl
 · unfold okLd okD
   rw [split_txt h, fewD_ws h, cond_false, hst2, decide_eq_false (by omega), cond_false, rdDQ_ws h, sEq_eq, decide_eq_true rfl]
theorem good_D {ln : ByteArray} (h : okLd ln = true) : VQ (rdLd ln) ∧ (rdLd ln).pv.txt = ln := by
 unfold okLd at h
 cases hf : fewD (splD ln)
 · rw [hf, cond_false] at h
   have e : rdLd ln = rdDQ (splD ln) := by unfold rdLd; rw [hf]; rfl
   unfold okD at h
   cases hz : decide ((rdDQ (splD ln)).pv.st = 0)
   · rw [hz, cond_false, sEq_eq] at h
     have htx : (rdDQ (splD ln)).pv.txt = ln := of_decide_eq_true h
     have hz : (rdDQ (splD ln)).st ≠ 0 := by
      have : (rdDQ (splD ln)).pv.st ≠ 0 := by simpa using hz
      exact this
     rw [e]
     have hr : 0 ≤ (rdDQ (splD ln)).st ∧ (rdDQ (splD ln)).st ≤ 10 := by
      show 0 ≤ stR' (splD ln) 10 ∧ stR' (splD ln) 10 ≤ 10
      rw [stR'_E]
      exact stE_rng _ 10
     exact ⟨⟨by omega, hr.2, (u16_rng _).1, (u16_rng _).2, (u8_rng _).1, (u8_rng _).2⟩, htx⟩
   · rw [hz] at h
     cases h
 · rw [hf] at h
   cases h
end Go.Proofs.YtjmnolhkkpaodaaGreatDoor
namespace Go.Proofs.YtjmnolhkkpaodaaGreatDoor
open Go Go.Sx Go.RowKit
set_option maxRecDepth 100000
theorem cut_yes {s : ByteArray} (h : cutF s nlB = true) : D s = D (cutL s nlB) ++ 10 :: D (cutR s nlB) ∧ (10 : UInt8) ∉ D (cutL s nlB) := by
 rcases cut_nl s with h1 | ⟨_, i, hi, hL, hR, hx⟩
 · rw [h1] at h; cases h
 · rcases idx1 10 (D s) with ⟨h1, _⟩ | ⟨j, h1, h2, h3, h4⟩
   · have h1 : Lib.indexB s nlB = -1 := h1
     omega
   · have h1 : Lib.indexB s nlB = j := h1
     have hij : i = j := by omega
     subst hij
     have e1 : D (cutL s nlB) = (D s).take i := by rw [hL, D_ext, List.extract_eq_take_drop, List.drop_zero]; rfl
     have e2 : D (cutR s nlB) = (D s).drop (i + 1) := by
      rw [hR, D_ext, List.extract_eq_take_drop]
      exact List.take_of_length_le (by rw [List.length_drop, D_len]; exact Nat.le_refl _)
     rw [e1, e2]
     exact ⟨h3, h4⟩
theorem cut_of {s : ByteArray} {w r : List UInt8} (h : D s = w ++ 10 :: r) (hw : (10 : UInt8) ∉ w) : cutF s nlB = true ∧ D (cutL s nlB) = w ∧ D (cutR s nlB) = r := by
 have hf : cutF s nlB = true := by
  rcases cut_nl s with h1 | ⟨h1, _⟩
  · exfalso
    rcases idx1 10 (D s) with ⟨_, h2⟩ | ⟨i, h2, h3, _, _⟩
    · rw [h] at h2
      simp at h2
    · have h2 : Lib.indexB s nlB = i := h2
      have := (Lib.cutB_hit s nlB i h2).2.2
      have : cutF s nlB = true := this
      rw [h1] at this
      cases this
  · exact h1
 obtain ⟨h1, h2⟩ := cut_yes hf
 have e : D (cutL s nlB) :: spl 10 (D (cutR s nlB)) = w :: spl 10 r := by
  rw [← spl_hit 10 _ _ h2, ← spl_hit 10 _ _ hw, ← h1, ← h]
 have eL : D (cutL s nlB) = w := (List.cons.inj e).1
 refine ⟨hf, eL, ?_⟩
 rw [h, eL] at h1
 have := List.append_cancel_left h1
 exact (List.cons.inj this).2.symm
theorem sEq_emp' {s : ByteArray} : sEq s emp = decide (D s = []) := by
 rw [sEq_eq]
 refine decide_eq_decide.2 ⟨fun h => by rw [h]; rfl, fun h => D_inj (by rw [h]; rfl)⟩
def fmtL (l : List Rq) : List UInt8 := l.flatMap fun q => D q.pv.txt ++ [10]
theorem pD_fmt : ∀ (qs l : List Rq) (k : Nat) (t : ByteArray), D t = fmtL qs → (∀ q ∈ qs, VQ q) → t.size ≤ k → (pD k t l).1 = true ∧ (pD k t l).2.map Rq.pv = l.map Rq.pv ++ qs.map Rq.pv
 | [], l, k, t, ht, _, hk => by
  have he : sEq t emp = true := by rw [sEq_emp', decide_eq_true_eq]; exact ht
  have e : pD k t l = (true, l) := by
   cases k with
   | zero => rfl
   | succ k =>
    show (bif sEq t emp then (true, l) else _) = _
    rw [he]
    rfl
  rw [e]
  exact ⟨rfl, by simp⟩
 | q :: qs, l, k, t, ht, hq, hk => by
  have hv := hq q List.mem_cons_self
  have ht' : D t = D q.pv.txt ++ 10 :: fmtL qs := by
   rw [ht]
   unfold fmtL
   rw [List.flatMap_cons, List.append_assoc]
   rfl
  obtain ⟨hf, hL, hR⟩ := cut_of ht' (no10_txt hv)
  have eL : cutL t nlB = q.pv.txt := D_inj hL
  have hRs := cutR_lt hf
  obtain ⟨k, rfl⟩ : ∃ k', k = k' + 1 := ⟨k - 1, by omega⟩
  have he : sEq t emp = false := by
   rw [sEq_emp', decide_eq_false_iff_not]
   intro e
   rw [e] at ht'
   simp at ht'
  have hval := valid_line hv
  have hbad : bad13 t = false := by
   unfold bad13
   rw [hf, eL, hval.2.2.2]
   rfl
  have e2 : pD (k + 1) t l = pD k (cutR t nlB) (l ++ [rdLd q.pv.txt]) := by
   show (bif sEq t emp then (true, l) else bif bad13 t then (false, l) else pD k (cutR t nlB) (l ++ [rdLd (cutL t nlB)])) = _
   rw [he, hbad, eL]
   rfl
  rw [e2]
  have ih := pD_fmt qs (l ++ [rdLd q.pv.txt]) k (cutR t nlB) hR (fun r hr => hq r (List.mem_cons_of_mem _ hr)) (by omega)
  refine ⟨ih.1, ?_⟩
  rw [ih.2, List.map_append, List.map_singleton, hval.2.2.1, List.append_assoc]
  rfl
theorem paD_fmt {qs : List Rq} {t : ByteArray} (h : D t = fmtL qs) (hq : ∀ q ∈ qs, VQ q) : (paD t).l.map Rq.pv = qs.map Rq.pv ∧ (paD t).ln = 0 ∧ (paD t).er = 0 := by
 have h1 := pD_fmt qs [] t.size t h hq (Nat.le_refl _)
 have e : paD t = paOf (FD t) := rfl
 have e1 : (FD t).1 = true := h1.1
 unfold paOf at e
 rw [e1, cond_true] at e
 rw [e]
 exact ⟨h1.2, rfl, rfl⟩
theorem pD_back : ∀ (k : Nat) (t : ByteArray) (l : List Rq), t.size ≤ k → (pD k t l).1 = true → ∃ qs, (pD k t l).2 = l ++ qs ∧ D t = fmtL qs ∧ ∀ q ∈ qs, VQ q
 | 0, t, l, hk, _ => ⟨[], by rw [List.append_nil]; rfl, by rw [List.length_eq_zero_iff.1 (show (D t).length = 0 by rw [D_len]; omega)]; rfl, by simp⟩
 | k + 1, t, l, hk, h => by
  have e : pD (k + 1) t l = bif sEq t emp then (true, l) else bif bad13 t then (false, l) else pD k (cutR t nlB) (l ++ [rdLd (cutL t nlB)]) := rfl
  rw [e] at h ⊢
  cases he : sEq t emp
  · rw [he, cond_false] at h
    rw [cond_false]
    cases hb : bad13 t
    · rw [hb, cond_false] at h
      rw [cond_false]
      obtain ⟨hf, hok⟩ := bad13_no hb
      obtain ⟨hv, htx⟩ := good_D hok
      have hRs := cutR_lt hf
      obtain ⟨qs, h1, h2, h3⟩ := pD_back k (cutR t nlB) (l ++ [rdLd (cutL t nlB)]) (by omega) h
      refine ⟨rdLd (cutL t nlB) :: qs, by rw [h1, List.append_assoc]; rfl, ?_, ?_⟩
      · rw [(cut_yes hf).1]
        unfold fmtL
        rw [List.flatMap_cons, htx, List.append_assoc, h2]
        rfl
      · intro q hq
        rcases List.mem_cons.1 hq with rfl | hq
        · exact hv
        · exact h3 q hq
    · rw [hb] at h
      cases h
  · rw [sEq_emp', decide_eq_true_eq] at he
    exact ⟨[], by rw [List.append_nil]; rfl, by rw [he]; rfl, by simp⟩
theorem paD_back {t : ByteArray} (h : (paD t).er = 0) : D t = fmtL (paD t).l ∧ (paD t).ln = 0 ∧ ∀ q ∈ (paD t).l, VQ q := by
 have e : paD t = paOf (FD t) := rfl
 cases hF : (FD t).1
 · unfold paOf at e
   rw [hF] at e
   rw [e] at h
   cases h
 · obtain ⟨qs, h1, h2, h3⟩ := pD_back t.size t [] (Nat.le_refl _) hF
   have h1 : (FD t).2 = [] ++ qs := h1
   unfold paOf at e
   rw [hF, cond_true, h1] at e
   rw [e]
   exact ⟨h2, rfl, h3⟩
end Go.Proofs.YtjmnolhkkpaodaaGreatDoor
