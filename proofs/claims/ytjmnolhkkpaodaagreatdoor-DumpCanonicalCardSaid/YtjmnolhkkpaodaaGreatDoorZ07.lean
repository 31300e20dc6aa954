/- A part of the proof: the reference is safe, both packages write and read alike. Several texts in one; printed by slim28.py out of the texts of wip. -/
import Derived.Test.YtjmnolhkkpaodaaGreatDoorZ06
set_option linter.all false
namespace Go.Sx
open Go Go.RowKit
theorem Loc.eq_iff {a b : Loc} : a.eq b = true ↔ a = b := by
 cases a <;> cases b <;> simp only [Loc.eq, reduceCtorEq, Bool.false_eq_true, Loc.slot.injEq, Loc.cell.injEq, Loc.blk.injEq]
 · exact ⟨Nat.eq_of_beq_eq_true, fun h => by subst h; exact Nat.beq_refl _⟩
 · rename_i b o c p
   cases h : Nat.beq b c
   · have := Nat.ne_of_beq_eq_false h
     simp [this]
   · have := Nat.eq_of_beq_eq_true h
     subst this
     simp only [true_and]
     exact ⟨Nat.eq_of_beq_eq_true, fun h => by subst h; exact Nat.beq_refl _⟩
 · exact ⟨Nat.eq_of_beq_eq_true, fun h => by subst h; exact Nat.beq_refl _⟩
theorem anyB_iff {α : Type} {p : α → Bool} : ∀ {l : List α}, anyB p l = true ↔ ∃ x ∈ l, p x = true
 | [] => by simp [anyB]
 | x :: l => by
  simp only [anyB]
  cases h : p x
  · simp [h, anyB_iff (l := l)]
  · simp [h]
theorem Loc.mem_iff {l : Loc} {ls : List Loc} : l.mem ls = true ↔ l ∈ ls := by
 unfold Loc.mem
 rw [anyB_iff]
 constructor
 · rintro ⟨x, hx, h⟩; rw [Loc.eq_iff] at h; subst h; exact hx
 · intro h; exact ⟨l, h, Loc.eq_iff.2 rfl⟩
theorem clash_of {all : Array Oper} {x y : Entry} {l : Loc} (hx : l ∈ x.wl) (hy : l ∈ y.rl all ∨ l ∈ y.wl) : clash all x y = true := by
 unfold clash
 have : anyB (fun l => l.mem (y.rl all) || l.mem y.wl) x.wl = true := by
  rw [anyB_iff]
  refine ⟨l, hx, ?_⟩
  rw [Bool.or_eq_true, Loc.mem_iff, Loc.mem_iff]
  exact hy
 rw [this]
theorem clash_of' {all : Array Oper} {x y : Entry} {l : Loc} (hy : l ∈ y.wl) (hx : l ∈ x.rl all ∨ l ∈ x.wl) : clash all x y = true := by
 rcases hx with hx | hx
 · unfold clash
   split
   · rfl
   · rw [anyB_iff]
     exact ⟨l, hy, Loc.mem_iff.2 hx⟩
 · exact clash_of hx (.inr hy)
theorem wl_slot {y : Entry} {t : Nat} (h : look (gS y) t ≠ none) : Loc.slot t ∈ y.wl := by
 unfold gS at h
 unfold Entry.wl
 cases hd : y.o.dst with
 | none => rw [hd] at h; simp [look] at h
 | some k =>
  rw [hd] at h
  simp only [look_cons] at h
  by_cases hk : k = t
  · subst hk; simp
  · rw [if_neg hk] at h; simp [look] at h
theorem findC_mem {l : List (Nat × Nat × SV)} {b o : Nat} (h : findC l b o ≠ none) : ∃ v, (b, o, v) ∈ l := by
 cases hh : findC l b o with
 | none => exact absurd hh h
 | some v => exact ⟨v, mem_of_findC hh⟩
theorem wl_cell {y : Entry} {b o : Nat} (h : findC (gC y) b o ≠ none) : Loc.cell b o ∈ y.wl := by
 obtain ⟨v, hv⟩ := findC_mem h
 unfold gC at hv
 unfold Entry.wl
 cases he : y.eff with
 | none => rw [he] at hv; simp at hv
 | some e =>
  rw [he] at hv
  refine List.mem_append_right _ (List.mem_append_left _ ?_)
  exact List.mem_map.2 ⟨(b, o, v), hv, rfl⟩
theorem wl_blk {y : Entry} {b : Nat} (h : look (gB y) b ≠ none) : Loc.blk b ∈ y.wl ∧ y.lays = true ∧ y.nid = b := by
 unfold gB at h
 unfold Entry.wl Entry.lays
 cases he : y.eff with
 | none => rw [he] at h; simp [look] at h
 | some e =>
  rw [he] at h
  simp only at h ⊢
  cases hn : e.nb with
  | none => rw [hn] at h; simp [look] at h
  | some p =>
   obtain ⟨t, l⟩ := p
   rw [hn] at h
   simp only [look_cons] at h
   by_cases hb : y.nid = b
   · subst hb; simp
   · rw [if_neg hb] at h; simp [look] at h
def Closed (all : Array Oper) (sel : Nat → Bool) : Prop := ∀ i o, all[i]? = some o → ∀ e ∈ o.after.toList, Region.binds .any e = true → sel i = true → sel e.on = true
theorem insN_mem {n k : Nat} {l : List Nat} (h : k ∈ insN n l) : k = n ∨ k ∈ l := by
 unfold insN at h
 split at h
 · exact .inr h
 · simpa using h
theorem unionN_mem {k : Nat} : ∀ {l r : List Nat}, k ∈ unionN l r → k ∈ l ∨ k ∈ r
 | [], r, h => .inr h
 | x :: l, r, h => by
  simp only [unionN] at h
  rcases unionN_mem h with h | h
  · exact .inl (by simp [h])
  · rcases insN_mem h with rfl | h
    · exact .inl (by simp)
    · exact .inr h
theorem ancStep_mem {acc : List (List Nat)} {k : Nat} : ∀ {es : List Edge}, k ∈ ancStep acc es → ∃ e ∈ es, Region.binds .any e = true ∧ (k = e.on ∨ k ∈ nthL acc e.on)
 | [], h => by simp [ancStep] at h
 | e :: es, h => by
  simp only [ancStep] at h
  split at h
  · rename_i hb
    rcases insN_mem h with rfl | h
    · exact ⟨e, by simp, hb, .inl rfl⟩
    · rcases unionN_mem h with h | h
      · exact ⟨e, by simp, hb, .inr h⟩
      · obtain ⟨e', h1, h2⟩ := ancStep_mem h
        exact ⟨e', by simp [h1], h2⟩
  · obtain ⟨e', h1, h2⟩ := ancStep_mem h
    exact ⟨e', by simp [h1], h2⟩
theorem nthL_append : ∀ (acc : List (List Nat)) (x : List Nat) (i : Nat), nthL (acc ++ [x]) i = if i < acc.length then nthL acc i else if i = acc.length then x else []
 | [], x, 0 => rfl
 | [], x, i + 1 => by simp [nthL]
 | a :: acc, x, 0 => by simp [nthL]
 | a :: acc, x, i + 1 => by
  simp only [List.cons_append, nthL, List.length_cons]
  rw [nthL_append acc x i]
  by_cases h1 : i < acc.length
  · simp [h1]
  · by_cases h2 : i = acc.length <;> simp [h1, h2]
theorem ancs_ok {all : Array Oper} {sel : Nat → Bool} (hc : Closed all sel) : ∀ (l : List Oper) (acc : List (List Nat)), l = all.toList.drop acc.length → acc.length ≤ all.size →
  (∀ i j, j ∈ nthL acc i → sel i = true → sel j = true) → ∀ i j, j ∈ nthL (ancs l acc) i → sel i = true → sel j = true
 | [], acc, _, _, h => h
 | o :: r, acc, hl, hle, h => by
  obtain ⟨ho, hr⟩ := drop_cons hl
  have ho' : all[acc.length]? = some o := by rw [← Array.getElem?_toList]; exact ho
  have hlt : acc.length < all.size := by
   have := (Array.getElem?_eq_some_iff.1 ho').1
   exact this
  refine ancs_ok hc r (acc ++ [ancStep acc o.after.toList]) (by simpa using hr) (by simp; omega) ?_
  intro i j hj hs
  rw [nthL_append] at hj
  split at hj
  · exact h i j hj hs
  · split at hj
    · rename_i hi
      obtain ⟨e, he, hb, hk⟩ := ancStep_mem hj
      have h1 := hc acc.length o ho' e he hb (by rw [← hi]; exact hs)
      rcases hk with rfl | hk
      · exact h1
      · exact h e.on j hk h1
    · simp at hj
theorem indepWith_mem {all : Array Oper} {an : List Nat} {x : Entry} : ∀ {l : List Entry}, indepWith all an x l = true → ∀ y ∈ l, pairOk all an x y = true
 | [], _, y, hy => by simp at hy
 | z :: l, h, y, hy => by
  simp only [indepWith] at h
  split at h <;> try contradiction
  rename_i hz
  rcases List.mem_cons.1 hy with rfl | hy
  · exact hz
  · exact indepWith_mem h y hy
theorem indep_split {all : Array Oper} {az : List (List Nat)} {x : Entry} {l2 : List Entry} : ∀ {l1 : List Entry}, indep all az (l1 ++ x :: l2) = true →
  (∀ y ∈ l2, pairOk all (nthL az x.ix) x y = true) ∧ (∀ y ∈ l1, pairOk all (nthL az y.ix) y x = true)
 | [], h => by
  simp only [List.nil_append, indep] at h
  split at h <;> try contradiction
  rename_i hw
  exact ⟨indepWith_mem hw, by simp⟩
 | z :: l1, h => by
  simp only [List.cons_append, indep] at h
  split at h <;> try contradiction
  rename_i hw
  obtain ⟨h1, h2⟩ := indep_split h
  refine ⟨h1, fun y hy => ?_⟩
  rcases List.mem_cons.1 hy with rfl | hy
  · exact indepWith_mem hw x (by simp)
  · exact h2 y hy
theorem pairOk_spec {all : Array Oper} {an : List Nat} {x y : Entry} (h : pairOk all an x y = true) :
  (x.lays = true → y.free x.nid = true ∧ (y.lays = true → x.nid ≠ y.nid)) ∧ (y.ix ∈ an ∨ (clash all x y = false ∧ (y.lays = true → x.free y.nid = true))) := by
 unfold pairOk at h
 split at h <;> try contradiction
 rename_i hc
 refine ⟨?_, ?_⟩
 · intro hl
   simp only [hl, Bool.true_and, Bool.or_eq_false_iff, Bool.not_eq_false', Bool.and_eq_false_iff] at hc
   refine ⟨hc.1, fun hy => ?_⟩
   rcases hc.2 with h2 | h2
   · rw [hy] at h2; cases h2
   · exact Nat.ne_of_beq_eq_false h2
 · split at h
   · rename_i hm
     exact .inl (memN_iff.1 hm)
   · right
     simp only [Bool.and_eq_true, Bool.not_eq_true', Bool.and_eq_false_iff, Bool.not_eq_false'] at h
     refine ⟨h.1, fun hy => ?_⟩
     rcases h.2 with h2 | h2
     · rw [hy] at h2; cases h2
     · exact h2
theorem SV.free_den {v : SV} {n k : Nat} (h : v.free n = true) (f : Nat → Nat) : v.den (fun j => if j = n then k else f j) = v.den f := by
 cases v with
 | ptr b o =>
  simp only [SV.free, Bool.not_eq_true'] at h
  simp [SV.den, Nat.ne_of_beq_eq_false h]
 | row b o n c =>
  simp only [SV.free, Bool.not_eq_true'] at h
  simp [SV.den, Nat.ne_of_beq_eq_false h]
 | clo g cs =>
  simp only [SV.free] at h
  simp only [SV.den]
  congr 2
  refine List.map_congr_left fun c hc => ?_
  have := allB_iff h c hc
  simp only [Bool.not_eq_true'] at this
  simp [caddr, Nat.ne_of_beq_eq_false this]
 | _ => rfl
theorem freeL_den {l : List SV} {n k : Nat} (h : allB (SV.free n) l = true) (f : Nat → Nat) : l.map (SV.den fun j => if j = n then k else f j) = l.map (SV.den f) :=
 List.map_congr_left fun _ hv => SV.free_den (allB_iff h _ hv) f
theorem TV.free_den {v : TV} {n k : Nat} (h : v.free n = true) (f : Nat → Nat) : v.den (fun j => if j = n then k else f j) = v.den f := by
 cases v with
 | un => rfl
 | ud => rfl
 | one s => exact SV.free_den h f
 | agg l => simp only [TV.den, dens, freeL_den h f]
 | tup ps =>
  simp only [TV.free] at h
  simp only [TV.den]
  congr 2
  refine List.map_congr_left fun p hp => ?_
  have hl := allB_iff h p hp
  obtain ⟨b, l⟩ := p
  exact partDen_free hl f
where
 partDen_free {b : Bool} {l : List SV} {n k : Nat} (hl : allB (SV.free n) l = true) (f : Nat → Nat) : partDen (fun j => if j = n then k else f j) (b, l) = partDen f (b, l) := by
  cases b with
  | true => simp only [partDen, dens, freeL_den hl f]
  | false =>
   match l, hl with
   | [], _ => rfl
   | [v], hl => exact SV.free_den (allB_iff hl v (by simp)) f
   | _ :: _ :: _, _ => rfl
section
variable {W w0 : World} {X : Nat → Prop} {f : Nat → Nat}
theorem MOk.congr {M M' : Mem} {w : World} (h : MOk w0 X f M w) (hg : ∀ b o, M'.get b o = M.get b o) (hb : ∀ b, look M'.blks b = look M.blks b) (hn : M.next ≤ M'.next) : MOk w0 X f M' w := by
 refine ⟨?_, ?_, ?_, ?_, ?_, ?_⟩
 · intro b i hi; rw [hb] at hi; exact h.blk b i hi
 · intro b o v hv; rw [hg] at hv; exact h.cell b o v hv
 · intro b o v hv; rw [hg] at hv; rw [hb]; exact h.known b o v hv
 · intro b c i j h1 h2; rw [hb] at h1 h2; exact h.inj b c i j h1 h2
 · intro b i hi; rw [hb] at hi; exact h.own b i hi
 · intro b i hi; rw [hb] at hi; exact Nat.lt_of_lt_of_le (h.lt b i hi) hn
theorem MOk.newAt {M : Mem} {w w' : World} (h : MOk w0 X f M w) (hf : Fr W w0 X w) {t : TypeId} {l : List SV} {nid jj : Nat} (hL : LaidAt w w' jj (dens f l) t) (hnone : look M.blks nid = none) (hN : nid < M.next)
  (hfree : ∀ b o v, M.get b o = some v → v.den (fun k => if k = nid then jj else f k) = v.den f) (hl : l.map (SV.den fun k => if k = nid then jj else f k) = l.map (SV.den f)) :
  MOk w0 X (fun k => if k = nid then jj else f k) ⟨M.cells, (nid, ⟨t, l, true⟩) :: M.blks, M.next⟩ w' ∧ Fr W w0 X w' := by
 have hcn : ∀ o, findC M.cells nid o = none := by
  intro o
  cases hh : findC M.cells nid o with
  | none => rfl
  | some v =>
   have hg : M.get nid o = some v := by simp [Mem.get, hh]
   obtain ⟨i, hi⟩ := h.known _ _ _ hg
   rw [hnone] at hi
   cases hi
 have hget := fun c p => Mem.get_new M nid ⟨t, l, true⟩ M.next hcn c p
 have hne : ∀ b i, look M.blks b = some i → b ≠ nid := by
  rintro b i hi rfl
  rw [hnone] at hi; cases hi
 have hold : ∀ b i, look M.blks b = some i → (if b = nid then jj else f b) = f b ∧ f b < w.heap.size := by
  intro b i hi
  obtain ⟨arr, harr, _⟩ := h.blk b i hi
  exact ⟨if_neg (hne b i hi), lt_of_blk harr⟩
 refine ⟨⟨?_, ?_, ?_, ?_, ?_, ?_⟩, ?_⟩
 · intro b i hi
   rw [look_cons] at hi
   split at hi
   · rename_i hb
     simp only [Option.some.injEq] at hi
     subst hi hb
     exact ⟨dens f l, by simp only [if_true]; exact hL.at_, by simp [dens]⟩
   · obtain ⟨h1, h2⟩ := hold b i hi
     obtain ⟨arr, harr, hsz⟩ := h.blk b i hi
     exact ⟨arr, by simp only [h1]; rw [hL.same _ h2]; exact harr, hsz⟩
 · intro c p v hv
   rw [hget] at hv
   split at hv
   · rename_i hc
     subst hc
     simp only [if_true]
     rw [cell_of_blk hL.at_]
     simp only at hv
     have h1 : (dens f l)[p]? = some (v.den f) := by simp [dens, hv]
     have h2 := congrArg (fun z => z[p]?) hl
     simp only [List.getElem?_map, hv, Option.map_some, Option.some.injEq] at h2
     rw [h1, h2]
   · obtain ⟨i, hi⟩ := h.known c p v hv
     obtain ⟨h1, h2⟩ := hold c i hi
     simp only [h1]
     rw [World.cell?_of_block (hL.same _ h2), h.cell c p v hv, hfree c p v hv]
 · intro c p v hv
   rw [hget] at hv
   rw [look_cons]
   split at hv
   · rename_i hc; simp [hc]
   · rename_i hc
     obtain ⟨i, hi⟩ := h.known c p v hv
     exact ⟨i, by rw [if_neg hc]; exact hi⟩
 · intro b c i j hb hc hfe
   rw [look_cons] at hb hc
   split at hb
   · rename_i hb'
     split at hc
     · rename_i hc'; rw [← hb', ← hc']
     · rename_i hc'
       obtain ⟨h1, h2⟩ := hold c j hc
       subst hb'
       simp only [h1, if_true] at hfe
       have := hL.ge
       omega
   · rename_i hb'
     obtain ⟨h1, h2⟩ := hold b i hb
     split at hc
     · rename_i hc'
       subst hc'
       simp only [h1, if_true] at hfe
       have := hL.ge
       omega
     · obtain ⟨h3, h4⟩ := hold c j hc
       simp only [h1, h3] at hfe
       exact h.inj b c i j hb hc hfe
 · intro b i hi hrw
   rw [look_cons] at hi
   split at hi
   · rename_i hb
     subst hb
     left
     simp only [if_true]
     exact Nat.le_trans hf.size hL.ge
   · obtain ⟨h1, _⟩ := hold b i hi
     simp only [h1]
     exact h.own b i hi hrw
 · intro b i hi
   rw [look_cons] at hi
   split at hi
   · rename_i hb; subst hb; exact hN
   · exact h.lt b i hi
 · refine ⟨hL.os.trans hf.os, hL.tape.trans hf.tape, hL.output.trans hf.output, Nat.le_trans hf.size hL.size, fun i hi hx => ?_, hf.base⟩
   rw [hL.same _ (Nat.lt_of_lt_of_le hi hf.size)]
   exact hf.same i hi hx
end
end Go.Sx
namespace Go.Sx
open Go Go.RowKit
structure Inv (W w0 : World) (X : Nat → Prop) (nt : Nat) (bs : SL) (bm : Mem) (tr : List Entry) (N : Nat) (sel : Nat → Bool) (f : Nat → Nat) (a : Act) (w : World) : Prop where
 size : a.tmps.size = nt
 defers : a.defers = []
 slots : SRel f (look (stL gS sel tr bs)) a
 mem : MOk w0 X f (memT bm sel tr N) w
 fr : Fr W w0 X w
section
variable {P : Program} {all : Array Oper} {nt : Nat} {bs : SL} {bm : Mem} {W w0 : World} {X : Nat → Prop}
theorem lkS_append {α : Type} (k : Nat) (a b : List (Nat × α)) : look (a ++ b) k = (look a k).or (look b k) := by
 rw [look_append]
 cases look a k <;> rfl
theorem lkC_append (k o : Nat) (a b : List (Nat × Nat × SV)) : findC (a ++ b) k o = (findC a k o).or (findC b k o) := by
 rw [findC_append]
 cases findC a k o <;> rfl
structure Moment (all : Array Oper) (tr : List Entry) (sel : Nat → Bool) (l1 : List Entry) (x : Entry) (l2 : List Entry) : Prop where
 tr_ : tr = l1 ++ x :: l2
 off : sel x.ix = false
 older : ∀ y ∈ l2, y.ix < x.ix
 newer : ∀ y ∈ l1, x.ix < y.ix
 old : ∀ y ∈ l2, clash all x y = true → sel y.ix = true
 new : ∀ y ∈ l1, clash all y x = true → sel y.ix = false
 free : x.lays = true → ∀ y ∈ l1 ++ l2, sel y.ix = true → y.free x.nid = true
 nid : x.lays = true → ∀ y ∈ l1 ++ l2, y.lays = true → y.nid ≠ x.nid
theorem moment_of {tr : List Entry} {sel : Nat → Bool} (hcl : Closed all sel) {l1 l2 : List Entry} {x : Entry} (htr : tr = l1 ++ x :: l2) (hind : indep all (ancs all.toList []) tr = true)
  (hoff : sel x.ix = false) (hready : ∀ o, all[x.ix]? = some o → ∀ e ∈ o.after.toList, Region.binds .any e = true → sel e.on = true)
  (hold : ∀ y ∈ l2, y.ix < x.ix) (hnew : ∀ y ∈ l1, x.ix < y.ix) : Moment all tr sel l1 x l2 := by
 subst htr
 obtain ⟨h1, h2⟩ := indep_split hind
 have hanc : ∀ (sl : Nat → Bool), Closed all sl → ∀ i j, j ∈ nthL (ancs all.toList []) i → sl i = true → sl j = true := fun sl hsl =>
  ancs_ok hsl all.toList [] rfl (by simp) (by intro i j hj; simp [nthL] at hj)
 have hcl' : Closed all (fun j => sel j || j == x.ix) := by
  intro i o ho e he hb hs
  simp only [Bool.or_eq_true, beq_iff_eq] at hs ⊢
  rcases hs with hs | rfl
  · exact .inl (hcl i o ho e he hb hs)
  · exact .inl (hready o ho e he hb)
 have before : ∀ y ∈ l2, y.ix ∈ nthL (ancs all.toList []) x.ix → sel y.ix = true := by
  intro y hy hm
  have := hanc _ hcl' x.ix y.ix hm (by simp)
  simp only [Bool.or_eq_true, beq_iff_eq] at this
  rcases this with h | h
  · exact h
  · have := hold y hy; omega
 have behind : ∀ y ∈ l1, x.ix ∈ nthL (ancs all.toList []) y.ix → sel y.ix = false := by
  intro y _ hm
  cases hs : sel y.ix with
  | false => rfl
  | true => have := hanc sel hcl y.ix x.ix hm hs; rw [hoff] at this; cases this
 refine ⟨rfl, hoff, hold, hnew, ?_, ?_, ?_, ?_⟩
 · intro y hy hc
   rcases (pairOk_spec (h1 y hy)).2 with h | h
   · exact before y hy h
   · rw [h.1] at hc; cases hc
 · intro y hy hc
   rcases (pairOk_spec (h2 y hy)).2 with h | h
   · exact behind y hy h
   · rw [h.1] at hc; cases hc
 · intro hl y hy hs
   rcases List.mem_append.1 hy with hy | hy
   · rcases (pairOk_spec (h2 y hy)).2 with h | h
     · rw [behind y hy h] at hs; cases hs
     · exact h.2 hl
   · exact ((pairOk_spec (h1 y hy)).1 hl).1
 · intro hl y hy hyl
   rcases List.mem_append.1 hy with hy | hy
   · exact ((pairOk_spec (h2 y hy)).1 hyl).2 hl
   · exact (((pairOk_spec (h1 y hy)).1 hl).2 hyl).symm
theorem Moment.seen {α β : Type} {lk : List α → Option β} {g : Entry → List α} (hlk : ∀ a b, lk (a ++ b) = (lk a).or (lk b)) {tr : List Entry} {sel : Nat → Bool} {l1 l2 : List Entry} {x : Entry} (h : Moment all tr sel l1 x l2)
  {l : Loc} (hw : ∀ y, lk (g y) ≠ none → l ∈ y.wl) (hl : l ∈ x.rl all ∨ l ∈ x.wl) (b : List α) : lk (stL g sel tr b) = lk (stL g tt l2 b) := by
 have h1 : stL g (fun j => decide (j < x.ix)) tr b = stL g tt l2 b := by
  rw [h.tr_]
  exact stL_below (Nat.lt_irrefl _) h.older (fun y hy => by have := h.newer y hy; omega)
 rw [← h1]
 refine stL_congr hlk ?_
 intro y hy hne
 rw [h.tr_] at hy
 rcases List.mem_append.1 hy with hy | hy
 · rw [h.new y hy (clash_of (hw y hne) hl)]
   have := h.newer y hy
   simp; omega
 · rcases List.mem_cons.1 hy with rfl | hy
   · rw [h.off]; simp
   · rw [h.old y hy (clash_of' (hw y hne) hl)]
     have := h.older y hy
     simp; omega
theorem Moment.put {α β : Type} {lk : List α → Option β} {g : Entry → List α} (hlk : ∀ a b, lk (a ++ b) = (lk a).or (lk b)) {tr : List Entry} {sel : Nat → Bool} {l1 l2 : List Entry} {x : Entry} (h : Moment all tr sel l1 x l2)
  {l : Loc} (hw : ∀ y, lk (g y) ≠ none → l ∈ y.wl) (b : List α) : lk (stL g (fun j => sel j || j == x.ix) tr b) = lk (g x ++ stL g sel tr b) := by
 rw [h.tr_]
 refine stL_insert hlk h.off (by simp) ?_ ?_
 · intro y hy
   have : y.ix ≠ x.ix := by
    rcases List.mem_append.1 hy with hy | hy
    · have := h.newer y hy; omega
    · have := h.older y hy; omega
   simp [this]
 · intro hne y hy hne'
   exact h.new y hy (clash_of (hw y hne') (.inr (hw x hne)))
theorem rl_slot {x : Entry} {t : Nat} (h : t ∈ x.o.looksAt all) : Loc.slot t ∈ x.rl all := by
 unfold Entry.rl
 simp only [List.mem_append]
 exact .inl (.inl (.inl (.inl (List.mem_map.2 ⟨t, h, rfl⟩))))
theorem rl_cell {x : Entry} {b o : Nat} {v : SV} (h : findC x.rd b o = some v) : Loc.cell b o ∈ x.rl all ∧ Loc.blk b ∈ x.rl all := by
 have hm := mem_of_findC h
 unfold Entry.rl
 simp only [List.mem_append]
 exact ⟨.inl (.inl (.inl (.inr (List.mem_map.2 ⟨_, hm, rfl⟩)))), .inl (.inl (.inr (List.mem_map.2 ⟨_, hm, rfl⟩)))⟩
theorem rl_kn {x : Entry} {b : Nat} {i : BI} (h : look x.kn b = some i) : Loc.blk b ∈ x.rl all := by
 have hm := mem_of_look h
 unfold Entry.rl
 simp only [List.mem_append]
 exact .inl (.inr (List.mem_map.2 ⟨_, hm, rfl⟩))
theorem order_step {tr : List Entry} {N : Nat} {sel : Nat → Bool} {l1 l2 : List Entry} {x : Entry} (hm : Moment all tr sel l1 x l2) (hx : ERec W P all nt bs bm x l2) (hN : x.lays = true → x.nid < N)
  {f : Nat → Nat} {a : Act} {w : World} (hinv : Inv W w0 X nt bs bm tr N sel f a w) {K : Act → World → Prop} {Q : Exit → Act → World → Prop}
  (hK : ∀ f' a' w', Inv W w0 X nt bs bm tr N (fun j => sel j || j == x.ix) f' a' w' → Ext bm.next f f' → K a' w') : wpOp P all Q x.ix K a w := by
 have hslot : ∀ t (b : SL), look (stL gS (fun j => sel j || j == x.ix) tr b) t = look (gS x ++ stL gS sel tr b) t := fun t b => hm.put (lk := fun l => look l t) (g := gS) (lkS_append t) (l := .slot t) (fun y hy => wl_slot hy) b
 have hcell : ∀ c o b, findC (stL gC (fun j => sel j || j == x.ix) tr b) c o = findC (gC x ++ stL gC sel tr b) c o := fun c o b => hm.put (lk := fun l => findC l c o) (g := gC) (lkC_append c o) (l := .cell c o) (fun y hy => wl_cell hy) b
 have hblk : ∀ c (b : List (Nat × BI)), look (stL gB (fun j => sel j || j == x.ix) tr b) c = look (gB x ++ stL gB sel tr b) c := fun c b => hm.put (lk := fun l => look l c) (g := gB) (lkS_append c) (l := .blk c) (fun y hy => (wl_blk hy).1) b
 have seenS : ∀ t, Loc.slot t ∈ x.rl all → look (stL gS sel tr bs) t = look (stL gS tt l2 bs) t := fun t h => hm.seen (lk := fun l => look l t) (g := gS) (lkS_append t) (l := .slot t) (fun y hy => wl_slot hy) (.inl h) bs
 have seenC : ∀ c o, Loc.cell c o ∈ x.rl all → findC (stL gC sel tr bm.cells) c o = findC (stL gC tt l2 bm.cells) c o := fun c o h => hm.seen (lk := fun l => findC l c o) (g := gC) (lkC_append c o) (l := .cell c o) (fun y hy => wl_cell hy) (.inl h) bm.cells
 have seenB : ∀ c, Loc.blk c ∈ x.rl all → look (stL gB sel tr bm.blks) c = look (stL gB tt l2 bm.blks) c := fun c h => hm.seen (lk := fun l => look l c) (g := gB) (lkS_append c) (l := .blk c) (fun y hy => (wl_blk hy).1) (.inl h) bm.blks
 have hins : SRel f (look x.ins) a := by
  intro t v hv hne
  refine hinv.slots t v ?_ hne
  rw [seenS t (rl_slot (hx.look t v hv))]
  exact hx.ins t v hv
 have hrd : CRel f (findC x.rd) w := by
  intro b o v hv
  obtain ⟨h1, h2⟩ := rl_cell (all := all) hv
  refine hinv.mem.cell b o v ?_
  have h3 := hx.rd b o v hv
  simp only [memT, Mem.get] at h3 ⊢
  rw [seenC b o h1, seenB b h2]
  exact h3
 have hkn : ∀ b i, look x.kn b = some i → look (memT bm sel tr N).blks b = some i := by
  intro b i hi
  simp only [memT]
  rw [seenB b (rl_kn hi)]
  exact hx.kn b i hi
 have hknR : KRel f (look x.kn) w := fun b i hi => hinv.mem.blk b i (hkn b i hi)
 have hsz : ∀ u, (a.put x.o.dst u).tmps.size = nt ∧ (a.put x.o.dst u).defers = [] := by
  intro u
  cases x.o.dst <;> simp [Act.put, hinv.size, hinv.defers]
 have hslots : ∀ (f' : Nat → Nat) (u : Value), SRel f' (look (stL gS sel tr bs)) a → (x.val = .un ∨ u = x.val.den f') → SRel f' (look (stL gS (fun j => sel j || j == x.ix) tr bs)) (a.put x.o.dst u) := by
  intro f' u hs hv t v hv2 hne
  rw [hslot, ← gS_append x.o x.val _ x rfl rfl] at hv2
  exact hs.put hinv.size hx.dst hv t v hv2 hne
 unfold wpOp
 rw [hx.o]
 simp only
 have hact := hx.act
 unfold Acts at hact
 cases heff : x.eff with
 | none =>
  rw [heff] at hact
  have hval : x.val = .ud := by simp [Entry.val, heff]
  rw [if_neg (by simp [hact f a hins])]
  refine hK f _ w ⟨(hsz undef).1, (hsz undef).2, hslots f undef hinv.slots (.inr (by rw [hval]; rfl)), ?_, hinv.fr⟩ (.refl _ _)
  refine hinv.mem.congr ?_ ?_ (Nat.le_refl _)
  · intro b o; simp only [memT, Mem.get, hcell, hblk]; simp [gC, gB, heff]
  · intro b; simp only [memT, hblk]; simp [gB, heff]
 | some e =>
  rw [heff] at hact
  obtain ⟨hwant, hnbws, hrun⟩ := hact
  rw [if_pos (hwant f a hins)]
  left
  obtain ⟨hwp, hws⟩ := hrun f a w hins hrd hknR hinv.fr.old (fun b i hi hrw => hinv.mem.ownK hinv.fr b i (hkn b i hi) hrw)
  have hval : x.val = e.val := by simp [Entry.val, heff]
  refine hwp _ _ ?_
  intro u w' jj hu hupd
  cases hnb : e.nb with
  | none =>
   unfold UpdE at hupd
   rw [hnb] at hupd
   have hws' : wsOk (look (memT bm sel tr N).blks) e.ws := by
    intro p hp
    obtain ⟨i, h1, h2⟩ := hws p hp
    exact ⟨i, hkn p.1 i h1, h2⟩
   obtain ⟨hm1, hf1⟩ := hinv.mem.upd hinv.fr hws' hupd
   have hu' : x.val = .un ∨ u = x.val.den f := by rw [hval]; simpa [updJ, hnb] using hu
   refine hK f _ w' ⟨(hsz u).1, (hsz u).2, hslots f u hinv.slots hu', ?_, hf1⟩ (.refl _ _)
   refine hm1.congr ?_ ?_ (Nat.le_refl _)
   · intro b o; simp only [memT, Mem.get, hcell, hblk]; simp [gC, gB, heff, hnb]
   · intro b; simp only [memT, hblk]; simp [gB, heff, hnb]
  | some p =>
   obtain ⟨t, l⟩ := p
   unfold UpdE at hupd
   rw [hnb] at hupd
   simp only at hupd
   have hws0 : e.ws = [] := hnbws (by simp [hnb])
   have hlays : x.lays = true := by simp [Entry.lays, heff, hnb]
   obtain ⟨hn1, hn2, hn3, hn4⟩ := hx.lays hlays
   have hgB : gB x = [(x.nid, ⟨t, l, true⟩)] := by simp [gB, heff, hnb]
   have hinit : allB (SV.lt x.nid) l = true := by
    have := hn4 (x.nid, ⟨t, l, true⟩) (by rw [hgB]; simp)
    exact this
   have hf' : updJ f x.nid jj e = fun k => if k = x.nid then jj else f k := by simp [updJ, hnb]
   have hext : Ext x.nid f (fun k => if k = x.nid then jj else f k) := fun b hb => by simp [Nat.ne_of_lt hb]
   have hmem : ∀ y ∈ tr, sel y.ix = true → y.free x.nid = true := by
    intro y hy hs
    rw [hm.tr_] at hy
    rcases List.mem_append.1 hy with hy | hy
    · exact hm.free hlays y (by simp [hy]) hs
    · rcases List.mem_cons.1 hy with rfl | hy
      · rw [hm.off] at hs; cases hs
      · exact hm.free hlays y (by simp [hy]) hs
   have hnone : look (memT bm sel tr N).blks x.nid = none := by
    cases hh : look (memT bm sel tr N).blks x.nid with
    | none => rfl
    | some i =>
     rcases stL_src (lk := fun l => look l x.nid) (g := gB) (lkS_append x.nid) hh with ⟨y, hy, hs, hg⟩ | hb
     · obtain ⟨_, hyl, hyn⟩ := wl_blk (y := y) (b := x.nid) (by rw [hg]; simp)
       rw [hm.tr_] at hy
       rcases List.mem_append.1 hy with hy | hy
       · exact absurd hyn (hm.nid hlays y (by simp [hy]) hyl)
       · rcases List.mem_cons.1 hy with rfl | hy
         · rw [hm.off] at hs; cases hs
         · exact absurd hyn (hm.nid hlays y (by simp [hy]) hyl)
     · simp only [ltM, Bool.and_eq_true] at hn3
       have := allB_iff hn3.2 _ (mem_of_look hb)
       simp only [Bool.and_eq_true] at this
       have := lt_of_blt this.1
       omega
   have hfree : ∀ b o v, (memT bm sel tr N).get b o = some v → v.den (fun k => if k = x.nid then jj else f k) = v.den f := by
    intro b o v hv
    unfold Mem.get at hv
    split at hv
    · rename_i u' hu'
      simp only [Option.some.injEq] at hv
      subst hv
      rcases stL_src (lk := fun l => findC l b o) (g := gC) (lkC_append b o) hu' with ⟨y, hy, hs, hg⟩ | hb
      · have hyf := hmem y hy hs
        unfold Entry.free at hyf
        unfold gC at hg
        cases he : y.eff with
        | none => rw [he] at hg; simp [findC] at hg
        | some ey =>
         rw [he] at hyf hg
         simp only [Bool.and_eq_true] at hyf
         exact SV.free_den (allB_iff hyf.1.2 _ (mem_of_findC hg)) f
      · simp only [ltM, Bool.and_eq_true] at hn3
        exact SV.lt_den (allB_iff hn3.1 _ (mem_of_findC hb)) hext
    · split at hv <;> try contradiction
      rename_i i hi
      rcases stL_src (lk := fun l => look l b) (g := gB) (lkS_append b) hi with ⟨y, hy, hs, hg⟩ | hb
      · have hyf := hmem y hy hs
        unfold Entry.free at hyf
        unfold gB at hg
        cases he : y.eff with
        | none => rw [he] at hg; simp [look] at hg
        | some ey =>
         rw [he] at hyf hg
         simp only [Bool.and_eq_true] at hyf
         simp only at hg
         cases hne : ey.nb with
         | none => rw [hne] at hg; simp [look] at hg
         | some q =>
          obtain ⟨t', l'⟩ := q
          rw [hne] at hg
          have h2 := hyf.2
          rw [hne] at h2
          have h3 := mem_of_look hg
          simp only [List.mem_singleton, Prod.mk.injEq] at h3
          rw [h3.2] at hv
          exact SV.free_den (allB_iff h2 v (List.mem_of_getElem? hv)) f
      · simp only [ltM, Bool.and_eq_true] at hn3
        have := allB_iff hn3.2 _ (mem_of_look hb)
        simp only [Bool.and_eq_true] at this
        exact SV.lt_den (allB_iff this.2 v (List.mem_of_getElem? hv)) hext
   have hsl : SRel (fun k => if k = x.nid then jj else f k) (look (stL gS sel tr bs)) a := by
    intro s v hv hne
    rw [hinv.slots s v hv hne]
    rcases stL_src (lk := fun l => look l s) (g := gS) (lkS_append s) hv with ⟨y, hy, hs, hg⟩ | hb
    · have hyf := hmem y hy hs
      have hyv : v = y.val := by
       unfold gS at hg
       cases hd : y.o.dst with
       | none => rw [hd] at hg; simp [look] at hg
       | some k =>
        rw [hd] at hg
        have h3 := mem_of_look hg
        simp only [List.mem_singleton, Prod.mk.injEq] at h3
        exact h3.2
      subst hyv
      unfold Entry.free at hyf
      unfold Entry.val at hne ⊢
      cases he : y.eff with
      | none => rfl
      | some ey =>
       rw [he] at hyf
       simp only [Bool.and_eq_true] at hyf
       exact (TV.free_den hyf.1.1 f).symm
    · exact (TV.lt_den (ltS_look hn2 hb) hext).symm
   have hl0 : l.map (SV.den fun k => if k = x.nid then jj else f k) = l.map (SV.den f) := denL_lt hinit hext
   obtain ⟨hm1, hf1⟩ := hinv.mem.newAt hinv.fr hupd hnone (hN hlays) hfree hl0
   have hu' : x.val = .un ∨ u = x.val.den (fun k => if k = x.nid then jj else f k) := by rw [hval, ← hf']; exact hu
   refine hK _ _ _ ⟨(hsz u).1, (hsz u).2, hslots _ u hsl hu', ?_, hf1⟩ (fun b hb => by simp [show b ≠ x.nid by omega])
   refine hm1.congr ?_ ?_ (Nat.le_refl _)
   · intro b o; simp only [memT, Mem.get, hcell, hblk]; simp [gC, hgB, heff, hws0]
   · intro b; simp only [memT, hblk]; simp [hgB]
theorem mem_ready {listed : Array Bool} {i : Nat} (h : i ∈ Region.ready .any all listed) : i < all.size ∧ listed.getD i true = false ∧ ∀ o, all[i]? = some o → ∀ e ∈ o.after.toList, Region.binds .any e = true → listed.getD e.on false = true := by
 unfold Region.ready at h
 simp only [List.mem_filter, List.mem_range, Bool.and_eq_true, Bool.not_eq_true'] at h
 obtain ⟨h1, h2, h3⟩ := h
 refine ⟨h1, h2, ?_⟩
 intro o ho e he hb
 rw [ho] at h3
 simp only [Option.map_some, Option.getD_some] at h3
 rw [Array.all_eq_true'] at h3
 have := h3 e (by simpa using he)
 simpa [hb] using this
theorem ready_mem {listed : Array Bool} {i : Nat} (h1 : i < all.size) (h2 : listed.getD i true = false) (h3 : ∀ o, all[i]? = some o → ∀ e ∈ o.after.toList, Region.binds .any e = true → listed.getD e.on false = true) : i ∈ Region.ready .any all listed := by
 unfold Region.ready
 simp only [List.mem_filter, List.mem_range, Bool.and_eq_true, Bool.not_eq_true']
 refine ⟨h1, h2, ?_⟩
 have ho : all[i]? = some all[i] := by simp [h1]
 rw [ho]
 simp only [Option.map_some, Option.getD_some]
 rw [Array.all_eq_true']
 intro e he
 cases hb : Region.binds .any e with
 | false => rfl
 | true => simp only [Bool.not_true, Bool.false_or]; exact h3 _ ho e (by simpa using he) hb
theorem edgesOk_spec : ∀ {l : List Oper} {k : Nat}, edgesOk l k = true → ∀ i o, l[i]? = some o → ∀ e ∈ o.after.toList, Region.binds .any e = true → e.on < k + i
 | [], k, _, i, o, ho => by simp at ho
 | x :: l, k, h, i, o, ho => by
  simp only [edgesOk] at h
  split at h <;> try contradiction
  rename_i ha
  cases i with
  | zero =>
   simp at ho
   subst ho
   intro e he hb
   have := allB_iff ha e he
   simp only [hb, Bool.not_true, Bool.false_or] at this
   have := lt_of_blt this
   omega
  | succ i =>
   simp at ho
   intro e he hb
   have := edgesOk_spec h i o ho e he hb
   omega
theorem any_sound {tr : List Entry} {N : Nat} (hrec : TRec W P all nt bs bm tr) (hlen : tr.length = all.size) (hind : indep all (ancs all.toList []) tr = true) (hlays : ∀ x ∈ tr, x.lays = true → x.nid < N) (hedges : edgesOk all.toList 0 = true)
  {Q : Exit → Act → World → Prop} {f0 : Nat → Nat} (hQ : ∀ f a w, Inv W w0 X nt bs bm tr N tt f a w → Ext bm.next f0 f → Q .normal a w) :
  ∀ (fuel : Nat) (U : List Nat) (listed : Array Bool) (f : Nat → Nat) (a : Act) (w : World), U.length = fuel → U.Nodup → listed.size = all.size → (∀ i, i < all.size → (listed.getD i true = false ↔ i ∈ U)) → (∀ i ∈ U, i < all.size) →
   Closed all (fun i => listed.getD i false) → Inv W w0 X nt bs bm tr N (fun i => listed.getD i false) f a w → Ext bm.next f0 f → wpAny P .any all Q fuel listed a w := by
 have done : ∀ (listed : Array Bool) (f : Nat → Nat) (a : Act) (w : World), listed.size = all.size → (∀ i, i < all.size → listed.getD i true = true) → Inv W w0 X nt bs bm tr N (fun i => listed.getD i false) f a w → Ext bm.next f0 f → Q .normal a w := by
  intro listed f a w hsz hall hinv hext
  refine hQ f a w ?_ hext
  have hsel : ∀ x ∈ tr, (fun i => listed.getD i false) x.ix = tt x.ix := by
   intro x hx
   have h1 := TRec.ix_lt hrec x hx
   rw [hlen] at h1
   have h2 := hall x.ix h1
   simp only [tt]
   rw [Array.getD_eq_getD_getElem?] at h2 ⊢
   have : listed[x.ix]? = some listed[x.ix] := by simp [show x.ix < listed.size by omega]
   rw [this] at h2 ⊢
   simpa using h2
  have e1 : ∀ t, look (stL gS (fun i => listed.getD i false) tr bs) t = look (stL gS tt tr bs) t := fun t => stL_congr (lk := fun l => look l t) (g := gS) (lkS_append t) fun x hx _ => hsel x hx
  have e2 : ∀ b o, findC (stL gC (fun i => listed.getD i false) tr bm.cells) b o = findC (stL gC tt tr bm.cells) b o := fun b o => stL_congr (lk := fun l => findC l b o) (g := gC) (lkC_append b o) fun x hx _ => hsel x hx
  have e3 : ∀ b, look (stL gB (fun i => listed.getD i false) tr bm.blks) b = look (stL gB tt tr bm.blks) b := fun b => stL_congr (lk := fun l => look l b) (g := gB) (lkS_append b) fun x hx _ => hsel x hx
  refine ⟨hinv.size, hinv.defers, ?_, hinv.mem.congr ?_ ?_ (Nat.le_refl _), hinv.fr⟩
  · intro t v hv hne; rw [← e1] at hv; exact hinv.slots t v hv hne
  · intro b o; simp only [memT, Mem.get, e2, e3]
  · intro b; simp only [memT, e3]
 intro fuel
 induction fuel with
 | zero =>
  intro U listed f a w hU _ hsz hUl _ _ hinv hext
  have hnil : U = [] := List.eq_nil_of_length_eq_zero hU
  subst hnil
  have hall : ∀ i, i < all.size → listed.getD i true = true := by
   intro i hi
   cases h : listed.getD i true with
   | true => rfl
   | false => have := (hUl i hi).1 h; simp at this
  refine ⟨?_, done listed f a w hsz hall hinv hext⟩
  rw [List.eq_nil_iff_forall_not_mem]
  intro i hi
  obtain ⟨h1, h2, _⟩ := mem_ready hi
  rw [hall i h1] at h2
  cases h2
 | succ fuel ih =>
  intro U listed f a w hU hnd hsz hUl hUlt hcl hinv hext
  refine ⟨?_, ?_⟩
  · intro hempty
    refine done listed f a w hsz ?_ hinv hext
    have key : ∀ k, ∀ i, i < k → i < all.size → listed.getD i true = true := by
     intro k
     induction k with
     | zero => intro i hi; omega
     | succ k ihk =>
      intro i hi hia
      by_cases hik : i < k
      · exact ihk i hik hia
      · cases h : listed.getD i true with
        | true => rfl
        | false =>
         have hr : i ∈ Region.ready .any all listed := by
          refine ready_mem hia h ?_
          intro o ho e he hb
          have hlt := edgesOk_spec hedges i o (by rw [Array.getElem?_toList]; exact ho) e he hb
          have h2 := ihk e.on (by omega) (by omega)
          rw [Array.getD_eq_getD_getElem?] at h2 ⊢
          have : listed[e.on]? = some (listed[e.on]'(by omega)) := by simp [show e.on < listed.size by omega]
          rw [this] at h2 ⊢
          simpa using h2
         rw [hempty] at hr
         simp at hr
    exact fun i hi => key (i + 1) i (Nat.lt_succ_self _) hi
  · intro i hi
    obtain ⟨h1, h2, h3⟩ := mem_ready hi
    have hiU := (hUl i h1).1 h2
    obtain ⟨l1, x, l2, htr, hxi, hxr, _, hnew, hold⟩ := TRec.split hrec i (by omega)
    subst hxi
    have hoff : listed.getD x.ix false = false := by
     rw [Array.getD_eq_getD_getElem?] at h2 ⊢
     have : listed[x.ix]? = some (listed[x.ix]'(by omega)) := by simp [show x.ix < listed.size by omega]
     rw [this] at h2 ⊢
     simpa using h2
    have hmom := moment_of (sel := fun i => listed.getD i false) hcl htr hind hoff h3 hold hnew
    refine order_step hmom hxr (hlays x (by rw [htr]; simp)) hinv ?_
    intro f' a' w' hinv' hext'
    have hset : ∀ j, (listed.setIfInBounds x.ix true).getD j false = (listed.getD j false || j == x.ix) := by
     intro j
     simp only [Array.getD_eq_getD_getElem?, Array.getElem?_setIfInBounds]
     by_cases hj : x.ix = j
     · subst hj; simp [show x.ix < listed.size by omega]
     · simp [hj, Ne.symm hj]
    have hfun : (fun j => (listed.setIfInBounds x.ix true).getD j false) = fun j => (listed.getD j false || j == x.ix) := funext hset
    refine ih (U.erase x.ix) _ f' a' w' (by rw [List.length_erase_of_mem hiU, hU]; rfl) (hnd.erase _) (by simpa using hsz) ?_ ?_ ?_ ?_ (hext.trans hext' (Nat.le_refl _))
    · intro j hj
      rw [hnd.mem_erase_iff, ← hUl j hj]
      simp only [Array.getD_eq_getD_getElem?, Array.getElem?_setIfInBounds]
      by_cases hjx : x.ix = j
      · subst hjx; simp [show x.ix < listed.size by omega]
      · simp [hjx, Ne.symm hjx]
    · intro j hj; exact hUlt j (List.mem_of_mem_erase hj)
    · rw [hfun]
      intro j o ho e he hb hs
      simp only [Bool.or_eq_true, beq_iff_eq] at hs ⊢
      rcases hs with hs | rfl
      · exact .inl (hcl j o ho e he hb hs)
      · exact .inl (h3 o ho e he hb)
    · rw [hfun]; exact hinv'
theorem draw_any {G : List (Nat × Spec)} (hG : GOk W P G) (n : Nat) (hS : ∀ k, k < n → Sound W P G k) {w0 : World} {X : Nat → Prop} {ops : Array Oper} {nt : Nat} {bs : SL} {bm : Mem} {f : Nat → Nat} {a : Act} {w : World}
  (hc : (P.follows .mixedOrders && edgesOk ops.toList 0 && noSel ops.toList) = true) (hg : (run P W G n (.dops ops ops.toList 0 [] []) ⟨nt, bs, bm⟩ [] bm.fresh).good) (hrel : Rel W w0 X nt bs bm f a w) :
  wpAny P .any ops (Post W w0 X nt bs bm f bm.next (run P W G n (.dops ops ops.toList 0 [] []) ⟨nt, bs, bm⟩ [] bm.fresh)) ops.size (Array.replicate ops.size false) a { w with drawn := w.drawn + 1 } := by
 simp only [Bool.and_eq_true] at hc
 obtain ⟨⟨_, hedges⟩, _⟩ := hc
 obtain ⟨ex, v, s, m, hget, hv⟩ := hg
 have hinv0 : TInv W P ops nt bs bm [] [] bm.fresh := ⟨trivial, rfl, rfl, rfl, Nat.le_refl _, by simp⟩
 obtain ⟨tr, hex, hlen, hinv, hind⟩ := dops_text hG n hS ops.toList 0 [] [] [] bm.fresh (ex, v, s, m) hget hv rfl rfl (Nat.zero_le _) hinv0 (by intro d u hd; simp [look] at hd)
 simp only at hex hinv
 subst hex
 have hstart : Inv W w0 X nt bs bm tr m.next (fun i => (Array.replicate ops.size false).getD i false) f a { w with drawn := w.drawn + 1 } := by
  have hsel : ∀ i, (Array.replicate ops.size false).getD i false = false := by
   intro i
   simp only [Array.getD_eq_getD_getElem?, Array.getElem?_replicate]
   split <;> rfl
  have hfun : (fun i => (Array.replicate ops.size false).getD i false) = fun _ => false := funext hsel
  have hnil : ∀ {α : Type} (g : Entry → List α) (b : List α) (l : List Entry), stL g (fun _ => false) l b = b := by
   intro α g b l
   induction l with
   | nil => rfl
   | cons x r ih => simp [stL, ih]
  rw [hfun]
  have hsame : ∀ i, i < w.heap.size → ({ w with drawn := w.drawn + 1 } : World).heap[i]? = w.heap[i]? := fun _ _ => rfl
  refine ⟨hrel.size, hrel.defers, by rw [hnil]; exact hrel.slots, ?_, hrel.fr.keep rfl rfl rfl (Nat.le_refl _) hsame⟩
  refine (hrel.mem.same hsame).congr ?_ ?_ hinv.next
  · intro b o; simp only [memT, hnil]; rfl
  · intro b; simp only [memT, hnil]
 refine any_sound (f0 := f) (w0 := w0) (X := X) (N := m.next) hinv.rec_ hlen hind hinv.lays hedges ?_ ops.size (List.range ops.size) _ f a _ (by simp) List.nodup_range (by simp) ?_ (by simp) ?_ hstart (.refl _ _)
 · intro f1 a1 w1 hi hext
   refine ⟨.nrm, v, s, m, f1, hget, rfl, ?_, hext, hinv.next⟩
   refine ⟨hi.size, hi.defers, by rw [hinv.slots]; exact hi.slots, ?_, hi.fr⟩
   refine hi.mem.congr ?_ ?_ (Nat.le_refl _)
   · intro b o; rw [← memT_get hinv.cells hinv.blks m.next]
   · intro b; simp only [Mem.on, memT, hinv.blks]
 · intro i hi
   simp [Array.getD_eq_getD_getElem?, hi]
 · intro i o _ e _ _ hs
   simp only [Array.getD_eq_getD_getElem?, Array.getElem?_replicate] at hs
   split at hs <;> simp at hs
theorem draw_sound {G : List (Nat × Spec)} (hG : GOk W P G) (n : Nat) (hS : ∀ k, k < n → Sound W P G k) : DrawSound W P G n := by
 intro w0 X id ops nt bs bm f a w hc hg hrel
 have hc' := hc
 simp only [Bool.and_eq_true] at hc'
 exact wp_region_any hc'.1.1 (draw_any hG n hS hc hg hrel)
theorem calls_of_eval {G : List (Nat × Spec)} (hG : GOk W P G) {g : FuncId} {args : List TV} {v : TV} (h : eval P W G g args = some v) (w : World) (hW : Old W w) :
  Calls P g (args.map (TV.den fun _ => 0)).toArray w fun en w' => (∃ f, en = .returned (v.den f)) ∧ Below w.heap.size w w' :=
 eval_calls hG (fun n hS => draw_sound hG n hS) h w hW
end
end Go.Sx
