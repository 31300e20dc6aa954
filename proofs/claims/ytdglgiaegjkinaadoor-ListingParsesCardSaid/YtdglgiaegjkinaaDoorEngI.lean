/- The symbolic executor: whatever order a region draws, its end is the text walk's. No program of the seat is named here. -/
import Derived.Test.YtdglgiaegjkinaaDoorEngH
namespace Go.Sx
open Go Go.RowKit

/-! ### Locations -/
theorem Loc.eq_iff {a b : Loc} : a.eq b = true ↔ a = b := by
  cases a <;> cases b <;> simp only [Loc.eq, reduceCtorEq, Bool.false_eq_true, Loc.slot.injEq, Loc.cell.injEq, Loc.blk.injEq]
  · exact ⟨Nat.eq_of_beq_eq_true, fun h => by subst h; exact Nat.beq_refl _⟩
  · rename_i b o c p
    cases h : Nat.beq b c
    · have := Nat.ne_of_beq_eq_false h
      simp [this]
    · have := Nat.eq_of_beq_eq_true h
      subst this
      simp only [true_and]
      exact ⟨Nat.eq_of_beq_eq_true, fun h => by subst h; exact Nat.beq_refl _⟩
  · exact ⟨Nat.eq_of_beq_eq_true, fun h => by subst h; exact Nat.beq_refl _⟩
theorem anyB_iff {α : Type} {p : α → Bool} : ∀ {l : List α}, anyB p l = true ↔ ∃ x ∈ l, p x = true
  | [] => by simp [anyB]
  | x :: l => by
    simp only [anyB]
    cases h : p x
    · simp [h, anyB_iff (l := l)]
    · simp [h]
theorem Loc.mem_iff {l : Loc} {ls : List Loc} : l.mem ls = true ↔ l ∈ ls := by
  unfold Loc.mem
  rw [anyB_iff]
  constructor
  · rintro ⟨x, hx, h⟩; rw [Loc.eq_iff] at h; subst h; exact hx
  · intro h; exact ⟨l, h, Loc.eq_iff.2 rfl⟩
theorem clash_of {all : Array Oper} {x y : Entry} {l : Loc} (hx : l ∈ x.wl) (hy : l ∈ y.rl all ∨ l ∈ y.wl) : clash all x y = true := by
  unfold clash
  have : anyB (fun l => l.mem (y.rl all) || l.mem y.wl) x.wl = true := by
    rw [anyB_iff]
    refine ⟨l, hx, ?_⟩
    rw [Bool.or_eq_true, Loc.mem_iff, Loc.mem_iff]
    exact hy
  rw [this]
theorem clash_of' {all : Array Oper} {x y : Entry} {l : Loc} (hy : l ∈ y.wl) (hx : l ∈ x.rl all ∨ l ∈ x.wl) : clash all x y = true := by
  rcases hx with hx | hx
  · unfold clash
    split
    · rfl
    · rw [anyB_iff]
      exact ⟨l, hy, Loc.mem_iff.2 hx⟩
  · exact clash_of hx (.inr hy)

theorem wl_slot {y : Entry} {t : Nat} (h : look (gS y) t ≠ none) : Loc.slot t ∈ y.wl := by
  unfold gS at h
  unfold Entry.wl
  cases hd : y.o.dst with
  | none => rw [hd] at h; simp [look] at h
  | some k =>
    rw [hd] at h
    simp only [look_cons] at h
    by_cases hk : k = t
    · subst hk; simp
    · rw [if_neg hk] at h; simp [look] at h
theorem findC_mem {l : List (Nat × Nat × SV)} {b o : Nat} (h : findC l b o ≠ none) : ∃ v, (b, o, v) ∈ l := by
  cases hh : findC l b o with
  | none => exact absurd hh h
  | some v => exact ⟨v, mem_of_findC hh⟩
theorem wl_cell {y : Entry} {b o : Nat} (h : findC (gC y) b o ≠ none) : Loc.cell b o ∈ y.wl := by
  obtain ⟨v, hv⟩ := findC_mem h
  unfold gC at hv
  unfold Entry.wl
  cases he : y.eff with
  | none => rw [he] at hv; simp at hv
  | some e =>
    rw [he] at hv
    refine List.mem_append_right _ (List.mem_append_left _ ?_)
    exact List.mem_map.2 ⟨(b, o, v), hv, rfl⟩
theorem wl_blk {y : Entry} {b : Nat} (h : look (gB y) b ≠ none) : Loc.blk b ∈ y.wl ∧ y.lays = true ∧ y.nid = b := by
  unfold gB at h
  unfold Entry.wl Entry.lays
  cases he : y.eff with
  | none => rw [he] at h; simp [look] at h
  | some e =>
    rw [he] at h
    simp only at h ⊢
    cases hn : e.nb with
    | none => rw [hn] at h; simp [look] at h
    | some p =>
      obtain ⟨t, l⟩ := p
      rw [hn] at h
      simp only [look_cons] at h
      by_cases hb : y.nid = b
      · subst hb; simp
      · rw [if_neg hb] at h; simp [look] at h

/-! ### What comes before in every order -/
def Closed (all : Array Oper) (sel : Nat → Bool) : Prop := ∀ i o, all[i]? = some o → ∀ e ∈ o.after.toList, Region.binds .any e = true → sel i = true → sel e.on = true

theorem insN_mem {n k : Nat} {l : List Nat} (h : k ∈ insN n l) : k = n ∨ k ∈ l := by
  unfold insN at h
  split at h
  · exact .inr h
  · simpa using h
theorem unionN_mem {k : Nat} : ∀ {l r : List Nat}, k ∈ unionN l r → k ∈ l ∨ k ∈ r
  | [], r, h => .inr h
  | x :: l, r, h => by
    simp only [unionN] at h
    rcases unionN_mem h with h | h
    · exact .inl (by simp [h])
    · rcases insN_mem h with rfl | h
      · exact .inl (by simp)
      · exact .inr h
theorem ancStep_mem {acc : List (List Nat)} {k : Nat} : ∀ {es : List Edge}, k ∈ ancStep acc es → ∃ e ∈ es, Region.binds .any e = true ∧ (k = e.on ∨ k ∈ nthL acc e.on)
  | [], h => by simp [ancStep] at h
  | e :: es, h => by
    simp only [ancStep] at h
    split at h
    · rename_i hb
      rcases insN_mem h with rfl | h
      · exact ⟨e, by simp, hb, .inl rfl⟩
      · rcases unionN_mem h with h | h
        · exact ⟨e, by simp, hb, .inr h⟩
        · obtain ⟨e', h1, h2⟩ := ancStep_mem h
          exact ⟨e', by simp [h1], h2⟩
    · obtain ⟨e', h1, h2⟩ := ancStep_mem h
      exact ⟨e', by simp [h1], h2⟩
theorem nthL_append : ∀ (acc : List (List Nat)) (x : List Nat) (i : Nat), nthL (acc ++ [x]) i = if i < acc.length then nthL acc i else if i = acc.length then x else []
  | [], x, 0 => rfl
  | [], x, i + 1 => by simp [nthL]
  | a :: acc, x, 0 => by simp [nthL]
  | a :: acc, x, i + 1 => by
    simp only [List.cons_append, nthL, List.length_cons]
    rw [nthL_append acc x i]
    by_cases h1 : i < acc.length
    · simp [h1]
    · by_cases h2 : i = acc.length <;> simp [h1, h2]
theorem ancs_ok {all : Array Oper} {sel : Nat → Bool} (hc : Closed all sel) : ∀ (l : List Oper) (acc : List (List Nat)), l = all.toList.drop acc.length → acc.length ≤ all.size →
    (∀ i j, j ∈ nthL acc i → sel i = true → sel j = true) → ∀ i j, j ∈ nthL (ancs l acc) i → sel i = true → sel j = true
  | [], acc, _, _, h => h
  | o :: r, acc, hl, hle, h => by
    obtain ⟨ho, hr⟩ := drop_cons hl
    have ho' : all[acc.length]? = some o := by rw [← Array.getElem?_toList]; exact ho
    have hlt : acc.length < all.size := by
      have := (Array.getElem?_eq_some_iff.1 ho').1
      exact this
    refine ancs_ok hc r (acc ++ [ancStep acc o.after.toList]) (by simpa using hr) (by simp; omega) ?_
    intro i j hj hs
    rw [nthL_append] at hj
    split at hj
    · exact h i j hj hs
    · split at hj
      · rename_i hi
        obtain ⟨e, he, hb, hk⟩ := ancStep_mem hj
        have h1 := hc acc.length o ho' e he hb (by rw [← hi]; exact hs)
        rcases hk with rfl | hk
        · exact h1
        · exact h e.on j hk h1
      · simp at hj

theorem indepWith_mem {all : Array Oper} {an : List Nat} {x : Entry} : ∀ {l : List Entry}, indepWith all an x l = true → ∀ y ∈ l, pairOk all an x y = true
  | [], _, y, hy => by simp at hy
  | z :: l, h, y, hy => by
    simp only [indepWith] at h
    split at h <;> try contradiction
    rename_i hz
    rcases List.mem_cons.1 hy with rfl | hy
    · exact hz
    · exact indepWith_mem h y hy
theorem indep_split {all : Array Oper} {as : List (List Nat)} {x : Entry} {l2 : List Entry} : ∀ {l1 : List Entry}, indep all as (l1 ++ x :: l2) = true →
    (∀ y ∈ l2, pairOk all (nthL as x.ix) x y = true) ∧ (∀ y ∈ l1, pairOk all (nthL as y.ix) y x = true)
  | [], h => by
    simp only [List.nil_append, indep] at h
    split at h <;> try contradiction
    rename_i hw
    exact ⟨indepWith_mem hw, by simp⟩
  | z :: l1, h => by
    simp only [List.cons_append, indep] at h
    split at h <;> try contradiction
    rename_i hw
    obtain ⟨h1, h2⟩ := indep_split h
    refine ⟨h1, fun y hy => ?_⟩
    rcases List.mem_cons.1 hy with rfl | hy
    · exact indepWith_mem hw x (by simp)
    · exact h2 y hy
theorem pairOk_spec {all : Array Oper} {an : List Nat} {x y : Entry} (h : pairOk all an x y = true) :
    (x.lays = true → y.free x.nid = true ∧ (y.lays = true → x.nid ≠ y.nid)) ∧ (y.ix ∈ an ∨ (clash all x y = false ∧ (y.lays = true → x.free y.nid = true))) := by
  unfold pairOk at h
  split at h <;> try contradiction
  rename_i hc
  refine ⟨?_, ?_⟩
  · intro hl
    simp only [hl, Bool.true_and, Bool.or_eq_false_iff, Bool.not_eq_false', Bool.and_eq_false_iff] at hc
    refine ⟨hc.1, fun hy => ?_⟩
    rcases hc.2 with h2 | h2
    · rw [hy] at h2; cases h2
    · exact Nat.ne_of_beq_eq_false h2
  · split at h
    · rename_i hm
      exact .inl (memN_iff.1 hm)
    · right
      simp only [Bool.and_eq_true, Bool.not_eq_true', Bool.and_eq_false_iff, Bool.not_eq_false'] at h
      refine ⟨h.1, fun hy => ?_⟩
      rcases h.2 with h2 | h2
      · rw [hy] at h2; cases h2
      · exact h2

/-! ### Values that do not point to a block -/
theorem SV.free_den {v : SV} {n k : Nat} (h : v.free n = true) (f : Nat → Nat) : v.den (fun j => if j = n then k else f j) = v.den f := by
  cases v with
  | ptr b o =>
    simp only [SV.free, Bool.not_eq_true'] at h
    simp [SV.den, Nat.ne_of_beq_eq_false h]
  | row b o n c =>
    simp only [SV.free, Bool.not_eq_true'] at h
    simp [SV.den, Nat.ne_of_beq_eq_false h]
  | clo g cs =>
    simp only [SV.free] at h
    simp only [SV.den]
    congr 2
    refine List.map_congr_left fun c hc => ?_
    have := allB_iff h c hc
    simp only [Bool.not_eq_true'] at this
    simp [caddr, Nat.ne_of_beq_eq_false this]
  | _ => rfl
theorem freeL_den {l : List SV} {n k : Nat} (h : allB (SV.free n) l = true) (f : Nat → Nat) : l.map (SV.den fun j => if j = n then k else f j) = l.map (SV.den f) :=
  List.map_congr_left fun _ hv => SV.free_den (allB_iff h _ hv) f
theorem TV.free_den {v : TV} {n k : Nat} (h : v.free n = true) (f : Nat → Nat) : v.den (fun j => if j = n then k else f j) = v.den f := by
  cases v with
  | un => rfl
  | ud => rfl
  | one s => exact SV.free_den h f
  | agg l => simp only [TV.den, dens, freeL_den h f]
  | tup ps =>
    simp only [TV.free] at h
    simp only [TV.den]
    congr 2
    refine List.map_congr_left fun p hp => ?_
    have hl := allB_iff h p hp
    obtain ⟨b, l⟩ := p
    exact partDen_free hl f
where
  partDen_free {b : Bool} {l : List SV} {n k : Nat} (hl : allB (SV.free n) l = true) (f : Nat → Nat) : partDen (fun j => if j = n then k else f j) (b, l) = partDen f (b, l) := by
    cases b with
    | true => simp only [partDen, dens, freeL_den hl f]
    | false =>
      match l, hl with
      | [], _ => rfl
      | [v], hl => exact SV.free_den (allB_iff hl v (by simp)) f
      | _ :: _ :: _, _ => rfl

section
variable {W w0 : World} {X : Nat → Prop} {f : Nat → Nat}
theorem MOk.congr {M M' : Mem} {w : World} (h : MOk w0 X f M w) (hg : ∀ b o, M'.get b o = M.get b o) (hb : ∀ b, look M'.blks b = look M.blks b) (hn : M.next ≤ M'.next) : MOk w0 X f M' w := by
  refine ⟨?_, ?_, ?_, ?_, ?_, ?_⟩
  · intro b i hi; rw [hb] at hi; exact h.blk b i hi
  · intro b o v hv; rw [hg] at hv; exact h.cell b o v hv
  · intro b o v hv; rw [hg] at hv; rw [hb]; exact h.known b o v hv
  · intro b c i j h1 h2; rw [hb] at h1 h2; exact h.inj b c i j h1 h2
  · intro b i hi; rw [hb] at hi; exact h.own b i hi
  · intro b i hi; rw [hb] at hi; exact Nat.lt_of_lt_of_le (h.lt b i hi) hn

theorem MOk.newAt {M : Mem} {w w' : World} (h : MOk w0 X f M w) (hf : Fr W w0 X w) {t : TypeId} {l : List SV} {nid jj : Nat} (hL : LaidAt w w' jj (dens f l) t) (hnone : look M.blks nid = none) (hN : nid < M.next)
    (hfree : ∀ b o v, M.get b o = some v → v.den (fun k => if k = nid then jj else f k) = v.den f) (hl : l.map (SV.den fun k => if k = nid then jj else f k) = l.map (SV.den f)) :
    MOk w0 X (fun k => if k = nid then jj else f k) ⟨M.cells, (nid, ⟨t, l, true⟩) :: M.blks, M.next⟩ w' ∧ Fr W w0 X w' := by
  have hcn : ∀ o, findC M.cells nid o = none := by
    intro o
    cases hh : findC M.cells nid o with
    | none => rfl
    | some v =>
      have hg : M.get nid o = some v := by simp [Mem.get, hh]
      obtain ⟨i, hi⟩ := h.known _ _ _ hg
      rw [hnone] at hi
      cases hi
  have hget := fun c p => Mem.get_new M nid ⟨t, l, true⟩ M.next hcn c p
  have hne : ∀ b i, look M.blks b = some i → b ≠ nid := by
    rintro b i hi rfl
    rw [hnone] at hi; cases hi
  have hold : ∀ b i, look M.blks b = some i → (if b = nid then jj else f b) = f b ∧ f b < w.heap.size := by
    intro b i hi
    obtain ⟨arr, harr, _⟩ := h.blk b i hi
    exact ⟨if_neg (hne b i hi), lt_of_blk harr⟩
  refine ⟨⟨?_, ?_, ?_, ?_, ?_, ?_⟩, ?_⟩
  · intro b i hi
    rw [look_cons] at hi
    split at hi
    · rename_i hb
      simp only [Option.some.injEq] at hi
      subst hi hb
      exact ⟨dens f l, by simp only [if_true]; exact hL.at_, by simp [dens]⟩
    · obtain ⟨h1, h2⟩ := hold b i hi
      obtain ⟨arr, harr, hsz⟩ := h.blk b i hi
      exact ⟨arr, by simp only [h1]; rw [hL.same _ h2]; exact harr, hsz⟩
  · intro c p v hv
    rw [hget] at hv
    split at hv
    · rename_i hc
      subst hc
      simp only [if_true]
      rw [cell_of_blk hL.at_]
      simp only at hv
      have h1 : (dens f l)[p]? = some (v.den f) := by simp [dens, hv]
      have h2 := congrArg (fun z => z[p]?) hl
      simp only [List.getElem?_map, hv, Option.map_some, Option.some.injEq] at h2
      rw [h1, h2]
    · obtain ⟨i, hi⟩ := h.known c p v hv
      obtain ⟨h1, h2⟩ := hold c i hi
      simp only [h1]
      rw [World.cell?_of_block (hL.same _ h2), h.cell c p v hv, hfree c p v hv]
  · intro c p v hv
    rw [hget] at hv
    rw [look_cons]
    split at hv
    · rename_i hc; simp [hc]
    · rename_i hc
      obtain ⟨i, hi⟩ := h.known c p v hv
      exact ⟨i, by rw [if_neg hc]; exact hi⟩
  · intro b c i j hb hc hfe
    rw [look_cons] at hb hc
    split at hb
    · rename_i hb'
      split at hc
      · rename_i hc'; rw [← hb', ← hc']
      · rename_i hc'
        obtain ⟨h1, h2⟩ := hold c j hc
        subst hb'
        simp only [h1, if_true] at hfe
        have := hL.ge
        omega
    · rename_i hb'
      obtain ⟨h1, h2⟩ := hold b i hb
      split at hc
      · rename_i hc'
        subst hc'
        simp only [h1, if_true] at hfe
        have := hL.ge
        omega
      · obtain ⟨h3, h4⟩ := hold c j hc
        simp only [h1, h3] at hfe
        exact h.inj b c i j hb hc hfe
  · intro b i hi hrw
    rw [look_cons] at hi
    split at hi
    · rename_i hb
      subst hb
      left
      simp only [if_true]
      exact Nat.le_trans hf.size hL.ge
    · obtain ⟨h1, _⟩ := hold b i hi
      simp only [h1]
      exact h.own b i hi hrw
  · intro b i hi
    rw [look_cons] at hi
    split at hi
    · rename_i hb; subst hb; exact hN
    · exact h.lt b i hi
  · refine ⟨hL.os.trans hf.os, hL.tape.trans hf.tape, hL.output.trans hf.output, Nat.le_trans hf.size hL.size, fun i hi hx => ?_, hf.base⟩
    rw [hL.same _ (Nat.lt_of_lt_of_le hi hf.size)]
    exact hf.same i hi hx
end
end Go.Sx
