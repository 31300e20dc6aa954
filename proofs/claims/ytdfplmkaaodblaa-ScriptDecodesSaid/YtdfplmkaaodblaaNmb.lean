/- Functions that are given a pointer to a row of two cells, a slice and a number: what a run of them says as a contract. No program of the seat is named here. -/
import Derived.Test.YtdfplmkaaodblaaLaw
namespace Go.Sx
open Go Go.RowKit

/-- The memory of such a run: block 0. -/
def nMem (T : TypeId) (a : Option Addr) (n c : Nat) (x : SI) : Mem := ⟨[], [(0, ⟨T, [.sl a n c, .int .i64 x], true⟩)], 1⟩
def nRun (P : Program) (W : World) (G : List (Nat × Spec)) (T : TypeId) (g : FuncId) (a : Option Addr) (n c : Nat) (x : SI) (rest : List TV) : R :=
  (run P W G 100000 (.fn g (.one (.ptr 0 0) :: rest)) ⟨0, [], nMem T a n c x⟩ [] (nMem T a n c x).fresh).collapse [] (nMem T a n c x)
/-- What it comes to: the condition, the value, the number behind it. -/
def nVal (T : TypeId) (a : Option Addr) (n c : Nat) (x : SI) : R → Option (SB × TV × SI)
  | .leaf (.res v) vc _ m => match (m.on (nMem T a n c x)).get 0 1 with
    | some (.int .i64 y) => match findC m.cells 0 0, look m.blks 0 with
      | none, none => some (vc, v, y)
      | _, _ => none
    | _ => none
  | _ => none
def specN (T : TypeId) (F : Option Addr → Nat → Nat → SI → List TV → Option (SB × TV × SI)) : Spec :=
  ⟨fun
    | .one (.ptr b 0) :: _ => [(b, 0, 2)]
    | _ => [],
   fun
    | .one (.ptr b 0) :: _ => [b]
    | _ => [],
   fun args C K => match args with
    | .one (.ptr b 0) :: rest => match C b 0, C b 1, K b with
      | some (.sl a n c), some (.int .i64 x), some i => match Nat.beq i.elem T && Nat.beq i.init.length 2 && i.rw with
        | true => match F a n c x rest with
          | some (vc, v, y) => some ⟨vc, v, [(b, 1, .int .i64 y)], none⟩
          | none => none
        | false => none
      | _, _, _ => none
    | _ => none⟩

theorem arr_two {α : Type} {arr : Array α} (h : arr.size = 2) {x y : α} (h0 : arr[0]? = some x) (h1 : arr[1]? = some y) : arr = #[x, y] := by
  apply Array.ext
  · rw [h]; rfl
  · intro i hi _
    rw [h] at hi
    rcases i with _ | _ | i
    · have := (Array.getElem?_eq_some_iff.1 h0).2; simpa using this
    · have := (Array.getElem?_eq_some_iff.1 h1).2; simpa using this
    · omega

theorem specN_ok {W : World} {P : Program} {G : List (Nat × Spec)} (hG : GOk W P G) {g : FuncId} {T : TypeId} {F : Option Addr → Nat → Nat → SI → List TV → Option (SB × TV × SI)}
    (fn : ∃ fn, P.funcs[g]? = some fn ∧ (fn.name == "runtime.NumGoroutine") = false ∧ fn.body.isNone = false)
    (h : ∀ a n c x rest vc v y, F a n c x rest = some (vc, v, y) → vc.val = true → allB (TV.lt 0) rest = true ∧ v.lt 0 = true ∧ v ≠ .un ∧
      ∃ x' rest' vc' v' y', x'.val = x.val ∧ allB (TV.lt 0) rest' = true ∧ rest'.map (TV.den fun _ => 0) = rest.map (TV.den fun _ => 0) ∧
        nVal T a n c x' (nRun P W G T g a n c x' rest') = some (vc', v', y') ∧ vc'.val = true ∧ y'.val = y.val ∧ ∀ f, v'.den f = v.den f) : SpecOk W P g (specN T F) := by
  refine ⟨fn, ?_⟩
  intro args C K e f w he _ hvc hC hK hW hOwn
  simp only [specN] at he
  split at he <;> try contradiction
  rename_i b rest
  split at he <;> try contradiction
  rename_i a n c x i hc0 hc1 hKb
  split at he <;> try contradiction
  rename_i hi
  simp only [Bool.and_eq_true, Nat.beq_eq] at hi
  obtain ⟨⟨hT, hlen⟩, hrw⟩ := hi
  split at he <;> try contradiction
  rename_i vc v y hF
  simp only [Option.some.injEq] at he
  subst he
  obtain ⟨h1, h2, h3, x', rest', vc', v', y', hx', h1', hr', h4, h5, h6, h7⟩ := h a n c x rest vc v y hF hvc
  have hfb : Free W (f b) := hOwn b i hKb hrw
  obtain ⟨arr, harr, hsz⟩ := hK b i hKb
  rw [hT] at harr
  rw [hlen] at hsz
  have ha0 : arr[0]? = some ((SV.sl a n c).den f) := by rw [← cell_of_blk harr]; exact hC b 0 _ hc0
  have ha1 : arr[1]? = some ((SV.int .i64 x).den f) := by rw [← cell_of_blk harr]; exact hC b 1 _ hc1
  refine ⟨h3, ?_, ?_⟩
  · intro p hp
    simp only [List.mem_singleton] at hp
    subst hp
    exact ⟨i, hKb, hrw, by rw [hlen]; exact Nat.one_lt_two⟩
  -- the run
  let f0 : Nat → Nat := fun _ => f b
  let X : Nat → Prop := fun j => j = f b
  have hget : ∀ b' o v, (nMem T a n c x').get b' o = some v → b' = 0 ∧ ((o = 0 ∧ v = .sl a n c) ∨ (o = 1 ∧ v = .int .i64 x')) := by
    intro b' o v hv
    simp only [nMem, Mem.get, findC, look_cons, look] at hv
    by_cases hb : 0 = b'
    · simp only [hb, if_true] at hv
      rcases o with _ | _ | o
      · simp at hv; exact ⟨hb.symm, .inl ⟨rfl, hv.symm⟩⟩
      · simp at hv; exact ⟨hb.symm, .inr ⟨rfl, hv.symm⟩⟩
      · simp at hv
    · simp [hb] at hv
  have hblk : ∀ b' j, look (nMem T a n c x').blks b' = some j → b' = 0 ∧ j = ⟨T, [.sl a n c, .int .i64 x'], true⟩ := by
    intro b' j hj
    simp only [nMem, look_cons, look] at hj
    split at hj
    · rename_i hb
      simp only [Option.some.injEq] at hj
      exact ⟨hb.symm, hj.symm⟩
    · cases hj
  have hm : MOk w X f0 ((nMem T a n c x').fresh.on (nMem T a n c x')) w := by
    rw [fresh_on]
    refine ⟨?_, ?_, ?_, ?_, ?_, ?_⟩
    · intro b' j hj
      obtain ⟨_, rfl⟩ := hblk b' j hj
      exact ⟨arr, harr, hsz⟩
    · intro b' o v hv
      obtain ⟨_, ⟨rfl, rfl⟩ | ⟨rfl, rfl⟩⟩ := hget b' o v hv
      · show w.cell? ⟨f b, 0, none⟩ = _
        rw [cell_of_blk harr, ha0]; rfl
      · show w.cell? ⟨f b, 1, none⟩ = _
        rw [cell_of_blk harr, ha1]; simp only [SV.den, hx']
    · intro b' o v hv
      obtain ⟨rfl, _⟩ := hget b' o v hv
      exact ⟨_, rfl⟩
    · intro b' c' j k hj hk _
      rw [(hblk b' j hj).1, (hblk c' k hk).1]
    · intro _ _ _ _
      exact .inr rfl
    · intro b' j hj
      rw [(hblk b' j hj).1]
      exact Nat.zero_lt_one
  have hf : Fr W w X w := ⟨rfl, rfl, rfl, Nat.le_refl _, fun _ _ _ => rfl, ⟨hW, fun j hj => by rw [hj]; exact hfb⟩⟩
  have hk : BKnown (nMem T a n c x') := by
    intro b' o v hv
    obtain ⟨rfl, _⟩ := hget b' o v hv
    exact ⟨_, rfl⟩
  -- the leaf
  unfold nVal nRun at h4
  split at h4 <;> try contradiction
  rename_i v1 vc1 s1 m1 hR
  split at h4 <;> try contradiction
  rename_i y1 hy1
  split at h4 <;> try contradiction
  rename_i hno hnb
  simp only [Option.some.injEq, Prod.mk.injEq] at h4
  obtain ⟨rfl, rfl, rfl⟩ := h4
  have hRg : ((run P W G 100000 (.fn g (.one (.ptr 0 0) :: rest')) ⟨0, [], nMem T a n c x'⟩ [] (nMem T a n c x').fresh).collapse [] (nMem T a n c x')).get = some (.res v1, vc1, s1, m1) := by
    rw [hR]; rfl
  obtain ⟨⟨e5, v5, s5, m5⟩, h8, hL⟩ := R.collapse_get hk _ hRg
  have hcalls := (sound hG (fun n hS => draw_sound hG n hS) 100000).fn w X g (.one (.ptr 0 0) :: rest') ⟨0, [], nMem T a n c x'⟩ [] (nMem T a n c x').fresh f0 w ⟨_, _, _, _, h8, hL.2.1.symm.trans h5⟩ hm hf
  have hargs : (TV.one (.ptr 0 0) :: rest').map (TV.den f0) = (TV.one (.ptr b 0) :: rest).map (TV.den f) := by
    simp only [List.map_cons]
    refine congr (congrArg _ rfl) ?_
    rw [allLt_den h1' f0 (fun _ => 0), hr', allLt_den h1 (fun _ => 0) f]
  rw [← hargs]
  refine hcalls.mono ?_
  rintro en w1 ⟨u, v2, s2, m2, f2, hr, hne, rfl, hm2, hf2, hext, _⟩
  rw [h8] at hr
  simp only [Option.some.injEq, Prod.mk.injEq] at hr
  obtain ⟨rfl, rfl, rfl, rfl⟩ := hr
  have hf20 : f2 0 = f b := hext 0 Nat.zero_lt_one
  have hm1 : MOk w X f2 (m1.on (nMem T a n c x')) w1 := hL.2.2.2.2 w X f2 w1 hm2
  constructor
  · rcases hL.1 with ⟨_, hno'⟩ | ⟨p, p', hp, hp', hd⟩
    · exact absurd rfl (hno' u)
    · simp only at hp hp'
      injection hp with hp
      injection hp' with hp'
      subst hp hp'
      obtain ⟨_, hden⟩ := hd f2 hne
      rw [← hden, h7 f2]
      exact congrArg _ (TV.lt_den h2 (fun b hb => by omega))
  · refine ⟨hf2.os, hf2.tape, hf2.output, hf2.size, fun j hj => ?_⟩
    by_cases hjb : j = f b
    · subst hjb
      have hg1 := hm1.cell 0 1 _ hy1
      have hlook0 : look (m1.on (nMem T a n c x')).blks 0 = some ⟨T, [.sl a n c, .int .i64 x'], true⟩ := by
        simp only [Mem.on, look_append, hnb]
        rfl
      have hg0 : w1.cell? ⟨f2 0, 0, none⟩ = some ((SV.sl a n c).den f2) := by
        refine hm1.cell 0 0 _ ?_
        simp only [Mem.get, Mem.on, findC_append, hno, look_append, hnb]
        rfl
      obtain ⟨arr1, harr1, hsz1⟩ := hm1.blk 0 _ hlook0
      rw [cell_of_blk harr1] at hg0 hg1
      have e1 := arr_two hsz1 hg0 hg1
      have e0 := arr_two hsz ha0 ha1
      rw [hf20] at harr1
      rw [harr1]
      show _ = (w.setCell ⟨f b, 1, none⟩ ((SV.int .i64 y).den f)).heap[f b]?
      simp only [World.setCell, Array.getElem?_modify, if_true, harr, Option.map_some]
      subst e1 e0
      simp only [SV.den, h6]
      rfl
    · rw [show (applyWs f [(b, 1, .int .i64 y)] w).heap[j]? = w.heap[j]? from heap_setCell_far (fun hh => hjb hh.symm)]
      exact hf2.same j hj hjb

def TV.known' : TV → Bool
  | .un => false
  | _ => true
/-- The contract that a run itself gives. -/
def autoF (P : Program) (W : World) (G : List (Nat × Spec)) (T : TypeId) (g : FuncId) (a : Option Addr) (n c : Nat) (x : SI) (rest : List TV) : Option (SB × TV × SI) :=
  match allB (TV.lt 0) rest with
  | true => match nVal T a n c x (nRun P W G T g a n c x rest) with
    | some (vc, v, y) => match v.lt 0 && v.known' with
      | true => some (vc, v, y)
      | false => none
    | none => none
  | false => none
theorem auto_ok {W : World} {P : Program} {G : List (Nat × Spec)} (hG : GOk W P G) {g : FuncId} {T : TypeId}
    (fn : ∃ fn, P.funcs[g]? = some fn ∧ (fn.name == "runtime.NumGoroutine") = false ∧ fn.body.isNone = false) : SpecOk W P g (specN T (autoF P W G T g)) := by
  refine specN_ok hG fn fun a n c x rest vc v y hF hvc => ?_
  unfold autoF at hF
  split at hF <;> try contradiction
  rename_i hr
  split at hF <;> try contradiction
  rename_i vc' v' y' hv
  split at hF <;> try contradiction
  rename_i hk
  simp only [Option.some.injEq, Prod.mk.injEq] at hF
  obtain ⟨rfl, rfl, rfl⟩ := hF
  rw [Bool.and_eq_true] at hk
  refine ⟨hr, hk.1, ?_, x, rest, _, _, _, rfl, hr, rfl, hv, hvc, rfl, fun _ => rfl⟩
  rintro rfl
  exact absurd hk.2 (by simp [TV.known'])

def vI (r : Option (SB × TV × SI)) (i : Nat) : Int := match r with
  | some (_, .one (.int _ n), _) => n.val
  | some (_, .agg l, _) => match l[i]? with
    | some (.int _ n) => n.val
    | _ => 0
  | _ => 0
def vB (r : Option (SB × TV × SI)) (i : Nat) : Bool := match r with
  | some (_, .one (.bool b), _) => b.val
  | some (_, .agg l, _) => match l[i]? with
    | some (.bool b) => b.val
    | _ => false
  | _ => false
def vC (r : Option (SB × TV × SI)) : Bool := match r with
  | some (c, _, _) => c.val
  | none => false
def vN (r : Option (SB × TV × SI)) : Int := match r with
  | some (_, _, y) => y.val
  | none => 0
end Go.Sx
