/- listing.simple: what it finds in its table. -/
import Derived.Test.YtdglgiaegjkinaaDoorProg
import Derived.Test.YtdglgiaegjkinaaDoorGapE
import Derived.Maps.Own
import Derived.Maps.Keyed
namespace Go.Proofs.YtdglgiaegjkinaaDoor
open Go Go.Sx Go.RowKit
set_option maxRecDepth 100000
section
variable {W : Bs} {P : Program}
/-- Other slots, new blocks. -/
theorem gst_move {nt : Nat} {s : SL} {m : Mem} {g : Gh} {f : Nat → Nat} {a a' : Act} {w w' : World} (h : GSt W nt s m g f a w) (hb : Below w.heap.size w w') (hsz : a'.tmps.size = a.tmps.size) (hd : a'.defers = a.defers)
    (hs : ∀ t v, Go.Sx.look s t = some v → a'.tmps.getD t undef = a.tmps.getD t undef) : GSt W nt s m g f a' w' := by
  have hblk : ∀ b j, Go.Sx.look m.blks b = some j → w'.heap[f b]? = w.heap[f b]? := by
    intro b j hj
    obtain ⟨arr, harr, _⟩ := h.mem.blk b j hj
    exact hb.block _ (lt_of_blk harr)
  refine ⟨hsz.trans h.size, hd.trans h.defers, fun t v hv hne => (hs t v hv).trans (h.slots t v hv hne), ?_, h.base, ?_, h.pin, ?_, h.gh.off, h.gh.two⟩
  · refine ⟨?_, ?_, h.mem.known, h.mem.inj, fun b j hj _ => .inr ⟨b, j, hj, rfl⟩, h.mem.lt⟩
    · intro b j hj
      rw [hblk b j hj]
      exact h.mem.blk b j hj
    · intro b o v hv
      obtain ⟨j, hj⟩ := h.mem.known b o v hv
      rw [← h.mem.cell b o v hv]
      exact World.cell?_of_block (hblk b j hj)
  · exact ⟨hb.os.trans h.fr.os, hb.tape.trans h.fr.tape, hb.output.trans h.fr.output, Nat.le_trans h.fr.size hb.size, fun k hk hx => (hb.block k (by have := h.fr.size; omega)).trans (h.fr.same k hk hx), W.base⟩
  · intro q o ho
    exact World.ownsRow.same (h.gh.own q o ho) (fun k hk => hb.block k (World.ownsRow.lt (h.gh.own q o ho) k hk).2)
end
/-- An element as it is. -/
def asIs (v : Value) : Option (DataW Value × List MemPlace) := some (.held v, [])
def fv (s : ByteArray) (n : Int) : Value := .agg #[.string s, .int .i64 n]
/-- 'table[k] = {s, n}': the slot between, the key, the two parts. -/
structure Row where
  d : Nat
  k : Int
  s : ByteArray
  n : Int
def isB (o : Oper) : Option (Nat × ByteArray × Int) := match o.guard, o.dst, o.op with
  | none, some d, .build t ps => match Nat.beq t 46, ps.toList with
    | true, [(0, .const (.string s)), (1, .const (.int .i64 n))] => some (d, s, n)
    | _, _ => none
  | _, _, _ => none
def isI (o : Oper) : Option (Int × Nat) := match o.guard, o.dst, o.op with
  | none, none, .insert t (.tmp m) (.const (.int .i64 k)) (.tmp d) => match Nat.beq t 96 && Nat.beq m 7 with
    | true => some (k, d)
    | false => none
  | _, _, _ => none
def insX : List Oper → List Row × List Oper
  | o1 :: o2 :: r => match isB o1, isI o2 with
    | some (d, s, n), some (k, d') => match Nat.beq d d' && Nat.blt 7 d && Nat.blt d 58 && decide (0 ≤ k) && decide (k ≤ 1000) with
      | true => (⟨d, k, s, n⟩ :: (insX r).1, (insX r).2)
      | false => ([], o1 :: o2 :: r)
    | _, _ => ([], o1 :: o2 :: r)
  | l => ([], l)
def putAll : List Row → DataW Value → DataW Value
  | [], D => D
  | e :: r, D => putAll r (D.put (.int .i64 e.k) (.held (fv e.s e.n)))
theorem isB_ok {o : Oper} {d : Nat} {s : ByteArray} {n : Int} (h : isB o = some (d, s, n)) : o.guard = none ∧ o.dst = some d ∧ ∃ ps, o.op = .build 46 ps ∧ ps.toList = [(0, .const (.string s)), (1, .const (.int .i64 n))] := by
  unfold isB at h
  split at h <;> try contradiction
  rename_i d' t ps hg hd hop
  split at h <;> try contradiction
  rename_i s' n' ht hps
  simp only [Option.some.injEq, Prod.mk.injEq] at h
  obtain ⟨rfl, rfl, rfl⟩ := h
  exact ⟨hg, hd, ps, by rw [hop, Nat.eq_of_beq_eq_true ht], hps⟩
theorem isI_ok {o : Oper} {d : Nat} {k : Int} (h : isI o = some (k, d)) : o.guard = none ∧ o.dst = none ∧ o.op = .insert 96 (.tmp 7) (.const (.int .i64 k)) (.tmp d) := by
  unfold isI at h
  split at h <;> try contradiction
  rename_i t m k' d' hg hd hop
  split at h <;> try contradiction
  rename_i ht
  rw [Bool.and_eq_true, Nat.beq_eq, Nat.beq_eq] at ht
  simp only [Option.some.injEq, Prod.mk.injEq] at h
  obtain ⟨rfl, rfl⟩ := h
  exact ⟨hg, hd, by rw [hop, ht.1, ht.2]⟩
theorem under96 : Tryd.prog.underlying 96 = some (.map 3 46) := by kernel_rfl
theorem under3 : Tryd.prog.underlying 3 = some (.int .i64) := by kernel_rfl
/-- The form that a 'build' gives. -/
theorem build_run {o : Oper} {ps : Array (Nat × Operand)} {s : ByteArray} {n : Int} (hop : o.op = .build 46 ps) (hps : ps.toList = [(0, .const (.string s)), (1, .const (.int .i64 n))]) (a : Act) (w : World) :
    (execOp a.eval o).run Tryd.prog w = .ok (.value (fv s n)) w := by
  have e : ps = #[(0, .const (.string s)), (1, .const (.int .i64 n))] := by rw [← Array.toArray_toList (xs := ps), hps]
  subst e
  have hp : (prim Tryd.prog w o 0 (fun _ => none) (fun _ _ => none) (fun _ => none)).get = some ⟨.lit true, .agg [.str s, .int .i64 (.lit n)], [], none⟩ := by
    simp only [prim, hop]
    kernel_rfl
  obtain ⟨r, u, hrun, hr, hval, _, _⟩ := prim_sound (w := w) (f := fun _ => 0) (nid := 0) (a := a) hp rfl (by intro t v hv; cases hv) (by intro b o v hv; cases hv) (by intro b j hj; cases hj) (Old.refl w)
  rw [show effW (fun _ => 0) ⟨.lit true, .agg [.str s, .int .i64 (.lit n)], [], none⟩ w = w from rfl] at hrun
  have hu : u = fv s n := by
    rcases hval with hval | hval
    · cases hval
    · exact hval
  rcases hr with rfl | ⟨_, h2⟩
  · rw [hrun, hu]
  · rw [hu] at h2
    cases h2
/-- The slots that are kept in mind. -/
structure Same (a a' : Act) : Prop where
  size : a'.tmps.size = a.tmps.size
  defers : a'.defers = a.defers
  low : ∀ t, t < 8 → a'.tmps.getD t undef = a.tmps.getD t undef
theorem Same.put {a a' : Act} (h : Same a a') {d : Nat} (hd : 7 < d) (v : Value) : Same a (a'.put (some d) v) := by
  refine ⟨?_, ?_, fun t ht => ?_⟩
  · simp [Act.put, h.size]
  · simp [Act.put, h.defers]
  · rw [← h.low t ht]
    simp only [Act.put, Array.getD_eq_getD_getElem?, Array.getElem?_setIfInBounds]
    rw [if_neg (by omega)]
theorem ins_all {ops : Array Oper} {Q : Exit → Act → World → Prop} {a0 : Act} {w0 : World} {b : Nat} (hb : w0.heap.size ≤ b) (h7 : a0.tmps.getD 7 undef = .map (some b)) (hsz : a0.tmps.size = 58) :
    ∀ (l : List Oper) (a : Act) (w : World) (n : Nat) (D : DataW Value), Same a0 a → Below w0.heap.size w0 w → w.ownsMap Tryd.prog 3 asIs b n D → n + (insX l).1.length < 1000000 →
      (∀ a' w' n', Same a0 a' → Below w0.heap.size w0 w' → w'.ownsMap Tryd.prog 3 asIs b n' (putAll (insX l).1 D) → wpList Tryd.prog ops Q (insX l).2 a' w') → wpList Tryd.prog ops Q l a w
  | [], a, w, n, D, hs, hw, hm, _, hQ => hQ a w n hs hw hm
  | [o], a, w, n, D, hs, hw, hm, _, hQ => hQ a w n hs hw hm
  | o1 :: o2 :: r, a, w, n, D, hs, hw, hm, hn, hQ => by
    cases hB : isB o1 with
    | none => simp only [insX, hB] at hQ; exact hQ a w n hs hw hm
    | some x =>
      obtain ⟨d, s, v⟩ := x
      cases hI : isI o2 with
      | none => simp only [insX, hB, hI] at hQ; exact hQ a w n hs hw hm
      | some y =>
        obtain ⟨k, d'⟩ := y
        cases hc : (Nat.beq d d' && Nat.blt 7 d && Nat.blt d 58 && decide (0 ≤ k) && decide (k ≤ 1000)) with
        | false => simp only [insX, hB, hI, hc] at hQ; exact hQ a w n hs hw hm
        | true =>
          simp only [insX, hB, hI, hc, List.length_cons] at hQ hn
          simp only [Bool.and_eq_true, Nat.beq_eq, decide_eq_true_eq] at hc
          obtain ⟨⟨⟨⟨rfl, h1⟩, h2⟩, h3⟩, h4⟩ := hc
          have hd7 := lt_of_blt h1
          have hd58 := lt_of_blt h2
          obtain ⟨g1, d1, ps, op1, hps⟩ := isB_ok hB
          obtain ⟨g2, d2, op2⟩ := isI_ok hI
          refine wpList_plain g1 fun K hK => ?_
          unfold Oper.wp
          rw [build_run op1 hps, Oper.upon_value]
          refine hK _ _ ?_
          rw [d1]
          have hs1 := hs.put hd7 (fv s v)
          refine wpList_plain g2 fun K2 hK2 => ?_
          have hkey : keyOf Tryd.prog 3 (.int .i64 k) = some (.int .i64 k) := Maps.keyOf_int_mk under3 (by
            simp [Lit.wf, IntKind.min, IntKind.max, IntKind.signed, IntKind.bits]
            omega)
          obtain ⟨w', hrun, hm', hgr⟩ := hm.update (Maps.int_keyed under3) under96 (by have : maxLen = 9223372036854775807 := by decide
                                                                                       omega) hkey (show asIs (fv s v) = some (.held (fv s v), []) from rfl)
          have e7 : (a.put (some d) (fv s v)).eval (.tmp 7) = .map (some b) := (hs1.low 7 (by decide)).trans h7
          have ed : (a.put (some d) (fv s v)).eval (.tmp d) = fv s v := by
            show (a.put (some d) (fv s v)).tmps.getD d undef = _
            have : d < a.tmps.size := by rw [hs.size, hsz]; exact hd58
            simp [Act.put, Array.getD_eq_getD_getElem?, this]
          unfold Oper.wp
          simp only [execOp, op2, e7, ed, show (a.put (some d) (fv s v)).eval (.const (.int .i64 k)) = .int .i64 k from rfl, Sem.run_bind, hrun, Result.andThen_ok, Sem.run_pure, Oper.upon_skip, d2]
          refine hK2 _ _ ?_
          refine ins_all hb h7 hsz r _ w' (n + 1) _ hs1 ?_ hm' (by omega) hQ
          exact ⟨hgr.os.trans hw.os, hgr.tape.trans hw.tape, hgr.output.trans hw.output, Nat.le_trans hw.size hgr.size, fun j hj => (hgr.block j (by have := hw.size; omega) (fun e => by cases e; omega)).trans (hw.block j hj)⟩
theorem move_step {P : Program} {ops : Array Oper} {Q : Exit → Act → World → Prop} {o : Oper} {rest : List Oper} {x d : Nat} {a : Act} {w : World} (hg : o.guard = none) (hop : o.op = .move (.tmp x) ∨ o.op = .assign (.tmp x)) (hd : o.dst = some d)
    (h : wpList P ops Q rest (a.put (some d) (a.tmps.getD x undef)) w) : wpList P ops Q (o :: rest) a w := by
  refine wpList_plain hg fun K hK => ?_
  unfold Oper.wp
  have hr : (execOp a.eval o).run P w = .ok (.value (a.tmps.getD x undef)) w := by
    rcases hop with hop | hop <;> simp only [execOp, hop, Sem.run_pure] <;> rfl
  rw [hr, Oper.upon_value, hd]
  exact hK _ _ h
theorem put_same {a : Act} {d : Nat} {v : Value} (h : d < a.tmps.size) : (a.put (some d) v).tmps.getD d undef = v := by simp [Act.put, Array.getD_eq_getD_getElem?, h]
theorem put_ne {a : Act} {d t : Nat} {v : Value} (h : d ≠ t) : (a.put (some d) v).tmps.getD t undef = a.tmps.getD t undef := by
  simp only [Act.put, Array.getD_eq_getD_getElem?, Array.getElem?_setIfInBounds]
  rw [if_neg h]
theorem put_size {a : Act} {d : Nat} {v : Value} : (a.put (some d) v).tmps.size = a.tmps.size := by simp [Act.put]
theorem put_defers {a : Act} {d : Nat} {v : Value} : (a.put (some d) v).defers = a.defers := rfl
noncomputable def body33 : Code := match Tryd.f33.body with
  | some c => c
  | none => .skip
noncomputable def ops1 : Array Oper := match body33 with
  | .seq _ (.seq (.region _ ops _) _) => ops
  | _ => #[]
noncomputable def ops2 : Array Oper := match body33 with
  | .seq _ (.seq _ (.seq (.region _ ops _) _)) => ops
  | _ => #[]
noncomputable def rest33 : Code := match body33 with
  | .seq _ (.seq _ (.seq _ c)) => c
  | _ => .skip
def oD : Oper := { dst := none, op := .assign (.tmp 0), type := 0, pos := "", after := #[], guard := none }
noncomputable def opAt (ops : Array Oper) (k : Nat) : Oper := match ops.toList[k]? with
  | some o => o
  | none => oD
noncomputable def tab : List Row := (insX (ops1.toList.drop 1)).1
noncomputable def D33 : DataW Value := putAll tab (.map [])
theorem split1 : ops1.toList = opAt ops1 0 :: ops1.toList.drop 1 := by kernel_rfl
theorem left1 : (insX (ops1.toList.drop 1)).2 = [opAt ops1 83, opAt ops1 84] := by kernel_rfl
theorem split2 : ops2.toList = opAt ops2 0 :: opAt ops2 1 :: opAt ops2 2 :: ops2.toList.drop 3 := by kernel_rfl
theorem tab_len : tab.length = 41 := by kernel_rfl
def zv46 : Value := fv { data := #[] } 0
theorem zero46 (w : World) : (zeroValue 46).run Tryd.prog w = .ok zv46 w := by kernel_rfl
/-- What the table says of a kind. -/
noncomputable def found (k : Int) : Value × Bool := match D33.atKey (.int .i64 k) .nil with
  | .held v => (v, true)
  | _ => (zv46, false)
/-- The table made, a kind looked up: the pair in its slot. -/
theorem walk1 {W : Bs} {s : SL} {m : Mem} {g : Gh} {f : Nat → Nat} {a : Act} {w : World} (h : GSt W 58 s m g f a w) (hs : ∀ t v, Go.Sx.look s t = some v → t < 4) {k : Int} (hk : 0 ≤ k ∧ k ≤ 1000) (h0 : Go.Sx.look s 0 = some (.one (.int .i64 (.lit k)))) {i1 i2 : Nat} {c : Code} {Q : Exit → Act → World → Prop}
    (hQ : ∀ a' w', GSt W 58 s m g f a' w' → 53 < a'.tmps.size → a'.tmps.getD 53 undef = .tuple #[(found k).1, .bool (found k).2] → wpList Tryd.prog ops2 (fun e a w => Exit.then (fun a w => c.wp Tryd.prog Q a w) Q e a w) (ops2.toList.drop 3) a' w') :
    (Code.seq (.region i1 ops1 false) (.seq (.region i2 ops2 false) c)).wp Tryd.prog Q a w := by
  refine wp_seq ?_
  refine wp_region_list ?_
  rw [split1]
  refine wpList_plain (by kernel_rfl) fun K hK => ?_
  unfold Oper.wp
  have hop0 : (opAt ops1 0).op = .makeMap 96 none := by kernel_rfl
  have hd0 : (opAt ops1 0).dst = some 7 := by kernel_rfl
  have hrun0 : (execOp a.eval (opAt ops1 0)).run Tryd.prog w = .ok (.value (.map (some w.heap.size))) (w.alloc (.map #[] 0)) := by
    simp only [execOp, hop0]
    rfl
  rw [hrun0, Oper.upon_value, hd0]
  refine hK _ _ ?_
  have hsz : a.tmps.size = 58 := h.size
  have hb0 : Below w.heap.size w (w.alloc (.map #[] 0)) := by
    refine ⟨rfl, rfl, rfl, ?_, fun k hk => ?_⟩
    · show w.heap.size ≤ (w.heap.push _).size
      rw [Array.size_push]
      omega
    · show (w.heap.push _)[k]? = _
      rw [Array.getElem?_push, if_neg (by omega)]
  have h7 : (a.put (some 7) (.map (some w.heap.size))).tmps.getD 7 undef = .map (some w.heap.size) := by
    simp [Act.put, Array.getD_eq_getD_getElem?, hsz]
  refine ins_all (a0 := a.put (some 7) (.map (some w.heap.size))) (w0 := w) (b := w.heap.size) (Nat.le_refl _) h7 (by simp [Act.put, hsz]) _ _ _ 0 (.map []) ⟨rfl, rfl, fun _ _ => rfl⟩ hb0 (World.ownsMap_made w Tryd.prog 3 asIs) (by rw [show (insX (ops1.toList.drop 1)).1 = tab from rfl, tab_len]; decide) ?_
  intro a1 w1 n1 hs1 hw1 hm1
  rw [left1]
  refine move_step (x := 7) (d := 49) (by kernel_rfl) (.inl (by kernel_rfl)) (by kernel_rfl) ?_
  refine move_step (x := 49) (d := 4) (by kernel_rfl) (.inr (by kernel_rfl)) (by kernel_rfl) ?_
  have hz1 : a1.tmps.size = 58 := hs1.size.trans (put_size.trans hsz)
  have e7 : a1.tmps.getD 7 undef = .map (some w.heap.size) := (hs1.low 7 (by decide)).trans h7
  have e0 : a1.tmps.getD 0 undef = .int .i64 k := by
    rw [hs1.low 0 (by decide), put_ne (by decide)]
    exact h.slots 0 _ h0 (by simp)
  show (Code.seq (.region i2 ops2 false) c).wp Tryd.prog Q _ _
  refine wp_seq ?_
  refine wp_region_list ?_
  rw [split2]
  refine move_step (x := 4) (d := 51) (by kernel_rfl) (.inl (by kernel_rfl)) (by kernel_rfl) ?_
  refine move_step (x := 0) (d := 52) (by kernel_rfl) (.inl (by kernel_rfl)) (by kernel_rfl) ?_
  refine wpList_plain (by kernel_rfl) fun K hK => ?_
  unfold Oper.wp
  have hop2 : (opAt ops2 2).op = .lookup 96 (.tmp 51) (.tmp 52) true := by kernel_rfl
  have hd2 : (opAt ops2 2).dst = some 53 := by kernel_rfl
  rw [put_same (a := a1) (d := 49) (by omega), e7]
  have f4 : ((a1.put (some 49) (.map (some w.heap.size))).put (some 4) (.map (some w.heap.size))).tmps.getD 4 undef = .map (some w.heap.size) := put_same (by rw [put_size]; omega)
  rw [f4]
  have f0 : (((a1.put (some 49) (.map (some w.heap.size))).put (some 4) (.map (some w.heap.size))).put (some 51) (.map (some w.heap.size))).tmps.getD 0 undef = .int .i64 k := by
    rw [put_ne (by decide), put_ne (by decide), put_ne (by decide), e0]
  rw [f0]
  have e51 : ((((a1.put (some 49) (.map (some w.heap.size))).put (some 4) (.map (some w.heap.size))).put (some 51) (.map (some w.heap.size))).put (some 52) (.int .i64 k)).eval (.tmp 51) = .map (some w.heap.size) := by
    show Array.getD _ 51 undef = _
    rw [put_ne (by decide)]
    exact put_same (by rw [put_size, put_size]; omega)
  have e52 : ((((a1.put (some 49) (.map (some w.heap.size))).put (some 4) (.map (some w.heap.size))).put (some 51) (.map (some w.heap.size))).put (some 52) (.int .i64 k)).eval (.tmp 52) = .int .i64 k := by
    show Array.getD _ 52 undef = _
    exact put_same (by rw [put_size, put_size, put_size]; omega)
  have hkey : keyOf Tryd.prog 3 (.int .i64 k) = some (.int .i64 k) := Maps.keyOf_int_mk under3 (by
    simp [Lit.wf, IntKind.min, IntKind.max, IntKind.signed, IntKind.bits]
    omega)
  have hlook : (Instr.lookup 96 (.map (some w.heap.size)) (.int .i64 k) true).run Tryd.prog w1 = .ok (.tuple #[(found k).1, .bool (found k).2]) w1 := by
    obtain ⟨es, clock, hbk, F, _, hD⟩ := hm1
    have hD' : D33 = _ := hD
    unfold found
    rw [hD']
    rcases Maps.fit_look true (Maps.int_keyed under3) under96 (zero46 w1) hbk F hkey with ⟨hr, _, hat⟩ | ⟨x0, y, _, _, hr, hRv, hat, _⟩
    · rw [hr, hat .nil]
      rfl
    · rw [hr, hat .nil]
      unfold asIs at hRv
      simp only [Option.some.injEq] at hRv
      rw [← hRv]
      rfl
  have hrun2 : (execOp ((((a1.put (some 49) (.map (some w.heap.size))).put (some 4) (.map (some w.heap.size))).put (some 51) (.map (some w.heap.size))).put (some 52) (.int .i64 k)).eval (opAt ops2 2)).run Tryd.prog w1 = .ok (.value (.tuple #[(found k).1, .bool (found k).2])) w1 := by
    simp only [execOp, hop2, e51, e52, Sem.run_bind, hlook, Result.andThen_ok, Sem.run_pure]
  rw [hrun2, Oper.upon_value, hd2]
  refine hK _ _ ?_
  refine hQ _ _ ?_ ?_ ?_
  · refine gst_move h hw1 ?_ ?_ ?_
    · rw [put_size, put_size, put_size, put_size, put_size, hz1, hsz]
    · rw [put_defers, put_defers, put_defers, put_defers, put_defers, hs1.defers]
      rfl
    · intro t v hv
      have ht := hs t v hv
      rw [put_ne (by omega), put_ne (by omega), put_ne (by omega), put_ne (by omega), put_ne (by omega), hs1.low t (by omega), put_ne (by omega)]
  · rw [put_size, put_size, put_size, put_size, put_size]
    omega
  · exact put_same (by rw [put_size, put_size, put_size, put_size]; omega)
noncomputable def nm (k : Int) : ByteArray := match (found k).1 with
  | .agg #[.string s, _] => s
  | _ => { data := #[] }
noncomputable def kd (k : Int) : Int := match (found k).1 with
  | .agg #[_, .int _ n] => n
  | _ => 0
noncomputable def fb (k : Int) : Bool := (found k).2
noncomputable def pair33 (k : Int) : TV := .tup [(true, [.str (nm k), .int .i64 (.lit (kd k))]), (false, [.bool (.lit (fb k))])]
def low4 (s : SL) : SL := pickS (Go.Sx.look s) [(0, false), (2, false), (3, false)]
noncomputable def F33 (W : World) (s : SL) (m : Mem) (g : Gh) : RG := match Go.Sx.look s 0 with
  | some (.one (.int .i64 (.lit k))) => match decide (0 ≤ k) && decide (k ≤ 1000) with
    | true => ((run Tryd.prog W [] 100000 (.ops ops2 (ops2.toList.drop 3)) ⟨58, [], noMem⟩ (putS (some 53) (pair33 k) (low4 s)) m).toG g).bind fun s m g => runG Tryd.prog W [] 100000 58 .plain rest33 s m g
    | false => .fail
  | _ => .fail
noncomputable def t33 (W : World) : HG := .seq .plain (.cust (F33 W))
def P33 (k : Int) : Prop := ∀ W, (runG Tryd.prog W [] 100000 58 (t33 W) body33 (argSlots 0 [.one (.int .i64 (.lit k))]) noMem []).slim 1 [] [] [(2, false), (3, false)] [(0, false)] =
  .leaf .ret (.lit true) [(2, .one (.ptr 0 0)), (3, .one (.bool (.lit (fb k))))] ⟨[], [(0, ⟨46, [.str (nm k), .int .i64 (.lit (kd k))], true⟩)], 1⟩ []
/-- All that a table holds are forms. -/
def Forms (D : DataW Value) : Prop := ∃ es, D = .map es ∧ ∀ p ∈ es, ∃ s n, p.2 = .held (fv s n)
theorem mem_insert {x p : Lit × DataW Value} : ∀ {l : List (Lit × DataW Value)}, p ∈ DataW.insert x l → p = x ∨ p ∈ l
  | [], h => by simpa [DataW.insert] using h
  | y :: r, h => by
    unfold DataW.insert at h
    split at h
    · rcases List.mem_cons.1 h with h | h
      · exact .inl h
      · exact .inr h
    · rcases List.mem_cons.1 h with h | h
      · exact .inr (by rw [h]; simp)
      · rcases mem_insert h with h | h
        · exact .inl h
        · exact .inr (by simp [h])
theorem forms_put : ∀ (l : List Row) {D : DataW Value}, Forms D → Forms (putAll l D)
  | [], _, h => h
  | e :: r, _, ⟨es, rfl, h⟩ => forms_put r ⟨_, rfl, fun p hp => by
    rcases mem_insert hp with rfl | hp
    · exact ⟨_, _, rfl⟩
    · exact h p (List.mem_filter.1 hp).1⟩
theorem forms33 : Forms D33 := forms_put tab ⟨[], rfl, fun p hp => by simp at hp⟩
theorem form33 (k : Int) : (found k).1 = fv (nm k) (kd k) := by
  obtain ⟨es, hD, h⟩ := forms33
  have hc : D33.atKey (.int .i64 k) .nil = .nil ∨ ∃ s n, D33.atKey (.int .i64 k) .nil = .held (fv s n) := by
    rw [hD]
    unfold DataW.atKey
    dsimp only
    split
    · rename_i p hp
      exact .inr (h p (List.mem_of_find?_eq_some hp))
    · exact .inl rfl
  unfold nm kd found
  rcases hc with hc | ⟨s, n, hc⟩
  · rw [hc]
    rfl
  · rw [hc]
    rfl
theorem pickS_dom {S : Nat → Option TV} : ∀ {ks : List (Nat × Bool)} {t : Nat} {v : TV}, Go.Sx.look (pickS S ks) t = some v → ∃ q, (t, q) ∈ ks
  | [], t, v, h => by simp [pickS, Go.Sx.look] at h
  | (k, q) :: r, t, v, h => by
    simp only [pickS] at h
    split at h
    · rw [look_cons] at h
      split at h
      · rename_i hk
        exact ⟨q, by rw [hk]; simp⟩
      · obtain ⟨q', hq⟩ := pickS_dom h
        exact ⟨q', by simp [hq]⟩
    · obtain ⟨q', hq⟩ := pickS_dom h
      exact ⟨q', by simp [hq]⟩
theorem low4_lt (s : SL) : ∀ t v, Go.Sx.look (low4 s) t = some v → t < 4 := by
  intro t v hv
  obtain ⟨q, hm⟩ := pickS_dom hv
  simp only [List.mem_cons, Prod.mk.injEq, List.not_mem_nil, or_false] at hm
  omega
theorem low4_0 {s : SL} {v : TV} (h : Go.Sx.look s 0 = some v) : Go.Sx.look (low4 s) 0 = some v := by
  unfold low4
  simp only [pickS, h]
  rw [look_cons, if_pos rfl]
  rfl
theorem cust33 (W : World) : CustOk W Tryd.prog 58 (.seq (.region 1 ops1 false) (.seq (.region 2 ops2 false) rest33)) (F33 W) := by
  intro s m g f a w hg h
  unfold F33 at hg ⊢
  split at hg <;> try exact hg.elim
  rename_i k hk
  split at hg <;> try exact hg.elim
  rename_i hc
  rw [Bool.and_eq_true, decide_eq_true_eq, decide_eq_true_eq] at hc
  have h1 : GSt W 58 (low4 s) m g f a w := ⟨h.size, h.defers, pickS_rel h.slots _, h.mem, h.base, h.fr, h.pin, h.gh⟩
  refine walk1 h1 (low4_lt s) hc (low4_0 hk) ?_
  intro a' w' h2 _ h53
  have h3 : GSt W 58 (putS (some 53) (pair33 k) (low4 s)) m g f a' w' := by
    refine ⟨h2.size, h2.defers, ?_, h2.mem, h2.base, h2.fr, h2.pin, h2.gh⟩
    intro t v hv hne
    simp only [putS] at hv
    rw [look_cons] at hv
    split at hv
    · rename_i ht
      simp only [Option.some.injEq] at hv
      rw [← ht, ← hv, h53, form33]
      rfl
    · exact h2.slots t v hv hne
  have hg1 := RG.good_of_bind hg
  refine wpList_up (fun e a2 w2 hp => ?_) _ _ _ ((sound (gok_nil W) (fun n hS => draw_sound (gok_nil W) n hS) 100000).ops w' _ ops2 (ops2.toList.drop 3) ⟨58, [], noMem⟩ _ m f a' w' (toG_good hg1).1 (by rw [List.append_nil, on_noMem]; exact h3.rel))
  have hp1 := toG_post h3 hg1 hp
  cases e with
  | normal =>
    obtain ⟨s4, m4, g4, f4, h4, hgood, hlift⟩ := bind_leaf hg hp1
    exact wp_mono (runG_sound (gok_nil W) .plain rest33 s4 m4 g4 f4 a2 w2 trivial hgood h4) hlift
  | exit i => exact bind_other (by simp) hp1
  | goto l => exact bind_other (by simp) hp1
  | ret => exact bind_other (by simp) hp1
  | panic c => exact bind_other (by simp) hp1
  | outgrown => exact bind_other (by simp) hp1
theorem p33_1 : P33 1 := fun W => by kernel_rfl
theorem p33_2 : P33 2 := fun W => by kernel_rfl
theorem p33_3 : P33 3 := fun W => by kernel_rfl
theorem p33_4 : P33 4 := fun W => by kernel_rfl
theorem p33_5 : P33 5 := fun W => by kernel_rfl
theorem p33_6 : P33 6 := fun W => by kernel_rfl
theorem p33_7 : P33 7 := fun W => by kernel_rfl
theorem p33_8 : P33 8 := fun W => by kernel_rfl
theorem p33_9 : P33 9 := fun W => by kernel_rfl
theorem p33_10 : P33 10 := fun W => by kernel_rfl
theorem p33_11 : P33 11 := fun W => by kernel_rfl
theorem p33_12 : P33 12 := fun W => by kernel_rfl
theorem p33_13 : P33 13 := fun W => by kernel_rfl
theorem p33_14 : P33 14 := fun W => by kernel_rfl
theorem p33_15 : P33 15 := fun W => by kernel_rfl
theorem p33_16 : P33 16 := fun W => by kernel_rfl
theorem p33_17 : P33 17 := fun W => by kernel_rfl
theorem p33_18 : P33 18 := fun W => by kernel_rfl
theorem p33_19 : P33 19 := fun W => by kernel_rfl
theorem p33_20 : P33 20 := fun W => by kernel_rfl
theorem p33_21 : P33 21 := fun W => by kernel_rfl
theorem p33_22 : P33 22 := fun W => by kernel_rfl
theorem p33_23 : P33 23 := fun W => by kernel_rfl
theorem p33_24 : P33 24 := fun W => by kernel_rfl
theorem p33_25 : P33 25 := fun W => by kernel_rfl
theorem p33_26 : P33 26 := fun W => by kernel_rfl
theorem p33_27 : P33 27 := fun W => by kernel_rfl
theorem p33_28 : P33 28 := fun W => by kernel_rfl
theorem p33_29 : P33 29 := fun W => by kernel_rfl
theorem p33_30 : P33 30 := fun W => by kernel_rfl
theorem p33_31 : P33 31 := fun W => by kernel_rfl
theorem p33_32 : P33 32 := fun W => by kernel_rfl
theorem p33_33 : P33 33 := fun W => by kernel_rfl
theorem p33_34 : P33 34 := fun W => by kernel_rfl
theorem p33_35 : P33 35 := fun W => by kernel_rfl
theorem p33_36 : P33 36 := fun W => by kernel_rfl
theorem p33_37 : P33 37 := fun W => by kernel_rfl
theorem p33_38 : P33 38 := fun W => by kernel_rfl
theorem p33_39 : P33 39 := fun W => by kernel_rfl
theorem p33_40 : P33 40 := fun W => by kernel_rfl
theorem p33_41 : P33 41 := fun W => by kernel_rfl
theorem p33_42 : P33 42 := fun W => by kernel_rfl
theorem p33_43 : P33 43 := fun W => by kernel_rfl
theorem p33_44 : P33 44 := fun W => by kernel_rfl
theorem p33_45 : P33 45 := fun W => by kernel_rfl
theorem p33_46 : P33 46 := fun W => by kernel_rfl
theorem p33_47 : P33 47 := fun W => by kernel_rfl
theorem p33_all {k : Int} (h : 1 ≤ k ∧ k ≤ 47) : P33 k := by
  have hk : k = 1 ∨ k = 2 ∨ k = 3 ∨ k = 4 ∨ k = 5 ∨ k = 6 ∨ k = 7 ∨ k = 8 ∨ k = 9 ∨ k = 10 ∨ k = 11 ∨ k = 12 ∨ k = 13 ∨ k = 14 ∨ k = 15 ∨ k = 16 ∨ k = 17 ∨ k = 18 ∨ k = 19 ∨ k = 20 ∨ k = 21 ∨ k = 22 ∨ k = 23 ∨ k = 24 ∨ k = 25 ∨ k = 26 ∨ k = 27 ∨ k = 28 ∨ k = 29 ∨ k = 30 ∨ k = 31 ∨ k = 32 ∨ k = 33 ∨ k = 34 ∨ k = 35 ∨ k = 36 ∨ k = 37 ∨ k = 38 ∨ k = 39 ∨ k = 40 ∨ k = 41 ∨ k = 42 ∨ k = 43 ∨ k = 44 ∨ k = 45 ∨ k = 46 ∨ k = 47 := by omega
  rcases hk with rfl | rfl | rfl | rfl | rfl | rfl | rfl | rfl | rfl | rfl | rfl | rfl | rfl | rfl | rfl | rfl | rfl | rfl | rfl | rfl | rfl | rfl | rfl | rfl | rfl | rfl | rfl | rfl | rfl | rfl | rfl | rfl | rfl | rfl | rfl | rfl | rfl | rfl | rfl | rfl | rfl | rfl | rfl | rfl | rfl | rfl | rfl
  · exact p33_1
  · exact p33_2
  · exact p33_3
  · exact p33_4
  · exact p33_5
  · exact p33_6
  · exact p33_7
  · exact p33_8
  · exact p33_9
  · exact p33_10
  · exact p33_11
  · exact p33_12
  · exact p33_13
  · exact p33_14
  · exact p33_15
  · exact p33_16
  · exact p33_17
  · exact p33_18
  · exact p33_19
  · exact p33_20
  · exact p33_21
  · exact p33_22
  · exact p33_23
  · exact p33_24
  · exact p33_25
  · exact p33_26
  · exact p33_27
  · exact p33_28
  · exact p33_29
  · exact p33_30
  · exact p33_31
  · exact p33_32
  · exact p33_33
  · exact p33_34
  · exact p33_35
  · exact p33_36
  · exact p33_37
  · exact p33_38
  · exact p33_39
  · exact p33_40
  · exact p33_41
  · exact p33_42
  · exact p33_43
  · exact p33_44
  · exact p33_45
  · exact p33_46
  · exact p33_47
/-- listing.simple of a kind. -/
theorem simple_ok (W : World) {k : Int} (h : 1 ≤ k ∧ k ≤ 47) : Calls Tryd.prog 33 #[.int .i64 k] W fun en w' => en = .returned ((pair33 k).den fun _ => 0) ∧ Below W.heap.size W w' := by
  have hcalls := calls_of_runG (gok_nil W) (n := 100000) (g := 33) Tryd.func33 (show Tryd.f33.body = some body33 by kernel_rfl) (t := t33 W) (args := [.one (.int .i64 (.lit k))]) ?_ (by rw [show Tryd.f33.ntmps = 58 by kernel_rfl]; simp)
    (R := fun v _ => v = pair33 k) (N := 1) (ks := []) (bs := []) (ke := [(2, false), (3, false)]) (be := [(0, false)]) rfl rfl ?_
  · refine hcalls.mono ?_
    rintro en w' ⟨v, g, f, rfl, rfl, _, hbl⟩
    exact ⟨rfl, hbl⟩
  · have e : HGOk W Tryd.prog Tryd.f33.ntmps (t33 W) body33 = (True ∧ CustOk W Tryd.prog 58 (.seq (.region 1 ops1 false) (.seq (.region 2 ops2 false) rest33)) (F33 W)) := by kernel_rfl
    rw [e]
    exact ⟨trivial, cust33 W⟩
  · rw [show Tryd.f33.ntmps = 58 by kernel_rfl, p33_all h W]
    exact ⟨rfl, .inr rfl, [(true, [.str (nm k), .int .i64 (.lit (kd k))]), (false, [.bool (.lit (fb k))])], pair33 k, by kernel_rfl, rfl, rfl⟩
/-- .. as a contract within the executor. -/
noncomputable def FSm : List TV → Option (SB × TV)
  | [.one (.int .i64 (.lit k))] => match decide (1 ≤ k) && decide (k ≤ 47) with
    | true => some (.lit true, pair33 k)
    | false => none
  | _ => none
theorem simple_spec (W : World) : SpecOk W Tryd.prog 33 (specF fun a => (FSm a).map (·.2)) := by
  refine ⟨⟨Tryd.f33, Tryd.func33, by kernel_rfl, by kernel_rfl⟩, ?_⟩
  intro args C K e f w he _ _ _ _ _ _
  simp only [specF] at he
  split at he
  · rename_i v hv
    unfold FSm at hv
    split at hv
    · rename_i k
      split at hv
      · rename_i hc
        rw [Bool.and_eq_true, decide_eq_true_eq, decide_eq_true_eq] at hc
        simp only [Option.map_some, Option.some.injEq] at hv he
        subst hv he
        refine ⟨by simp [Eff.pure, pair33], fun p hp => by simp [Eff.pure] at hp, ?_⟩
        refine (simple_ok w hc).mono fun en w' ⟨h1, hb⟩ => ⟨h1, ⟨hb.os, hb.tape, hb.output, hb.size, fun i hi => hb.block i hi⟩⟩
      · simp at hv
    · simp at hv
  · simp at he
end Go.Proofs.YtdglgiaegjkinaaDoor
