/- Contracts of what Format calls: Decode at an opcode and chip, hexadecimal, Join. -/
import Derived.Test.YtdglgiaegjkinaaDoorProg
import Derived.Test.YtdglgiaegjkinaaDoorGapE
import Derived.Test.YtdglgiaegjkinaaDoorHexa
import Derived.Test.YtdglgiaegjkinaaDoorSimp
import Derived.Test.YtdglgiaegjkinaaDoorDec
import Derived.Test.YtdglgiaegjkinaaDoorShelf
import Derived.Test.YtdglgiaegjkinaaDoorNbf
namespace Go.Proofs.YtdglgiaegjkinaaDoor
open Go Go.Sx Go.RowKit
set_option maxRecDepth 100000
theorem spec_of {W : World} {P : Program} {g : FuncId} {F : List TV → Option (SB × TV)} (fn : ∃ fn, P.funcs[g]? = some fn ∧ (fn.name == "runtime.NumGoroutine") = false ∧ fn.body.isNone = false)
    (h : ∀ args c v f w, F args = some (c, v) → c.val = true → Old W w → v ≠ .un ∧ Calls P g (args.map (TV.den f)).toArray w fun en w' => en = .returned (v.den f) ∧ Below w.heap.size w w') : SpecOk W P g (specV F) := by
  refine ⟨fn, ?_⟩
  intro args C K e f w he _ hvc _ _ hW _
  simp only [specV] at he
  split at he
  · rename_i c v hv
    simp only [Option.some.injEq] at he
    subst he
    obtain ⟨h1, h2⟩ := h args c v f w hv hvc hW
    refine ⟨h1, fun p hp => by simp at hp, h2.mono fun en w' ⟨h3, hb⟩ => ⟨h3, ⟨hb.os, hb.tape, hb.output, hb.size, fun i hi => hb.block i hi⟩⟩⟩
  · simp at he
/-- A byte that was there ahead of all. -/
def okB (W : World) (a : Addr) : Bool := isInt W .u8 a && (decide (0 ≤ rdInt W a) && decide (rdInt W a ≤ 255))
theorem okB_cell {W w : World} (hW : Old W w) {a : Addr} (h : okB W a = true) : w.cell? a = some (.int .u8 (rdInt W a)) ∧ 0 ≤ rdInt W a ∧ rdInt W a ≤ 255 := by
  simp only [okB, Bool.and_eq_true, decide_eq_true_eq] at h
  obtain ⟨h1, h2, h3⟩ := h
  refine ⟨hW.cell ?_, h2, h3⟩
  unfold isInt rdInt at *
  split at h1
  · rename_i k n hc
    rw [hc]
    simp only [decide_eq_true_eq] at h1
    rw [h1]
  · cases h1
def hx0 : ByteArray := { data := #[48, 120] }
/-- listing.hexadecimal of one byte, of two. -/
def okA (a : Option Addr) : Bool := match a with
  | some ⟨_, _, none⟩ => true
  | _ => false
def FHex (W : World) : List TV → Option (SB × TV)
  | [.one (.sl a 1 _)] => some (.sym (okA a && okB W (a.getD default)), .one (.str (catB hx0 (two (rdInt W (a.getD default))))))
  | [.one (.sl a 2 _)] => some (.sym (okA a && (okB W (a.getD default) && okB W ((a.getD default).add 1))), .one (.str (catB (catB hx0 (two (rdInt W ((a.getD default).add 1)))) (two (rdInt W (a.getD default))))))
  | _ => none
theorem okA_some {a : Option Addr} (h : okA a = true) : ∃ b o, a = some ⟨b, o, none⟩ := by
  unfold okA at h
  split at h
  · exact ⟨_, _, rfl⟩
  · cases h
theorem byt_one {x : Int} (h : 0 ≤ x ∧ x ≤ 255) : Byt [x] := by
  intro j
  rcases j with _ | j
  · exact h
  · simp
theorem byt_two {x y : Int} (h : 0 ≤ x ∧ x ≤ 255) (h' : 0 ≤ y ∧ y ≤ 255) : Byt [x, y] := by
  intro j
  rcases j with _ | _ | j
  · exact h
  · exact h'
  · simp
theorem hex_ok (W : World) : SpecOk W Tryd.prog 37 (specV (FHex W)) := by
  refine spec_of ⟨Tryd.f37, Tryd.func37, by kernel_rfl, by kernel_rfl⟩ ?_
  intro args c v f w hF hc hW
  unfold FHex at hF
  split at hF
  · rename_i a cap
    simp only [Option.some.injEq, Prod.mk.injEq] at hF
    obtain ⟨rfl, rfl⟩ := hF
    have hc' : (okA a && okB W (a.getD default)) = true := hc
    rw [Bool.and_eq_true] at hc'
    obtain ⟨b, o, rfl⟩ := okA_some hc'.1
    obtain ⟨h1, h2⟩ := okB_cell hW hc'.2
    refine ⟨by simp, callsIn_wide.1 ((hex_in Fence.wide 3 trivial trivial trivial rfl (Nat.le_refl _) b o 1 cap [rdInt W ⟨b, o, none⟩] (byt_one h2) (by decide) w (cell_lt h1) ?_).mono ?_)⟩
    · intro j hj
      obtain rfl : j = 0 := by omega
      exact h1
    · rintro en w' ⟨rfl, hb⟩
      exact ⟨rfl, hb⟩
  · rename_i a cap
    simp only [Option.some.injEq, Prod.mk.injEq] at hF
    obtain ⟨rfl, rfl⟩ := hF
    have hc' : (okA a && (okB W (a.getD default) && okB W ((a.getD default).add 1))) = true := hc
    rw [Bool.and_eq_true, Bool.and_eq_true] at hc'
    obtain ⟨b, o, rfl⟩ := okA_some hc'.1
    obtain ⟨h1, h2⟩ := okB_cell hW hc'.2.1
    obtain ⟨h3, h4⟩ := okB_cell hW hc'.2.2
    refine ⟨by simp, callsIn_wide.1 ((hex_in Fence.wide 3 trivial trivial trivial rfl (Nat.le_refl _) b o 2 cap [rdInt W ⟨b, o, none⟩, rdInt W ⟨b, o + 1, none⟩] (byt_two h2 h4) (by decide) w (cell_lt h1) ?_).mono ?_)⟩
    · intro j hj
      have : j = 0 ∨ j = 1 := by omega
      rcases this with rfl | rfl
      · exact h1
      · exact h3
    · rintro en w' ⟨rfl, hb⟩
      exact ⟨rfl, hb⟩
  · cases hF
/-- strings.Join of one text, of two. -/
def specJoin : Sx.Spec := ⟨fun
    | [.one (.row b o n _), _] => [(b, o, n)]
    | _ => [], fun _ => [], fun args C _ => match args with
    | [.one (.row b o n c), .one (.str sep)] => match Nat.ble n c with
      | true => match n with
        | 1 => match C b o with
          | some (.str s) => some ⟨.sym (decide (s.size ≤ 1000)), .one (.str s), [], none⟩
          | _ => none
        | 2 => match C b o, C b (o + 1) with
          | some (.str s), some (.str t) => some ⟨.sym (decide (s.size ≤ 1000) && (decide (t.size ≤ 1000) && decide (sep.size ≤ 1000))), .one (.str (catB s (catB sep t))), [], none⟩
          | _, _ => none
        | _ => none
      | false => none
    | _ => none⟩
theorem ba_eq {a b : ByteArray} (h : a.data.toList = b.data.toList) : a = b := by
  cases a
  cases b
  congr
  exact Array.toList_inj.1 h
theorem ba_len (x : ByteArray) : x.data.toList.length = x.size := Array.length_toList
theorem join_ok (W : World) : SpecOk W Tryd.prog 19 specJoin := by
  refine ⟨⟨Tryd.f19, Tryd.func19, by kernel_rfl, by kernel_rfl⟩, ?_⟩
  intro args C K e f w he _ hvc hC _ _ _
  simp only [specJoin] at he
  split at he <;> try contradiction
  rename_i b o n c sep
  split at he <;> try contradiction
  rename_i hn
  rw [Nat.ble_eq] at hn
  split at he <;> try contradiction
  · split at he <;> try contradiction
    rename_i s hs
    simp only [Option.some.injEq] at he
    subst he
    have hs1 := hC _ _ _ hs
    have hsz : s.size ≤ 1000 := of_decide_eq_true hvc
    have hl := ba_len s
    refine ⟨nofun, fun p hp => (List.not_mem_nil hp).elim, (Tryd.strings_Join (f b) o c [s] sep w ?_ (cell_lt hs1) (show 1 ≤ 140737488355328 by omega) hn ?_).mono ?_⟩
    · intro j x hj
      rcases j with _ | j
      · simp only [List.getElem?_cons_zero, Option.some.injEq] at hj
        subst hj
        exact hs1
      · simp at hj
    · rw [List.map_cons, List.map_nil, Lib.join_one, hl]
      omega
    · rintro en w' ⟨rfl, hb⟩
      refine ⟨?_, ⟨hb.os, hb.tape, hb.output, hb.size, fun i hi => hb.block i hi⟩⟩
      have : (⟨(Lib.join ([s].map (·.data.toList)) sep.data.toList).toArray⟩ : ByteArray) = s := by
        apply ba_eq
        rw [List.map_cons, List.map_nil, Lib.join_one]
      rw [this]
      rfl
  · split at he <;> try contradiction
    rename_i s t hs ht
    simp only [Option.some.injEq] at he
    subst he
    have hs1 := hC _ _ _ hs
    have ht1 := hC _ _ _ ht
    simp only [SB.val_sym, Bool.and_eq_true, decide_eq_true_eq] at hvc
    obtain ⟨h1, h2, h3⟩ := hvc
    have hl := ba_len
    have hj : Lib.join ([s, t].map (·.data.toList)) sep.data.toList = s.data.toList ++ (sep.data.toList ++ t.data.toList) := by
      simp [Lib.join, List.intercalate]
    refine ⟨nofun, fun p hp => (List.not_mem_nil hp).elim, (Tryd.strings_Join (f b) o c [s, t] sep w ?_ (cell_lt hs1) (show 2 ≤ 140737488355328 by omega) hn ?_).mono ?_⟩
    · intro j x hj
      rcases j with _ | _ | j
      · simp only [List.getElem?_cons_zero, Option.some.injEq] at hj
        subst hj
        exact hs1
      · simp only [List.getElem?_cons_succ, List.getElem?_cons_zero, Option.some.injEq] at hj
        subst hj
        exact ht1
      · simp at hj
    · rw [hj, List.length_append, List.length_append, hl, hl, hl]
      omega
    · rintro en w' ⟨rfl, hb⟩
      refine ⟨?_, ⟨hb.os, hb.tape, hb.output, hb.size, fun i hi => hb.block i hi⟩⟩
      rw [hj]
      rfl
/-- A Decode at one opcode, and one chip if that matters. -/
def isV (v : Nat) (ko : Option Bool) (c x : SI) : SB := (SI.cmp (fun a b => decide (a = b)) x (.lit (v : Int))).and (match ko with
  | none => .lit true
  | some k => .sym ((c.val == 2) == k))
def lits (l : List Int) : List SV := l.map fun x => .int .i64 (.lit x)
def insO (ko : Option Bool) (v : Nat) : List Int := match ko with
  | none => ins true v
  | some k => ins k v
def FDec (v : Nat) (ko : Option Bool) : List TV → Option (SB × TV)
  | [.one (.int .i64 c), .one (.int .u8 x)] => some (isV v ko c x, .agg (lits (insO ko v)))
  | _ => none
/-- The chip does not matter. -/
def SameV (v : Nat) (ko : Option Bool) : Prop := match ko with
  | none => ins true v = ins false v
  | some _ => True
theorem cells_den (b : Bool) : ∀ (l r : List Int), l.length = r.length → (cells b l r).map (SV.den fun _ => 0) = (bif b then l else r).map (Value.int .i64)
  | [], [], _ => by cases b <;> rfl
  | x :: l, y :: r, h => by
    have ih := cells_den b l r (by simpa using h)
    have h1 : (mkC b x y).den (fun _ => 0) = .int .i64 (bif b then x else y) := by
      unfold mkC
      split
      · rename_i hd
        rw [of_decide_eq_true hd]
        cases b <;> rfl
      · rfl
    simp only [cells, List.map_cons, h1, ih]
    cases b <;> rfl
  | [], _ :: _, h => by simp at h
  | _ :: _, [], h => by simp at h
theorem ins_len (v : Nat) (hv : v < 256) : (ins true v).length = 8 ∧ (ins false v).length = 8 := by
  have h : (List.range 256).all (fun v => decide ((ins true v).length = 8) && decide ((ins false v).length = 8)) = true := by kernel_rfl
  have := List.all_eq_true.1 h v (List.mem_range.2 hv)
  simpa using this
theorem dec_den (f : Nat → Nat) (c : Int) (v : Nat) (hv : v < 256) : TV.den f (.agg (cells (c == 2) (ins true v) (ins false v))) = .agg ((ins (c == 2) v).map (Value.int .i64)).toArray := by
  have hl := ins_len v hv
  have h := cells_den (c == 2) (ins true v) (ins false v) (by rw [hl.1, hl.2])
  have hf : (cells (c == 2) (ins true v) (ins false v)).map (SV.den f) = (cells (c == 2) (ins true v) (ins false v)).map (SV.den fun _ => 0) := by
    have : ∀ (b : Bool) (l r : List Int), (cells b l r).map (SV.den f) = (cells b l r).map (SV.den fun _ => 0) := by
      intro b l
      induction l with
      | nil => intro r; rfl
      | cons x l ih =>
        intro r
        cases r with
        | nil => rfl
        | cons y r =>
          simp only [cells, List.map_cons, ih]
          congr 1
          unfold mkC
          split <;> rfl
    exact this _ _ _
  show Value.agg (dens f _) = _
  unfold dens
  rw [hf, h]
  cases h2 : (c == 2) <;> rfl
theorem dec_calls {g : FuncId} (hd : ∀ v, v < 256 → DecOk g v) (w : World) (c : Int) (v : Nat) (hv : v < 256) : Calls Tryd.prog g #[.int .i64 c, .int .u8 (v : Int)] w fun en w' => en = .returned (.agg ((ins (c == 2) v).map (Value.int .i64)).toArray) ∧ Below w.heap.size w w' := by
  refine (calls_of_eval (gok_nil w) (hd v hv w c) w (Old.refl w)).mono ?_
  rintro en w' ⟨⟨f, rfl⟩, hb⟩
  exact ⟨by rw [dec_den f c v hv], hb⟩
theorem dec_spec {g : FuncId} (fn : ∃ fn, Tryd.prog.funcs[g]? = some fn ∧ (fn.name == "runtime.NumGoroutine") = false ∧ fn.body.isNone = false) (hd : ∀ v, v < 256 → DecOk g v) (W : World) (v : Nat) (hv : v < 256) (ko : Option Bool) (hs : SameV v ko) : SpecOk W Tryd.prog g (specV (FDec v ko)) := by
  refine spec_of fn ?_
  intro args c u f w hF hc hW
  unfold FDec at hF
  split at hF <;> try contradiction
  rename_i c x
  simp only [Option.some.injEq, Prod.mk.injEq] at hF
  obtain ⟨rfl, rfl⟩ := hF
  unfold isV at hc
  rw [SB.and_val, Bool.and_eq_true] at hc
  have hx : x.val = (v : Int) := by
    have := hc.1
    cases x <;> exact of_decide_eq_true this
  have hk : ins (c.val == 2) v = insO ko v := by
    cases ko with
    | none =>
      show _ = ins true v
      cases (c.val == 2)
      · exact hs.symm
      · rfl
    | some k =>
      have : (c.val == 2) = k := eq_of_beq hc.2
      rw [this]
      rfl
  refine ⟨by simp, ?_⟩
  have := dec_calls hd w c.val v hv
  rw [hk, ← hx] at this
  refine this.mono ?_
  rintro en w' ⟨rfl, hb⟩
  refine ⟨?_, hb⟩
  show _ = Ending.returned (Value.agg (dens f _))
  unfold dens lits
  rw [List.map_map]
  rfl
/-- r9.hex of a byte. -/
def FH9 : List TV → Option (SB × TV)
  | [.one (.int .u8 x)] => some (.sym (decide (0 ≤ x.val) && decide (x.val ≤ 255)), .one (.str (two x.val)))
  | _ => none
theorem h9_run (W : World) (x : Int) : (nbR Tryd.prog W [] 42 [.one (.int .u8 (.sym x))]).get.map (fun p => (p.1, p.2.1)) = some (.res (.one (.str (two x))), .sym (inStr digs (gshr .u8 x 4) && inStr digs (bits .and .u8 x 15))) := by kernel_rfl
theorem h9_ok (W : World) : SpecOk W Tryd.prog 42 (specV FH9) := by
  refine spec_of ⟨Tryd.f42, Tryd.func42, by kernel_rfl, by kernel_rfl⟩ ?_
  intro args c u f w hF hc hW
  unfold FH9 at hF
  split at hF <;> try contradiction
  rename_i x
  simp only [Option.some.injEq, Prod.mk.injEq] at hF
  obtain ⟨rfl, rfl⟩ := hF
  rw [SB.val_sym, Bool.and_eq_true, decide_eq_true_eq, decide_eq_true_eq] at hc
  refine ⟨by simp, ?_⟩
  obtain ⟨s, m, hg⟩ := get_of_map (h9_run W x.val)
  have hd := digits_in hc
  refine (nb_get (gok_nil W) hg (by rw [SB.val_sym, hd.1, hd.2]; rfl) f w hW).mono ?_
  rintro en w' ⟨f', rfl, _, hb⟩
  exact ⟨rfl, hb⟩
/-- r9.at. -/
def atV (W : World) (a : Option Addr) (n : Nat) (i : Int) : Int := bif decide (i < (n : Int)) then rdInt W (atRow a i 1) else 0
def FAt (W : World) : List TV → Option (SB × TV)
  | [.one (.sl a n _), .one (.int .i64 (.lit i))] => some (.sym (decide (0 ≤ i) && (bif decide (i < (n : Int)) then a.isSome && isInt W .u8 (atRow a i 1) else true)), .one (.int .u8 (.sym (atV W a n i))))
  | _ => none
theorem at_run (W : World) (a : Option Addr) (n c : Nat) (i : Int) : gY (nbR Tryd.prog W [] 21 [.one (.sl a n c), .one (.int .i64 (.lit i))]) = bif decide (i < (n : Int)) then some (.one (.int .u8 (.sym (rdInt W (atRow a i 1)))), inRow a n i && isInt W .u8 (atRow a i 1)) else some (.one (.int .u8 (.lit 0)), true) := by kernel_rfl
theorem at_ok (W : World) : SpecOk W Tryd.prog 21 (specV (FAt W)) := by
  refine spec_of ⟨Tryd.f21, Tryd.func21, by kernel_rfl, by kernel_rfl⟩ ?_
  intro args c u f w hF hc hW
  unfold FAt at hF
  split at hF <;> try contradiction
  rename_i a n cap i
  simp only [Option.some.injEq, Prod.mk.injEq] at hF
  obtain ⟨rfl, rfl⟩ := hF
  rw [SB.val_sym, Bool.and_eq_true, decide_eq_true_eq] at hc
  refine ⟨by simp, ?_⟩
  have hr := at_run W a n cap i
  unfold atV
  cases hi : decide (i < (n : Int)) with
  | true =>
    rw [hi] at hr hc
    simp only [cond_true, Bool.and_eq_true] at hr hc
    have hin : (inRow a n i && isInt W .u8 (atRow a i 1)) = true := by
      unfold inRow
      rw [hc.2.1, hc.2.2, hi, decide_eq_true hc.1]
      rfl
    rw [hin] at hr
    obtain ⟨vc, s, m, hg, hv⟩ := gY_get hr
    refine (nb_get (gok_nil W) hg hv f w hW).mono ?_
    rintro en w' ⟨f', rfl, _, hb⟩
    exact ⟨rfl, hb⟩
  | false =>
    rw [hi] at hr
    simp only [cond_false] at hr
    obtain ⟨vc, s, m, hg, hv⟩ := gY_get hr
    refine (nb_get (gok_nil W) hg hv f w hW).mono ?_
    rintro en w' ⟨f', rfl, _, hb⟩
    exact ⟨rfl, hb⟩
noncomputable def G18 (W : World) : List (Nat × Sx.Spec) := [(35, specNb Tryd.prog W [] 35), (36, specNb Tryd.prog W [] 36), (37, specV (FHex W))]
noncomputable def G7 (W : World) (v : Nat) (ko : Option Bool) : List (Nat × Sx.Spec) := [(16, specV (FDec v ko)), (33, specF fun a => (FSm a).map (·.2)), (18, specNb Tryd.prog W (G18 W) 18), (19, specJoin)]
noncomputable def G8 (W : World) (v : Nat) (ko : Option Bool) : List (Nat × Sx.Spec) := [(15, specV (FDec v ko)), (21, specV (FAt W)), (42, specV FH9)]
noncomputable def r7 (W : World) (v : Nat) (ko : Option Bool) (c : Int) (b o n cap : Nat) : R := nbR Tryd.prog W (G7 W v ko) 7 [.one (.int .i64 (.sym c)), .one (.sl (some ⟨b, o, none⟩) n cap)]
noncomputable def r8 (W : World) (v : Nat) (ko : Option Bool) (c : Int) (b o n cap : Nat) : R := nbR Tryd.prog W (G8 W v ko) 8 [.one (.int .i64 (.sym c)), .one (.sl (some ⟨b, o, none⟩) n cap)]
def kC (ko : Option Bool) (c : Int) (e : Bool) : Bool := match ko with
  | none => e
  | some k => e && ((c == 2) == k)
def vA (W : World) (c : Int) (b o n v : Nat) (ko : Option Bool) : Bool := inRow (some ⟨b, o, none⟩) n 0 && (isInt W .u8 ⟨b, o, none⟩ && kC ko c (decide (rdInt W ⟨b, o, none⟩ = (v : Int))))
def qq (b o cap : Nat) : Option Addr := cutA (cutA (some ⟨b, o, none⟩) cap 0 1) cap 1 1
def q1 (b o cap : Nat) : Addr := (qq b o cap).getD default
def hi4 (x : Int) : Int := byteAt digs (gshr .u8 x 4)
def lo4 (x : Int) : Int := byteAt digs (bits .and .u8 x 15)
def tabO (ko : Option Bool) (v : Nat) : Nat × List Nat := (match ko with | none => tab85 | some true => tab85 | some false => tab80).getD v (0, [])
def txt (L : Nat) (p : List Nat) (x y : Int) : ByteArray := match L with
  | 1 => strB (p.map fun (n : Nat) => (n : Int))
  | 2 => strB ((p.map fun (n : Nat) => (n : Int)) ++ [48, 120, hi4 x, lo4 x])
  | _ => strB ((p.map fun (n : Nat) => (n : Int)) ++ [48, 120, hi4 y, lo4 y, hi4 x, lo4 x])
def eV : TV := .tup [(false, [.str (strB [])]), (false, [.int .i64 (.lit 0)]), (false, [.int .i64 (.lit 1)])]
def okV (L : Nat) (p : List Nat) (x y : Int) : TV := .tup [(false, [.str (txt L p x y)]), (false, [.int .i64 (.lit (L : Int))]), (false, [.int .i64 (.lit 0)])]
def v7 (W : World) (L : Nat) (b o cap : Nat) : Bool := match L with
  | 1 => decide ((1:Int) ≤ cap)
  | 2 => decide ((2:Int) ≤ cap) && (okA (qq b o cap) && okB W (q1 b o cap))
  | _ => decide ((3:Int) ≤ cap) && (okA (qq b o cap) && (okB W (q1 b o cap) && okB W ((q1 b o cap).add 1)))
def tl (p : List Nat) (x : Bool) : Bool := match p.any (fun n => Nat.beq n 32) with
  | true => x && true
  | false => x
def Fmt7 (v : Nat) (ko : Option Bool) : Prop := ∀ W c b o n cap, gY (r7 W v ko c b o n cap) = bif decide ((n : Int) = 0) then some (eV, true) else bif decide ((n : Int) < (tabO ko v).1) then some (eV, vA W c b o n v ko) else
  some (okV (tabO ko v).1 (tabO ko v).2 (rdInt W (q1 b o cap)) (rdInt W ((q1 b o cap).add 1)), vA W c b o n v ko && tl (tabO ko v).2 (v7 W (tabO ko v).1 b o cap))
def fA (W : World) (b o n : Nat) (i : Int) : Bool := bif decide (i < (n : Int)) then isInt W .u8 (atRow (some ⟨b, o, none⟩) i 1) else true
def h1 (x : Int) : Bool := decide (0 ≤ x) && decide (x ≤ 255)
def aT (W : World) (b o n : Nat) (i : Int) : Int := atV W (some ⟨b, o, none⟩) n i
def tl8 (p : List Nat) (x y : Int) : Bool := match p.any (fun n => Nat.beq n 32) with
  | true => (h1 x && (h1 y && (h1 x && true))) && true
  | false => true
def Fmt8 (v : Nat) (ko : Option Bool) : Prop := ∀ W c b o n cap, gY (r8 W v ko c b o n cap) = bif decide ((n : Int) = 0) then some (eV, true) else bif decide ((n : Int) < (tabO ko v).1) then some (eV, vA W c b o n v ko) else
  some (okV (tabO ko v).1 (tabO ko v).2 (aT W b o n 1) (aT W b o n 2), vA W c b o n v ko && (fA W b o n 1 && (fA W b o n 2 && tl8 (tabO ko v).2 (aT W b o n 1) (aT W b o n 2))))
def tabK (k : Bool) (v : Nat) : Nat × List Nat := (bif k then tab85 else tab80).getD v (0, [])
/-- For each chip: such an evaluation. -/
def FmAll (Fm : Nat → Option Bool → Prop) (v : Nat) : Prop := ∀ k, ∃ ko, SameV v ko ∧ (ko = none ∨ ko = some k) ∧ tabO ko v = tabK k v ∧ Fm v ko
theorem all_none {Fm : Nat → Option Bool → Prop} {v : Nat} (h1 : ins true v = ins false v) (h2 : tabK true v = tabK false v) (h : Fm v none) : FmAll Fm v := by
  intro k
  refine ⟨none, h1, .inl rfl, ?_, h⟩
  cases k
  · exact h2
  · rfl
theorem all_some {Fm : Nat → Option Bool → Prop} {v : Nat} (h : Fm v (some true)) (h' : Fm v (some false)) : FmAll Fm v := by
  intro k
  cases k
  · exact ⟨some false, trivial, .inr rfl, rfl, h'⟩
  · exact ⟨some true, trivial, .inr rfl, rfl, h⟩
end Go.Proofs.YtdglgiaegjkinaaDoor
