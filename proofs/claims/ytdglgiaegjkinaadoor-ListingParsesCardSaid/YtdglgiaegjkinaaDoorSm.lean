/- SameBytes upon rows that lie in memory; contracts upon rows of the executor's own. -/
import Derived.Test.YtdglgiaegjkinaaDoorRz
import Derived.Laws.Strings
namespace Go.Proofs.YtdglgiaegjkinaaDoor
open Go Go.Sx Go.RowKit
set_option maxRecDepth 100000
theorem strOf_eq (l : List Int) : strOfNums l = strB l := by
  unfold strOfNums strB
  rfl
theorem und22 : Tryd.prog.underlying 22 = some (.slice 5) := by kernel_rfl
theorem und5 : Tryd.prog.underlying 5 = some (.int .u8) := by kernel_rfl
theorem und9 : Tryd.prog.underlying 9 = some .string := by kernel_rfl
theorem conv_row {w : World} {a : Option Addr} {n c : Nat} {l : List Int} (h : RowZ w a n c l) : (convert 22 9 (.slice a n c)).run Tryd.prog w = .ok (.string (strB l)) w := by
  rcases h.flat with rfl | hf
  · have h0 := h.nil rfl
    subst h0
    have := List.eq_nil_of_length_eq_zero h.len
    subst this
    exact run_convert_bytes_nil w 22 5 und22 und5 0 c 9 und9
  · obtain ⟨b, o, rfl⟩ := okA_some hf
    rw [← strOf_eq]
    refine run_convert_bytes_arg w 22 5 und22 und5 b o n c l h.len ?_ 9 und9
    intro i hi
    have hl := h.len
    have h1 := h.at_ i l[i] (List.getElem?_eq_getElem (by omega))
    rw [addr_add] at h1
    rw [h1, List.getD_eq_getElem?_getD, List.getElem?_eq_getElem (by omega)]
    rfl
section
variable {W : Bs} {nt x d : Nat} {o : Oper}
/-- A row as a text. -/
noncomputable def cvO (W : World) (x d : Nat) (l : List Int) (s : SL) (m : Mem) (g : Gh) : RG := match Go.Sx.look s x with
  | some (.one (.sl a n c)) => .leaf .nrm (.sym (yes (RowZ W a n c l))) (putS (some d) (.one (.str (strB l))) s) m g
  | _ => .fail
theorem cvO_ok {l : List Int} (hdst : o.dst = some d) (hop : o.op = .convert 22 9 (.tmp x)) (hd : d < nt) : CallOk W Tryd.prog nt o (cvO W.W x d l) := by
  intro s m g f a w Q hgood h
  unfold cvO at hgood ⊢
  split at hgood <;> try exact hgood.elim
  rename_i q n c hx
  have hr := (of_yes hgood).old h.old
  have hxv : a.eval (.tmp x) = .slice q n c := h.slots x _ hx (by simp)
  have hrun : (execOp a.eval o).run Tryd.prog w = .ok (.value (.string (strB l))) w := by
    simp only [execOp, hop, hxv, Sem.run_bind, conv_row hr, Result.andThen_ok, Sem.run_pure]
  unfold Oper.wp
  rw [hrun, Oper.upon_value]
  refine ⟨rfl, f, ?_⟩
  rw [hdst]
  exact h.call ⟨rfl, rfl, rfl, Nat.le_refl _, fun _ _ => rfl⟩ hd rfl
end
noncomputable def body13 : Code := match Tryd.f13.body with
  | some c => c
  | none => .skip
noncomputable def mid13 : Code := match body13 with
  | .seq _ (.seq c _) => c
  | .seq _ c => c
  | _ => .skip
noncomputable def opsC : Code → Array Oper
  | .region _ ops _ => ops
  | _ => #[]
noncomputable def idC : Code → Nat
  | .region id _ _ => id
  | _ => 0
noncomputable def t13 (W : World) (l l' : List Int) : HG := .seq .plain (.seq (.cust (runCalls Tryd.prog W [] 100000 10 (opsC mid13) [⟨1, cvO W 5 6 l⟩, ⟨3, cvO W 7 8 l'⟩] 0)) .plain)
noncomputable def x13 (W : World) (a : Option Addr) (n c : Nat) (a' : Option Addr) (n' c' : Nat) (l l' : List Int) : RG := (runG Tryd.prog W [] 100000 10 (t13 W l l') body13 (argSlots 0 [.one (.sl a n c), .one (.sl a' n' c')]) noMem []).slim 0 [] [] [(4, false)] []
def eqT (a b : ByteArray) : Bool := a.toList == b.toList
theorem w13 (W : World) (a : Option Addr) (n c : Nat) (a' : Option Addr) (n' c' : Nat) (l l' : List Int) : x13 W a n c a' n' c' l l' = .leaf .ret (.sym (yes (RowZ W a n c l) && yes (RowZ W a' n' c' l'))) [(4, .one (.bool (.sym (eqT (strB l) (strB l')))))] ⟨[], [], 0⟩ [] := by kernel_rfl
theorem m13 : mid13 = .region (idC mid13) (opsC mid13) false := by kernel_rfl
theorem c13 (k x d : Nat) (hk : (k = 1 ∧ x = 5 ∧ d = 6) ∨ (k = 3 ∧ x = 7 ∧ d = 8)) : ∃ o, (opsC mid13).toList[k]? = some o ∧ o.guard = none ∧ o.dst = some d ∧ o.op = .convert 22 9 (.tmp x) := by
  have h1 : ((opsC mid13).toList[1]?).map (fun o => (o.guard, o.dst, o.op)) = some (none, some 6, .convert 22 9 (.tmp 5)) := by kernel_rfl
  have h3 : ((opsC mid13).toList[3]?).map (fun o => (o.guard, o.dst, o.op)) = some (none, some 8, .convert 22 9 (.tmp 7)) := by kernel_rfl
  rcases hk with ⟨rfl, rfl, rfl⟩ | ⟨rfl, rfl, rfl⟩
  · cases ho : (opsC mid13).toList[1]? with
    | none => rw [ho] at h1; cases h1
    | some o =>
      rw [ho] at h1
      simp only [Option.map_some, Option.some.injEq, Prod.mk.injEq] at h1
      exact ⟨o, rfl, h1.1, h1.2.1, h1.2.2⟩
  · cases ho : (opsC mid13).toList[3]? with
    | none => rw [ho] at h3; cases h3
    | some o =>
      rw [ho] at h3
      simp only [Option.map_some, Option.some.injEq, Prod.mk.injEq] at h3
      exact ⟨o, rfl, h3.1, h3.2.1, h3.2.2⟩
theorem byt_inj : ∀ {l l' : List Int}, BytL l → BytL l' → (l.map fun n => UInt8.ofNat n.toNat) = (l'.map fun n => UInt8.ofNat n.toNat) → l = l'
  | [], [], _, _, _ => rfl
  | [], _ :: _, _, _, h => by simp at h
  | _ :: _, [], _, _, h => by simp at h
  | x :: l, y :: l', hb, hb', h => by
    simp only [List.map_cons, List.cons.injEq] at h
    have h0 := hb 0
    have h0' := hb' 0
    simp only [List.getD_cons_zero] at h0 h0'
    have e := congrArg UInt8.toNat h.1
    rw [UInt8.toNat_ofNat', UInt8.toNat_ofNat'] at e
    have e2 : x = y := by omega
    rw [e2, byt_inj (l := l) (l' := l') (fun j => hb (j + 1)) (fun j => hb' (j + 1)) h.2]
/-- r14.SameBytes. -/
theorem same13 {w : World} {a : Option Addr} {n c : Nat} {a' : Option Addr} {n' c' : Nat} {l l' : List Int} (h : RowZ w a n c l) (h' : RowZ w a' n' c' l') (hb : BytL l) (hb' : BytL l') : Calls Tryd.prog 13 #[.slice a n c, .slice a' n' c'] w fun en w' => en = .returned (.bool (decide (l = l'))) ∧ Below w.heap.size w w' := by
  have hcalls := calls_of_runG (gok_nil w) (n := 100000) (g := 13) Tryd.func13 (show Tryd.f13.body = some body13 by kernel_rfl) (t := t13 w l l') (args := [.one (.sl a n c), .one (.sl a' n' c')]) ?_ (by rw [show Tryd.f13.ntmps = 10 by kernel_rfl]; simp)
    (R := fun v _ => v = .one (.bool (.sym (eqT (strB l) (strB l'))))) (N := 0) (ks := []) (bs := []) (ke := [(4, false)]) (be := []) rfl rfl ?_
  · refine hcalls.mono ?_
    rintro en w' ⟨v, g, f, rfl, rfl, _, hb1⟩
    refine ⟨?_, hb1⟩
    show Ending.returned (.bool (eqT (strB l) (strB l'))) = _
    have : eqT (strB l) (strB l') = decide (l = l') := by
      unfold eqT
      rw [ByteArray.toList_eq, ByteArray.toList_eq]
      cases hd : decide (l = l') with
      | true => rw [of_decide_eq_true hd]; exact beq_self_eq_true _
      | false =>
        rw [beq_eq_false_iff_ne]
        intro he
        exact of_decide_eq_false hd (byt_inj hb hb' he)
    rw [this]
  · have e : HGOk (w : Bs) Tryd.prog Tryd.f13.ntmps (t13 w l l') body13 = (True ∧ CustOk (w : Bs) Tryd.prog 10 mid13 (runCalls Tryd.prog w [] 100000 10 (opsC mid13) [⟨1, cvO w 5 6 l⟩, ⟨3, cvO w 7 8 l'⟩] 0) ∧ True) := by kernel_rfl
    rw [e]
    refine ⟨trivial, ?_, trivial⟩
    have := calls_cust (W := (w : Bs)) (P := Tryd.prog) (G := []) (N := 100000) (nt := 10) (id := idC mid13) (gok_nil w) (ops := opsC mid13) (l := [⟨1, cvO w 5 6 l⟩, ⟨3, cvO w 7 8 l'⟩]) ?_ (by simp)
    · rw [← m13] at this
      exact this
    · intro c hc
      simp only [List.mem_cons, List.not_mem_nil, or_false] at hc
      rcases hc with rfl | rfl
      · obtain ⟨o, h1, h2, h3, h4⟩ := c13 1 5 6 (.inl ⟨rfl, rfl, rfl⟩)
        exact callG_of h1 h2 (cvO_ok h3 h4 (by decide))
      · obtain ⟨o, h1, h2, h3, h4⟩ := c13 3 7 8 (.inr ⟨rfl, rfl, rfl⟩)
        exact callG_of h1 h2 (cvO_ok h3 h4 (by decide))
  · have hx := w13 w a n c a' n' c' l l'
    unfold x13 at hx
    rw [show Tryd.f13.ntmps = 10 by kernel_rfl, hx]
    exact ⟨by rw [SB.val_sym, yes_of h, yes_of h']; rfl, .inr rfl, [(false, [.bool (.sym (eqT (strB l) (strB l')))])], _, by kernel_rfl, rfl, rfl⟩
/-! ### As specs -/
def bytB (l : List Int) : Bool := l.all fun z => decide (0 ≤ z) && decide (z ≤ 255)
theorem bytB_ok {l : List Int} (h : bytB l = true) : BytL l := by
  intro j
  rw [List.getD_eq_getElem?_getD]
  cases hj : l[j]? with
  | none => exact ⟨by simp, by simp⟩
  | some z =>
    have := List.all_eq_true.1 h z (List.mem_of_getElem? hj)
    rw [Bool.and_eq_true, decide_eq_true_eq, decide_eq_true_eq] at this
    exact this
def resS (r : ByteArray × Int × Int) : TV := .tup [(false, [.str r.1]), (false, [.int .i64 (.sym r.2.1)]), (false, [.int .i64 (.sym r.2.2)])]
noncomputable def rowB (W : World) (a : Option Addr) (n c : Nat) : Bool := yes (RowOk W .u8 a n c)
/-- Format upon a row of the executor's own, or one that came in. -/
noncomputable def specFmt (W : World) : Sx.Spec := ⟨fun
    | [_, .one (.row b o n _)] => [(b, o, n)]
    | _ => [], fun _ => [], fun args C _ => match args with
    | [.one (.int .i64 c), .one (.row b o n cp)] => match rangeC C b o n with
      | some cells => match bytesOf cells with
        | some l => some ⟨.sym (bytB l && (decide (n ≤ cp) && decide (cp ≤ 1000000))), resS (fmtR (c.val == 2) n fun j => l.getD j 0), [], none⟩
        | none => none
      | none => none
    | [.one (.int .i64 c), .one (.sl a n cp)] => some ⟨.sym (rowB W a n cp), resS (fmtR (c.val == 2) n fun j => rdInt W ((a.getD default).add j)), [], none⟩
    | _ => none⟩
theorem row_of {C : Nat → Nat → Option SV} {f : Nat → Nat} {w : World} (hC : CRel f C w) {b o n cp : Nat} {cells : List SV} {l : List Int} (hl : rangeC C b o n = some cells) (hb : bytesOf cells = some l) (h1 : n ≤ cp) (h2 : cp ≤ 1000000) : RowZ w (some ⟨f b, o, none⟩) n cp l := by
  obtain ⟨hlen, hget⟩ := rangeC_get hl
  have hden := bytesOf_den hb f
  have hll : l.length = n := by
    have := congrArg List.length hden
    rw [List.length_map, List.length_map] at this
    omega
  have hm : maxLen = 9223372036854775807 := by decide
  refine ⟨h1, by omega, nofun, hll, .inr rfl, ?_⟩
  intro j z hj
  rw [addr_add]
  have hj' : j < l.length := (List.getElem?_eq_some_iff.1 hj).1
  have h3 : cells[j]? = some cells[j] := List.getElem?_eq_getElem (by omega)
  rw [hC b (o + j) _ (hget j _ h3)]
  have h4 := congrArg (fun z => z[j]?) hden
  simp only [List.getElem?_map, h3, hj, Option.map_some, Option.some.injEq] at h4
  rw [h4]
theorem fmt_spec {gf : FuncId} (hn : Named gf) (hc : FmtCalls gf) (W : World) : SpecOk W Tryd.prog gf (specFmt W) := by
  refine ⟨hn, ?_⟩
  intro args C K e f w he _ hvc hC _ hW _
  simp only [specFmt] at he
  split at he <;> try contradiction
  · rename_i c b o n cp
    split at he <;> try contradiction
    rename_i cells hcells
    split at he <;> try contradiction
    rename_i l hl
    simp only [Option.some.injEq] at he
    subst he
    rw [SB.val_sym, Bool.and_eq_true, Bool.and_eq_true, decide_eq_true_eq, decide_eq_true_eq] at hvc
    have hr := row_of hC hcells hl hvc.2.1 hvc.2.2
    refine ⟨nofun, fun p hp => (List.not_mem_nil hp).elim, (fmt_at hc (c := c.val) hr (bytB_ok hvc.1)).mono ?_⟩
    rintro en w' ⟨rfl, hb⟩
    exact ⟨rfl, ⟨hb.os, hb.tape, hb.output, hb.size, fun i hi => hb.block i hi⟩⟩
  · rename_i c a n cp
    simp only [Option.some.injEq] at he
    subst he
    have hr : RowOk W .u8 a n cp := of_yes hvc
    have hr2 : RowOk w .u8 a n cp := ⟨hr.le, hr.max, hr.nil, fun j hj => by
      obtain ⟨h1, h2, h3⟩ := hr.at_ j hj
      obtain ⟨h4, h5⟩ := rdInt_of (hW.cell (isInt_cell h1))
      exact ⟨h4, by rw [h5]; exact h2, by rw [h5]; exact h3⟩⟩
    have e : fmtR (c.val == 2) n (fun j => rdInt w ((a.getD default).add j)) = fmtR (c.val == 2) n (fun j => rdInt W ((a.getD default).add j)) := by
      rcases Nat.eq_zero_or_pos n with rfl | hn0
      · rfl
      · refine txt_in ?_ fun j hj => ?_
        · have := hr.at_ 0 hn0
          have h6 : IntKind.u8.max = 255 := rfl
          omega
        · exact (rdInt_of (hW.cell (isInt_cell (hr.at_ j hj).1))).2
    have h := hc w c.val a n cp hr2
    rw [e] at h
    refine ⟨nofun, fun p hp => (List.not_mem_nil hp).elim, h.mono ?_⟩
    rintro en w' ⟨rfl, hb⟩
    exact ⟨rfl, ⟨hb.os, hb.tape, hb.output, hb.size, fun i hi => hb.block i hi⟩⟩
theorem RowZ.cut {w : World} {a : Option Addr} {c k : Nat} {l : List Int} (h : RowZ w a c k l) {n : Nat} (hn : n ≤ c) (ha : a ≠ none) : RowZ w a n k (l.take n) := by
  have hl := h.len
  have hle := h.le
  refine ⟨by omega, h.max, fun h0 => absurd h0 ha, by rw [List.length_take]; omega, h.flat, ?_⟩
  intro j z hj
  have hjn : j < n := by
    have := (List.getElem?_eq_some_iff.1 hj).1
    rw [List.length_take] at this
    omega
  rw [List.getElem?_take_of_lt hjn] at hj
  exact h.at_ j z hj
theorem bytL_take {l : List Int} (h : BytL l) (n : Nat) : BytL (l.take n) := by
  intro j
  rw [List.getD_eq_getElem?_getD]
  rcases Nat.lt_or_ge j n with hj | hj
  · rw [List.getElem?_take_of_lt hj, ← List.getD_eq_getElem?_getD]
    exact h j
  · rw [List.getElem?_eq_none (by rw [List.length_take]; omega)]
    exact ⟨by simp, by simp⟩
/-- The bytes of a row that came in. -/
def inL (W : World) (a : Option Addr) (n : Nat) : List Int := (List.range n).map fun j => rdInt W ((a.getD default).add j)
theorem RowOk.rowZ {W w : World} (hW : Old W w) {a : Option Addr} {n c : Nat} (h : RowOk W .u8 a n c) (hf : a = none ∨ okA a = true) : RowZ w a n c (inL W a n) ∧ BytL (inL W a n) := by
  have hget : ∀ (j : Nat) (z : Int), (inL W a n)[j]? = some z → j < n ∧ z = rdInt W ((a.getD default).add j) := by
    intro j z hj
    unfold inL at hj
    rw [List.getElem?_map] at hj
    rcases Nat.lt_or_ge j n with h1 | h1
    · rw [List.getElem?_range h1] at hj
      simp only [Option.map_some, Option.some.injEq] at hj
      exact ⟨h1, hj.symm⟩
    · rw [List.getElem?_eq_none (by simp; omega)] at hj
      cases hj
  refine ⟨⟨h.le, h.max, h.nil, by unfold inL; simp, hf, ?_⟩, ?_⟩
  · intro j z hj
    obtain ⟨h1, rfl⟩ := hget j z hj
    exact hW.cell (isInt_cell (h.at_ j h1).1)
  · intro j
    rw [List.getD_eq_getElem?_getD]
    cases hj : (inL W a n)[j]? with
    | none => exact ⟨by simp, by simp⟩
    | some z =>
      obtain ⟨h1, rfl⟩ := hget j z hj
      exact (h.at_ j h1).2
noncomputable def rowIn (W : World) (C : Nat → Nat → Option SV) : SV → Option (Bool × List Int)
  | .row b o n c => match rangeC C b o c with
    | some x => match bytesOf x with
      | some l => some (bytB l && (decide (n ≤ c) && decide (c ≤ 1000000)), l.take n)
      | none => none
    | none => none
  | .sl a n c => some (yes (RowOk W .u8 a n c ∧ (a = none ∨ okA a = true)), inL W a n)
  | _ => none
theorem rowIn_ok {W w : World} (hW : Old W w) {C : Nat → Nat → Option SV} {f : Nat → Nat} (hC : CRel f C w) {v : SV} {b : Bool} {l : List Int} (h : rowIn W C v = some (b, l)) (hb : b = true) : ∃ a n c, v.den f = .slice a n c ∧ RowZ w a n c l ∧ BytL l := by
  subst hb
  unfold rowIn at h
  split at h
  · rename_i b o n c
    split at h <;> try contradiction
    rename_i x hx
    split at h <;> try contradiction
    rename_i l1 hl
    simp only [Option.some.injEq, Prod.mk.injEq, Bool.and_eq_true, decide_eq_true_eq] at h
    obtain ⟨⟨h1, h2, h3⟩, rfl⟩ := h
    exact ⟨_, _, _, rfl, (row_of hC hx hl (Nat.le_refl _) h3).cut h2 (by simp), bytL_take (bytB_ok h1) _⟩
  · rename_i a n c
    simp only [Option.some.injEq, Prod.mk.injEq] at h
    obtain ⟨h1, rfl⟩ := h
    obtain ⟨h2, h3⟩ := of_yes h1
    obtain ⟨h4, h5⟩ := RowOk.rowZ hW h2 h3
    exact ⟨a, n, c, rfl, h4, h5⟩
  · cases h
/-- SameBytes upon rows of the executor's own, or such that came in. -/
noncomputable def spec13 (W : World) : Sx.Spec := ⟨fun
    | [.one (.row b o _ c), .one (.row b' o' _ c')] => [(b, o, c), (b', o', c')]
    | [_, .one (.row b' o' _ c')] => [(b', o', c')]
    | [.one (.row b o _ c), _] => [(b, o, c)]
    | _ => [], fun _ => [], fun args C _ => match args with
    | [.one x, .one y] => match rowIn W C x, rowIn W C y with
      | some (b, l), some (b', l') => some ⟨.sym (b && b'), .one (.bool (.sym (decide (l = l')))), [], none⟩
      | _, _ => none
    | _ => none⟩
theorem named13 : Named 13 := ⟨Tryd.f13, Tryd.func13, by kernel_rfl, by kernel_rfl⟩
theorem spec13_ok (W : World) : SpecOk W Tryd.prog 13 (spec13 W) := by
  refine ⟨named13, ?_⟩
  intro args C K e f w he _ hvc hC _ hW _
  simp only [spec13] at he
  split at he <;> try contradiction
  rename_i x y
  split at he <;> try contradiction
  rename_i b l b' l' hx hy
  simp only [Option.some.injEq] at he
  subst he
  rw [SB.val_sym, Bool.and_eq_true] at hvc
  obtain ⟨a, n, c, e1, h1, h2⟩ := rowIn_ok hW hC hx hvc.1
  obtain ⟨a', n', c', e2, h3, h4⟩ := rowIn_ok hW hC hy hvc.2
  refine ⟨nofun, fun p hp => (List.not_mem_nil hp).elim, ?_⟩
  have hargs : (List.map (TV.den f) [.one x, .one y]).toArray = #[.slice a n c, .slice a' n' c'] := by
    show #[x.den f, y.den f] = _
    rw [e1, e2]
  rw [hargs]
  refine (same13 h1 h3 h2 h4).mono ?_
  rintro en w' ⟨rfl, hb⟩
  exact ⟨rfl, ⟨hb.os, hb.tape, hb.output, hb.size, fun i hi => hb.block i hi⟩⟩
end Go.Proofs.YtdglgiaegjkinaaDoor
