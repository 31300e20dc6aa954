/- The operand bytes at the end of a text (the document): digit, number, operand. (Several texts in one.) -/
import Derived.Test.YtdglgiaegjkinaaDoorRz
import Derived.WalkKit
import Derived.Test.YtdglgiaegjkinaaDoorKn
import Derived.Laws.Strings3
import Derived.Test.YtdglgiaegjkinaaDoorTx
import Derived.Test.YtdglgiaegjkinaaDoorPm
namespace Go.Proofs.YtdglgiaegjkinaaDoor
open Go Go.Sx Go.RowKit
set_option maxRecDepth 100000
def dgB (c : Int) : Bool := bif decide (48 = c) then true else bif decide (49 = c) then true else bif decide (50 = c) then true else bif decide (51 = c) then true else bif decide (52 = c) then true else bif decide (53 = c) then true else bif decide (54 = c) then true else bif decide (55 = c) then true else bif decide (56 = c) then true else bif decide (57 = c) then true else bif decide (97 = c) then true else bif decide (98 = c) then true else bif decide (99 = c) then true else bif decide (100 = c) then true else bif decide (101 = c) then true else decide (102 = c)
def dgV (c : Int) : Int := bif decide (48 = c) then 0 else bif decide (49 = c) then 1 else bif decide (50 = c) then 2 else bif decide (51 = c) then 3 else bif decide (52 = c) then 4 else bif decide (53 = c) then 5 else bif decide (54 = c) then 6 else bif decide (55 = c) then 7 else bif decide (56 = c) then 8 else bif decide (57 = c) then 9 else bif decide (97 = c) then 10 else bif decide (98 = c) then 11 else bif decide (99 = c) then 12 else bif decide (100 = c) then 13 else bif decide (101 = c) then 14 else bif decide (102 = c) then 15 else 0
theorem dig_eval (W : World) (c : Int) : eval Tryd.prog W [] 66 [.one (.int .u8 (.sym c))] = some (.tup [(false, [.int .u8 (.sym (dgV c))]), (false, [.bool (.sym (dgB c))])]) := by kernel_rfl
def FDig : List TV → Option (SB × TV)
  | [.one (.int .u8 c)] => some (.lit true, .tup [(false, [.int .u8 (.sym (dgV c.val))]), (false, [.bool (.sym (dgB c.val))])])
  | _ => none
theorem spec66 (W : World) : SpecOk W Tryd.prog 66 (specV FDig) := by
  refine spec_of ⟨Tryd.f66, Tryd.func66, by kernel_rfl, by kernel_rfl⟩ ?_
  intro args c u f w hF hc hW
  unfold FDig at hF
  split at hF <;> try contradiction
  rename_i c
  simp only [Option.some.injEq, Prod.mk.injEq] at hF
  obtain ⟨rfl, rfl⟩ := hF
  refine ⟨by simp, ?_⟩
  refine (calls_of_eval (gok_nil w) (dig_eval w c.val) w (Old.refl w)).mono ?_
  rintro en w' ⟨⟨f', rfl⟩, hb⟩
  exact ⟨rfl, hb⟩
def nmP (p q : UInt8) : Int × Bool := (bits .or .u8 (gshl .u8 (dgV (p.toNat : Int)) 4) (dgV (q.toNat : Int)), dgB (p.toNat : Int) && dgB (q.toNat : Int))
def nmR (s : ByteArray) : Int × Bool := match s.data.toList with
  | [p, q] => nmP p q
  | _ => (0, false)
theorem num_eval (W : World) (p q : UInt8) : eval Tryd.prog W [(66, specV FDig)] 53 [.one (.str { data := #[p, q] })] = some (.tup [(false, [.int .u8 (.sym (bif dgB (p.toNat : Int) then (nmP p q).1 else (nmP p q).1))]), (false, [.bool (.sym (nmP p q).2)])]) := by kernel_rfl
theorem num_two (w : World) (p q : UInt8) : Calls Tryd.prog 53 #[.string { data := #[p, q] }] w fun en w' => en = .returned (.tuple #[.int .u8 (nmP p q).1, .bool (nmP p q).2]) ∧ Below w.heap.size w w' := by
  refine (calls_of_eval (gok_cons (spec66 w) (gok_nil w)) (num_eval w p q) w (Old.refl w)).mono ?_
  rintro en w' ⟨⟨f', rfl⟩, hb⟩
  refine ⟨?_, hb⟩
  show Ending.returned (.tuple #[.int .u8 (bif dgB (p.toNat : Int) then (nmP p q).1 else (nmP p q).1), .bool (nmP p q).2]) = _
  cases dgB (p.toNat : Int) <;> rfl
noncomputable def bodyN : Code := match Tryd.f53.body with
  | some c => c
  | none => .skip
noncomputable def xN (W : World) (s : ByteArray) : RG := (runG Tryd.prog W [(66, specV FDig)] 100000 31 .plain bodyN (argSlots 0 [.one (.str s)]) noMem []).slim 0 [] [] [(2, false), (3, false)] []
def brR : RG → RG
  | .br _ _ y => y
  | _ => .fail
theorem xN_eq (W : World) (s : ByteArray) : xN W s = .br ((s.size : Int) != 2) (.leaf .ret (.lit true) [(2, .one (.int .u8 (.lit 0))), (3, .one (.bool (.lit false)))] ⟨[], [], 0⟩ []) (brR (xN W s)) := by kernel_rfl
theorem num_not {w : World} {s : ByteArray} (h : s.size ≠ 2) : Calls Tryd.prog 53 #[.string s] w fun en w' => en = .returned (.tuple #[.int .u8 0, .bool false]) ∧ Below w.heap.size w w' := by
  have hcalls := calls_of_runG (gok_cons (spec66 w) (gok_nil w)) (n := 100000) (g := 53) Tryd.func53 (show Tryd.f53.body = some bodyN by kernel_rfl) (t := .plain) (args := [.one (.str s)]) ?_ (by rw [show Tryd.f53.ntmps = 31 by kernel_rfl]; simp)
    (R := fun v _ => v = .tup [(false, [.int .u8 (.lit 0)]), (false, [.bool (.lit false)])]) (N := 0) (ks := []) (bs := []) (ke := [(2, false), (3, false)]) (be := []) rfl rfl ?_
  · refine hcalls.mono ?_
    rintro en w' ⟨v, g, f, rfl, rfl, _, hb⟩
    exact ⟨rfl, hb⟩
  · trivial
  · have hx := xN_eq w s
    unfold xN at hx
    rw [show Tryd.f53.ntmps = 31 by kernel_rfl, hx]
    have hb : ((s.size : Int) != 2) = true := by
      rw [bne_iff_ne]
      omega
    rw [hb]
    exact ⟨fun _ => ⟨rfl, .inr rfl, [(false, [.int .u8 (.lit 0)]), (false, [.bool (.lit false)])], _, by kernel_rfl, rfl, rfl⟩, fun h => (by cases h)⟩
def F53 : List TV → Option (SB × TV)
  | [.one (.str s)] => some (.lit true, .tup [(false, [.int .u8 (.sym (nmR s).1)]), (false, [.bool (.sym (nmR s).2)])])
  | _ => none
theorem nmR_not {s : ByteArray} (h : s.size ≠ 2) : nmR s = (0, false) := by
  unfold nmR
  have hl := ba_len s
  split
  · rename_i p q hd
    rw [hd] at hl
    simp at hl
    omega
  · rfl
theorem spec53 (W : World) : SpecOk W Tryd.prog 53 (specV F53) := by
  refine spec_of ⟨Tryd.f53, Tryd.func53, by kernel_rfl, by kernel_rfl⟩ ?_
  intro args c u f w hF hc hW
  unfold F53 at hF
  split at hF <;> try contradiction
  rename_i s
  simp only [Option.some.injEq, Prod.mk.injEq] at hF
  obtain ⟨rfl, rfl⟩ := hF
  refine ⟨by simp, ?_⟩
  by_cases h : s.size = 2
  · have hl : s.data.toList.length = 2 := by rw [ba_len]; exact h
    match hd : s.data.toList, hl with
    | [p, q], _ =>
      have he : s = { data := #[p, q] } := by
        apply ba_eq
        rw [hd]
      subst he
      refine (num_two w p q).mono ?_
      rintro en w' ⟨rfl, hb⟩
      exact ⟨rfl, hb⟩
  · refine (num_not h).mono ?_
    rintro en w' ⟨rfl, hb⟩
    refine ⟨?_, hb⟩
    rw [nmR_not h]
    rfl
end Go.Proofs.YtdglgiaegjkinaaDoor

/- operand (the document). -/

namespace Go.Proofs.YtdglgiaegjkinaaDoor
open Go Go.Sx Go.RowKit
set_option maxRecDepth 100000
section
variable {W : Bs} {nt x d : Nat} {o : Oper}
/-- The first two letters of a text; what stands behind them. -/
noncomputable def slO (x d : Nat) (s : SL) (m : Mem) (g : Gh) : RG := match Go.Sx.look s x with
  | some (.one (.str t)) => .leaf .nrm (.sym (decide (2 ≤ t.size))) (putS (some d) (.one (.str (t.extract 0 2))) s) m g
  | _ => .fail
noncomputable def slP (x d : Nat) (s : SL) (m : Mem) (g : Gh) : RG := match Go.Sx.look s x with
  | some (.one (.str t)) => .leaf .nrm (.sym (decide (2 ≤ t.size))) (putS (some d) (.one (.str (t.extract 2 t.size))) s) m g
  | _ => .fail
theorem slO_ok (hdst : o.dst = some d) (hop : o.op = .slice 9 (.tmp x) none (some (.const (.int .i64 2))) none) (hd : d < nt) : CallOk W Tryd.prog nt o (slO x d) := by
  intro s m g f a w Q hgood h
  unfold slO at hgood ⊢
  split at hgood <;> try exact hgood.elim
  rename_i t hx
  have hr := of_decide_eq_true (show decide (2 ≤ t.size) = true from hgood)
  have hxv : a.eval (.tmp x) = .string t := h.slots x _ hx (by simp)
  have hrun : (execOp a.eval o).run Tryd.prog w = .ok (.value (.string (t.extract 0 2))) w := by
    have h1 := run_slice_string_to_if (P := Tryd.prog) w 9 t .i64 2 und9
    rw [if_pos (by omega)] at h1
    have h2 := run_sliceAt_string (P := Tryd.prog) w 9 (.string t) none (some (.int .i64 2)) none und9
    have h3 : a.eval (.const (.int .i64 2)) = .int .i64 2 := rfl
    simp only [execOp, hop, hxv, Option.map_none, Option.map_some, h3, Sem.run_bind, h2, h1, Result.andThen_ok, Sem.run_pure]
    rfl
  unfold Oper.wp
  rw [hrun, Oper.upon_value]
  refine ⟨rfl, f, ?_⟩
  rw [hdst]
  exact h.call ⟨rfl, rfl, rfl, Nat.le_refl _, fun _ _ => rfl⟩ hd rfl
theorem slP_ok (hdst : o.dst = some d) (hop : o.op = .slice 9 (.tmp x) (some (.const (.int .i64 2))) none none) (hd : d < nt) : CallOk W Tryd.prog nt o (slP x d) := by
  intro s m g f a w Q hgood h
  unfold slP at hgood ⊢
  split at hgood <;> try exact hgood.elim
  rename_i t hx
  have hr := of_decide_eq_true (show decide (2 ≤ t.size) = true from hgood)
  have hxv : a.eval (.tmp x) = .string t := h.slots x _ hx (by simp)
  have hrun : (execOp a.eval o).run Tryd.prog w = .ok (.value (.string (t.extract 2 t.size))) w := by
    have h1 := run_slice_string_from_if (P := Tryd.prog) w 9 t .i64 2 und9
    rw [if_pos (by omega)] at h1
    have h2 := run_sliceAt_string (P := Tryd.prog) w 9 (.string t) (some (.int .i64 2)) none none und9
    have h3 : a.eval (.const (.int .i64 2)) = .int .i64 2 := rfl
    simp only [execOp, hop, hxv, Option.map_none, Option.map_some, h3, Sem.run_bind, h2, h1, Result.andThen_ok, Sem.run_pure]
    rfl
  unfold Oper.wp
  rw [hrun, Oper.upon_value]
  refine ⟨rfl, f, ?_⟩
  rw [hdst]
  exact h.call ⟨rfl, rfl, rfl, Nat.le_refl _, fun _ _ => rfl⟩ hd rfl
end
noncomputable def cA24 : Code := match bodyOf Tryd.f24 with
  | .seq _ (.seq _ (.seq _ (.seq _ (.seq _ (.seq _ (.seq c _)))))) => c
  | _ => .skip
noncomputable def cB24 : Code := match bodyOf Tryd.f24 with
  | .seq _ (.seq _ (.seq _ (.seq _ (.seq _ (.seq _ (.seq _ (.seq c _))))))) => c
  | _ => .skip
noncomputable def G24 : List (Nat × Sx.Spec) := [(53, specV F53)]
noncomputable def t24 (W : World) : HG := .seq .plain (.seq .plain (.seq .plain (.seq .plain (.seq .plain (.seq .plain (.seq (.cust (runCalls Tryd.prog W G24 100000 56 (opsOf cA24) [⟨1, slO 39 40⟩] 0)) (.seq (.cust (runCalls Tryd.prog W G24 100000 56 (opsOf cB24) [⟨1, slP 45 46⟩] 0)) .plain)))))))
def ke24 : List (Nat × Bool) := [(4, false), (5, false), (6, false)]
noncomputable def x24 (W : World) (t : HG) (s : ByteArray) (L : Int) : RG := (runG Tryd.prog W G24 100000 56 t (bodyOf Tryd.f24) (argSlots 0 [.one (.str s), .one (.int .i64 (.lit L))]) noMem []).slim 0 [] [] ke24 []
def eS (s : ByteArray) (k : Int) : ByteArray := s.extract (gsub .i64 (s.size : Int) k).toNat s.size
def nH (s : ByteArray) : Int × Bool := nmR ((eS s 4).extract 0 2)
def nL (s : ByteArray) : Int × Bool := nmR ((eS s 4).extract 2 (eS s 4).size)
def vO (s : ByteArray) (k : Int) : Bool := decide (0 ≤ gsub .i64 (s.size : Int) k) && decide (gsub .i64 (s.size : Int) k ≤ (s.size : Int))
def lfO (vc : SB) (x y : SI) (b : SB) : RG := .leaf .ret vc [(4, .one (.int .u8 x)), (5, .one (.int .u8 y)), (6, .one (.bool b))] ⟨[], [], 0⟩ []
theorem x24_1 (W : World) (s : ByteArray) : x24 W .plain s 1 = lfO (.lit true) (.lit 0) (.lit 0) (.lit true) := by kernel_rfl
theorem x24_2 (W : World) (s : ByteArray) : x24 W .plain s 2 = .br (decide ((s.size : Int) < 2)) (lfO (.lit true) (.lit 0) (.lit 0) (.lit false)) (lfO (.sym (vO s 2)) (.sym (nmR (eS s 2)).1) (.lit 0) (.sym (nmR (eS s 2)).2)) := by kernel_rfl
theorem x24_3 (W : World) (s : ByteArray) : x24 W (t24 W) s 3 = .br (decide ((s.size : Int) < 4)) (lfO (.lit true) (.lit 0) (.lit 0) (.lit false)) (lfO (.sym (vO s 4 && (decide (2 ≤ (eS s 4).size) && decide (2 ≤ (eS s 4).size)))) (.sym (bif (nH s).2 then (nL s).1 else (nL s).1)) (.sym (bif (nH s).2 then (nH s).1 else (nH s).1)) (.sym ((nH s).2 && (nL s).2))) := by kernel_rfl
/-- The two operand bytes, and whether there are any. -/
def opR (s : ByteArray) (L : Int) : Int × Int × Bool := bif decide (L = 1) then (0, 0, true) else
  bif decide (L = 2) then (bif decide ((s.size : Int) < 2) then (0, 0, false) else ((nmR (eS s 2)).1, 0, (nmR (eS s 2)).2))
  else (bif decide ((s.size : Int) < 4) then (0, 0, false) else ((nL s).1, (nH s).1, (nH s).2 && (nL s).2))
theorem t24_ok (W : World) : HGOk (W : Bs) Tryd.prog 56 (t24 W) (bodyOf Tryd.f24) := by
  have e : HGOk (W : Bs) Tryd.prog 56 (t24 W) (bodyOf Tryd.f24) = (True ∧ True ∧ True ∧ True ∧ True ∧ True ∧ CustOk (W : Bs) Tryd.prog 56 cA24 (runCalls Tryd.prog W G24 100000 56 (opsOf cA24) [⟨1, slO 39 40⟩] 0) ∧ CustOk (W : Bs) Tryd.prog 56 cB24 (runCalls Tryd.prog W G24 100000 56 (opsOf cB24) [⟨1, slP 45 46⟩] 0) ∧ True) := by kernel_rfl
  rw [e]
  have hG : GOk W Tryd.prog G24 := gok_cons (spec53 W) (gok_nil W)
  refine ⟨trivial, trivial, trivial, trivial, trivial, trivial, ?_, ?_, trivial⟩
  · have hk : CallGOk (W : Bs) Tryd.prog 56 (opsOf cA24) ⟨1, slO 39 40⟩ := by
      have he : ((opsOf cA24).toList[1]?).map (fun o => (gNone o, o.dst, o.op)) = some (true, some 40, .slice 9 (.tmp 39) none (some (.const (.int .i64 2))) none) := by kernel_rfl
      cases ho : (opsOf cA24).toList[1]? with
      | none => rw [ho] at he; cases he
      | some o =>
        rw [ho] at he
        simp only [Option.map_some, Option.some.injEq, Prod.mk.injEq] at he
        refine callG_of ho ?_ (slO_ok he.2.1 he.2.2 (by decide))
        have h1 := he.1
        unfold gNone at h1
        split at h1
        · assumption
        · cases h1
    have := calls_cust (W := (W : Bs)) (P := Tryd.prog) (G := G24) (N := 100000) (nt := 56) (id := idC cA24) hG (ops := opsOf cA24) (l := [⟨1, slO 39 40⟩]) (by intro d hd; rw [List.mem_singleton] at hd; rw [hd]; exact hk) (by simp)
    have hr : cA24 = .region (idC cA24) (opsC cA24) false := by kernel_rfl
    rw [opsOf_opsC, ← hr] at this
    rw [opsOf_opsC]
    exact this
  · have hk : CallGOk (W : Bs) Tryd.prog 56 (opsOf cB24) ⟨1, slP 45 46⟩ := by
      have he : ((opsOf cB24).toList[1]?).map (fun o => (gNone o, o.dst, o.op)) = some (true, some 46, .slice 9 (.tmp 45) (some (.const (.int .i64 2))) none none) := by kernel_rfl
      cases ho : (opsOf cB24).toList[1]? with
      | none => rw [ho] at he; cases he
      | some o =>
        rw [ho] at he
        simp only [Option.map_some, Option.some.injEq, Prod.mk.injEq] at he
        refine callG_of ho ?_ (slP_ok he.2.1 he.2.2 (by decide))
        have h1 := he.1
        unfold gNone at h1
        split at h1
        · assumption
        · cases h1
    have := calls_cust (W := (W : Bs)) (P := Tryd.prog) (G := G24) (N := 100000) (nt := 56) (id := idC cB24) hG (ops := opsOf cB24) (l := [⟨1, slP 45 46⟩]) (by intro d hd; rw [List.mem_singleton] at hd; rw [hd]; exact hk) (by simp)
    have hr : cB24 = .region (idC cB24) (opsC cB24) false := by kernel_rfl
    rw [opsOf_opsC, ← hr] at this
    rw [opsOf_opsC]
    exact this
theorem all_mono {Φ Ψ : Ex → SB → SL → Mem → Gh → Prop} (h : ∀ e v s m g, Φ e v s m g → Ψ e v s m g) : ∀ {r : RG}, r.All Φ → r.All Ψ
  | .fail, h1 => h1
  | .leaf _ _ _ _ _, h1 => h _ _ _ _ _ h1
  | .br _ _ _, h1 => ⟨fun hb => all_mono h (h1.1 hb), fun hb => all_mono h (h1.2 hb)⟩
  | .any _, h1 => fun a n => all_mono h (h1 a n)
  | .pick _ _, h1 => fun y => all_mono h (h1 y)
/-- A walk of operand whose tree's leaves are 'r'. -/
def OutO (r : Int × Int × Bool) (x : RG) : Prop := x.All fun e vc s m g => vc.val = true ∧ e = .ret ∧ ∃ a b c, s = [(4, .one (.int .u8 a)), (5, .one (.int .u8 b)), (6, .one (.bool c))] ∧ m = ⟨[], [], 0⟩ ∧ g = [] ∧ (a.val, b.val, c.val) = r
theorem out_leaf {r : Int × Int × Bool} {vc : SB} {x y : SI} {b : SB} (hv : vc.val = true) (h : (x.val, y.val, b.val) = r) : OutO r (lfO vc x y b) := ⟨hv, rfl, x, y, b, rfl, rfl, rfl, h⟩
theorem out_br {r : Int × Int × Bool} {b : Bool} {x y : RG} (h1 : b = true → OutO r x) (h2 : b = false → OutO r y) : OutO r (.br b x y) := ⟨h1, h2⟩
theorem out_calls {w : World} {t : HG} {s : ByteArray} {L : Int} {r : Int × Int × Bool} (ht : HGOk (w : Bs) Tryd.prog 56 t (bodyOf Tryd.f24)) (h : OutO r (x24 w t s L)) : Calls Tryd.prog 24 #[.string s, .int .i64 L] w fun en w' => en = .returned (.tuple #[.int .u8 r.1, .int .u8 r.2.1, .bool r.2.2]) ∧ Below w.heap.size w w' := by
  have hcalls := calls_of_runG (gok_cons (spec53 w) (gok_nil w)) (n := 100000) (g := 24) Tryd.func24 (show Tryd.f24.body = some (bodyOf Tryd.f24) by kernel_rfl) (t := t) (args := [.one (.str s), .one (.int .i64 (.lit L))]) ?_ (by rw [show Tryd.f24.ntmps = 56 by kernel_rfl]; simp)
    (R := fun v _ => ∃ a b c, v = .tup [(false, [.int .u8 a]), (false, [.int .u8 b]), (false, [.bool c])] ∧ (a.val, b.val, c.val) = r) (N := 0) (ks := []) (bs := []) (ke := ke24) (be := []) rfl rfl ?_
  · refine hcalls.mono ?_
    rintro en w' ⟨v, g, f, ⟨a, b, c, rfl, hr⟩, rfl, _, hb⟩
    refine ⟨?_, hb⟩
    rw [← hr]
    rfl
  · rw [show Tryd.f24.ntmps = 56 by kernel_rfl]
    exact ht
  · rw [show Tryd.f24.ntmps = 56 by kernel_rfl]
    refine all_mono ?_ h
    rintro e vc s m g ⟨h1, rfl, a, b, c, rfl, rfl, rfl, h2⟩
    exact ⟨h1, .inr rfl, [(false, [.int .u8 a]), (false, [.int .u8 b]), (false, [.bool c])], _, by kernel_rfl, rfl, a, b, c, rfl, h2⟩
theorem eS_size {s : ByteArray} {k : Nat} (h : k ≤ s.size) (hm : s.size ≤ 1000000) : gsub .i64 (s.size : Int) k = ((s.size - k : Nat) : Int) ∧ (eS s k).size = k := by
  have e : gsub .i64 (s.size : Int) k = ((s.size - k : Nat) : Int) := by
    unfold gsub
    rw [IntKind.wrap_i64]
    omega
  refine ⟨e, ?_⟩
  unfold eS
  rw [e, Int.toNat_natCast, ByteArray.size_extract]
  omega
theorem key3 : ∀ (p q : Int × Bool), ((SI.sym (bif p.2 then q.1 else q.1)).val, (SI.sym (bif p.2 then p.1 else p.1)).val, (SB.sym (p.2 && q.2)).val) = (q.1, p.1, p.2 && q.2) := by
  rintro ⟨p1, p2⟩ q
  cases p2 <;> rfl
theorem op_calls {w : World} {s : ByteArray} {L : Int} (hL : L = 1 ∨ L = 2 ∨ L = 3) (hm : s.size ≤ 1000000) : Calls Tryd.prog 24 #[.string s, .int .i64 L] w fun en w' => en = .returned (.tuple #[.int .u8 (opR s L).1, .int .u8 (opR s L).2.1, .bool (opR s L).2.2]) ∧ Below w.heap.size w w' := by
  rcases hL with rfl | rfl | rfl
  · refine out_calls (t := .plain) trivial ?_
    rw [x24_1]
    exact out_leaf rfl rfl
  · refine out_calls (t := .plain) trivial ?_
    rw [x24_2]
    have e : opR s 2 = bif decide ((s.size : Int) < 2) then (0, 0, false) else ((nmR (eS s 2)).1, 0, (nmR (eS s 2)).2) := rfl
    rw [e]
    refine out_br ?_ ?_
    · intro h
      rw [h]
      exact out_leaf rfl rfl
    · intro h
      rw [h]
      have h2 := of_decide_eq_false h
      have hv : vO s 2 = true := by
        unfold vO
        have h3 : gsub .i64 (s.size : Int) 2 = ((s.size - 2 : Nat) : Int) := (eS_size (k := 2) (by omega) hm).1
        rw [h3, decide_eq_true (by omega), decide_eq_true (by omega)]
        rfl
      exact out_leaf hv rfl
  · refine out_calls (t24_ok w) ?_
    rw [x24_3]
    have e : opR s 3 = bif decide ((s.size : Int) < 4) then (0, 0, false) else ((nL s).1, (nH s).1, (nH s).2 && (nL s).2) := rfl
    rw [e]
    refine out_br ?_ ?_
    · intro h
      rw [h]
      exact out_leaf rfl rfl
    · intro h
      rw [h]
      have h2 := of_decide_eq_false h
      have h3 : gsub .i64 (s.size : Int) 4 = ((s.size - 4 : Nat) : Int) := (eS_size (k := 4) (by omega) hm).1
      have h4 : (eS s 4).size = 4 := (eS_size (k := 4) (by omega) hm).2
      have hv : (vO s 4 && (decide (2 ≤ (eS s 4).size) && decide (2 ≤ (eS s 4).size))) = true := by
        unfold vO
        rw [h4, h3, decide_eq_true (by omega), decide_eq_true (by omega)]
        rfl
      rw [cond_false]
      exact out_leaf hv (key3 (nH s) (nL s))
def F24 : List TV → Option (SB × TV)
  | [.one (.str s), .one (.int .i64 L)] => some (.sym (decide (L.val = 1 ∨ L.val = 2 ∨ L.val = 3) && decide (s.size ≤ 1000000)), .tup [(false, [.int .u8 (.sym (opR s L.val).1)]), (false, [.int .u8 (.sym (opR s L.val).2.1)]), (false, [.bool (.sym (opR s L.val).2.2)])])
  | _ => none
theorem spec24 (W : World) : SpecOk W Tryd.prog 24 (specV F24) := by
  refine spec_of ⟨Tryd.f24, Tryd.func24, by kernel_rfl, by kernel_rfl⟩ ?_
  intro args c u f w hF hc hW
  unfold F24 at hF
  split at hF <;> try contradiction
  rename_i s L
  simp only [Option.some.injEq, Prod.mk.injEq] at hF
  obtain ⟨rfl, rfl⟩ := hF
  rw [SB.val_sym, Bool.and_eq_true, decide_eq_true_eq, decide_eq_true_eq] at hc
  refine ⟨by simp, (op_calls hc.1 hc.2).mono ?_⟩
  rintro en w' ⟨rfl, hb⟩
  exact ⟨rfl, hb⟩
end Go.Proofs.YtdglgiaegjkinaaDoor

/- Parse (the document). -/

namespace Go.Proofs.YtdglgiaegjkinaaDoor
open Go Go.Sx Go.RowKit
set_option maxRecDepth 100000
noncomputable def lb12 : Code := match bodyOf Tryd.f12 with
  | .seq _ (.seq (.seq _ (.block _ (.loop b))) _) => b
  | _ => .skip
noncomputable def rt12 : Code := match lb12 with
  | .seq _ (.seq (.block _ (.seq _ (.seq _ (.seq _ (.cond _ (.seq c _) _))))) _) => c
  | _ => .skip
noncomputable def G12 : List (Nat × Sx.Spec) := [(15, specV FDecF), (24, specV F24), (20, specV Ftx)]
theorem g12_ok (W : World) : GOk W Tryd.prog G12 := gok_cons (decF15_ok W) (gok_cons (spec24 W) (gok_cons (spec20 W) (gok_nil W)))
/-- The slice that Parse hands back, ahead of its cut. -/
noncomputable def bld3 (s : SL) (m : Mem) (g : Gh) : RG := match Sx.look s 37, Sx.look s 38, Sx.look s 39 with
  | some (.one (.int .u8 n1)), some (.one (.int .u8 n2)), some (.one (.int .u8 n3)) => .any fun a _ => .leaf .nrm (.lit true) (putS (some 40) (.one (.sl a 3 3)) s) m (g ++ [⟨5, 1, a, 3, 3, [.int .u8 n1, .int .u8 n2, .int .u8 n3]⟩])
  | _, _, _ => .fail
noncomputable def Sl37 (n1 n2 n3 : SI) (t : Nat) : Option TV := match Nat.beq t 37 with
  | true => some (.one (.int .u8 n1))
  | false => match Nat.beq t 38 with
    | true => some (.one (.int .u8 n2))
    | false => match Nat.beq t 39 with
      | true => some (.one (.int .u8 n3))
      | false => none
theorem bld3E (W : World) (n1 n2 n3 : SI) : (opIn rt12 4).map (fun o => (prim Tryd.prog W o 0 (Sl37 n1 n2 n3) (fun _ _ => none) (fun _ => none)).get) = some (some ⟨.lit true, .one (.row 0 0 3 3), [], some (5, [.int .u8 n1, .int .u8 n2, .int .u8 n3])⟩) := by kernel_rfl
theorem bld3O : (opIn rt12 4).map (fun o => (gNone o, o.dst)) = some (true, some 40) := by kernel_rfl
theorem bld3P : ∃ o, opIn rt12 4 = some o ∧ ∃ t l a, o.op = .buildSlice t l a := by
  have h : (opIn rt12 4).map (fun o => match o.op with | .buildSlice .. => true | _ => false) = some true := by kernel_rfl
  cases ho : opIn rt12 4 with
  | none => rw [ho] at h; cases h
  | some o =>
    rw [ho] at h
    simp only [Option.map_some, Option.some.injEq] at h
    refine ⟨o, rfl, ?_⟩
    split at h
    · rename_i t l a he
      exact ⟨t, l, a, he⟩
    · cases h
theorem bld3_call {W : World} : CallGOk (W : Bs) Tryd.prog 44 (opsOf rt12) ⟨4, bld3⟩ := by
  obtain ⟨o, ho, t, l, ar, hop⟩ := bld3P
  have h2 := bld3O
  rw [ho] at h2
  simp only [Option.map_some, Option.some.injEq, Prod.mk.injEq] at h2
  have hg : o.guard = none := by
    have h1 := h2.1
    unfold gNone at h1
    split at h1
    · assumption
    · cases h1
  refine callG_of ho hg ?_
  intro s m g f a w Q hgood h
  unfold bld3 at hgood ⊢
  split at hgood <;> try exact hgood.elim
  rename_i n1 n2 n3 hx1 hx2 hx3
  have h3 := bld3E W n1 n2 n3
  rw [ho] at h3
  simp only [Option.map_some, Option.some.injEq] at h3
  have hS : SRel f (Sl37 n1 n2 n3) a := by
    intro t v hv hne
    unfold Sl37 at hv
    split at hv
    · rename_i ht
      rw [Nat.beq_eq] at ht
      subst ht
      simp only [Option.some.injEq] at hv
      subst hv
      exact h.slots 37 _ hx1 (by simp)
    · split at hv
      · rename_i ht
        rw [Nat.beq_eq] at ht
        subst ht
        simp only [Option.some.injEq] at hv
        subst hv
        exact h.slots 38 _ hx2 (by simp)
      · split at hv
        · rename_i ht
          rw [Nat.beq_eq] at ht
          subst ht
          simp only [Option.some.injEq] at hv
          subst hv
          exact h.slots 39 _ hx3 (by simp)
        · cases hv
  obtain ⟨r, q, hrun, hr, hval, _, _⟩ := prim_buildSlice (w := w) (f := f) (nid := 0) (a := a) hop h3 hS
  have hq : q = .slice (some ⟨w.heap.size, 0, none⟩) 3 3 := by
    rcases hval with hval | hval
    · cases hval
    · rw [hval]
      simp [TV.den, SV.den, updF]
  have hr' : r = .value (.slice (some ⟨w.heap.size, 0, none⟩) 3 3) := by
    rcases hr with rfl | ⟨_, h2⟩
    · rw [hq]
    · rw [hq] at h2
      cases h2
  subst hr'
  have hw : effW f ⟨.lit true, .one (.row 0 0 3 3), [], some (5, [.int .u8 n1, .int .u8 n2, .int .u8 n3])⟩ w = w.alloc (.cells #[.int .u8 n1.val, .int .u8 n2.val, .int .u8 n3.val] 5) := rfl
  rw [hw] at hrun
  unfold Oper.wp
  rw [hrun, Oper.upon_value]
  refine ⟨some ⟨w.heap.size, 0, none⟩, 3, rfl, f, ?_⟩
  rw [h2.2]
  refine h.callOwn (below_alloc w _) (by decide) (o := ⟨5, 1, some ⟨w.heap.size, 0, none⟩, 3, 3, [.int .u8 n1, .int .u8 n2, .int .u8 n3]⟩) ⟨rfl, .inr ⟨w.heap.size, 3, #[.int .u8 n1.val, .int .u8 n2.val, .int .u8 n3.val], rfl, Nat.le_refl _, heap_alloc_at, Nat.le_refl _, by decide, rfl, rfl⟩⟩
noncomputable def tP12 (W : World) : HG := .seq .plain (.seq (.block (.seq .plain (.seq .plain (.seq .plain (.cond (.seq (.cust (runCalls Tryd.prog W G12 100000 44 (opsOf rt12) [⟨4, bld3⟩] 0)) .plain) .plain))))) .plain)
def SP12 (c : Int) (s : ByteArray) (v : Int) : SL := [(0, .one (.int .i64 (.sym c))), (1, .one (.str s)), (6, .one (.int .i64 (.sym v)))]
def ks12 : List (Nat × Bool) := [(0, false), (1, false), (6, true)]
def ke12 : List (Nat × Bool) := [(4, false), (5, false)]
noncomputable def r12 (W : World) (c : Int) (s : ByteArray) (v : Int) : RG := (runG Tryd.prog W G12 100000 44 (tP12 W) lb12 (SP12 c s v) ⟨[], [], 0⟩ []).slim 0 ks12 [] ke12 []
def dq (c v : Int) : List Int := [(ins (c == 2) (w8 v).toNat).getD 0 0, lenF (c == 2) (w8 v).toNat, (ins (c == 2) (w8 v).toNat).getD 2 0, (ins (c == 2) (w8 v).toNat).getD 3 0, (ins (c == 2) (w8 v).toNat).getD 4 0, (ins (c == 2) (w8 v).toNat).getD 5 0, (ins (c == 2) (w8 v).toNat).getD 6 0, (ins (c == 2) (w8 v).toNat).getD 7 0]
def oW (c : Int) (s : ByteArray) (v : Int) : Int × Int × Bool := opR s (lenF (c == 2) (w8 v).toNat)
def hit12 (c : Int) (s : ByteArray) (v : Int) : Bool := bif (oW c s v).2.2 then eqT (txt (tabI (dq c v)).1 (tabI (dq c v)).2 (oW c s v).1 (oW c s v).2.1) s else false
noncomputable def vT (c : Int) (s : ByteArray) (v : Int) : Bool := bif (oW c s v).2.2 then (yes (∃ u, u < 256 ∧ dq c v = ins true u) && (h1 (oW c s v).1 && h1 (oW c s v).2.1)) else true
def vL (c : Int) (s : ByteArray) (v : Int) : Bool := decide (lenF (c == 2) (w8 v).toNat = 1 ∨ lenF (c == 2) (w8 v).toNat = 2 ∨ lenF (c == 2) (w8 v).toNat = 3) && decide (s.size ≤ 1000000)
noncomputable def vNo (c : Int) (s : ByteArray) (v : Int) : Bool := okD v && (vL c s v && vT c s v)
noncomputable def vYe (c : Int) (s : ByteArray) (v : Int) : Bool := okD v && (vL c s v && (vT c s v && (decide (0 ≤ lenF (c == 2) (w8 v).toNat) && decide (lenF (c == 2) (w8 v).toNat ≤ 3))))
def o12 (a : Option Addr) (v x y : Int) : Sx.Own := ⟨5, 1, a, 3, 3, [.int .u8 (.sym v), .int .u8 (.sym x), .int .u8 (.sym y)]⟩
def lf12 (vc : SB) (a : Option Addr) (L v x y : Int) : RG := .leaf .ret vc [(4, .one (.sl (cutA a 3 0 1) L.toNat 3)), (5, .one (.int .i64 (.lit 0)))] ⟨[], [], 0⟩ [o12 a v x y]
theorem r12_eq (W : World) (c : Int) (s : ByteArray) (v : Int) : r12 W c s v = .br (decide (v < 256)) (.br (hit12 c s v) (.any fun a _ => lf12 (.sym (vYe c s v)) a (lenF (c == 2) (w8 v).toNat) (w8 v) (oW c s v).1 (oW c s v).2.1)
   (.leaf .nrm (.sym (vNo c s v)) (SP12 c s (gadd .i64 v 1)) ⟨[], [], 0⟩ [])) (.leaf (.exit 0) (.lit true) [] ⟨[], [], 0⟩ []) := by kernel_rfl
/-! ### The bytes of a number -/
theorem bif_rng {b : Bool} {x y : Int} (hx : 0 ≤ x ∧ x ≤ 15) (hy : 0 ≤ y ∧ y ≤ 15) : 0 ≤ (bif b then x else y) ∧ (bif b then x else y) ≤ 15 := by
  cases b
  · exact hy
  · exact hx
theorem dgV_rng (c : Int) : 0 ≤ dgV c ∧ dgV c ≤ 15 := by
  unfold dgV
  iterate 16 refine bif_rng (by omega) ?_
  omega
theorem nmP_val (p q : UInt8) : (nmP p q).1 = dgV (p.toNat : Int) * 16 + dgV (q.toNat : Int) := by
  have h1 := dgV_rng (p.toNat : Int)
  have h2 := dgV_rng (q.toNat : Int)
  have h := Sx.all_u8 (p := fun n => decide (bits .or .u8 (gshl .u8 (n / 16) 4) (n % 16) = n)) (by kernel_rfl) (x := dgV (p.toNat : Int) * 16 + dgV (q.toNat : Int)) (show 0 ≤ dgV (p.toNat : Int) * 16 + dgV (q.toNat : Int) ∧ dgV (p.toNat : Int) * 16 + dgV (q.toNat : Int) ≤ 255 by omega)
  have h := of_decide_eq_true h
  rw [show (dgV (p.toNat : Int) * 16 + dgV (q.toNat : Int)) / 16 = dgV (p.toNat : Int) by omega, show (dgV (p.toNat : Int) * 16 + dgV (q.toNat : Int)) % 16 = dgV (q.toNat : Int) by omega] at h
  exact h
theorem nmR_rng (s : ByteArray) : 0 ≤ (nmR s).1 ∧ (nmR s).1 ≤ 255 := by
  unfold nmR
  split
  · rename_i p q _
    have h1 := dgV_rng (p.toNat : Int)
    have h2 := dgV_rng (q.toNat : Int)
    rw [nmP_val]
    omega
  · exact ⟨by decide, by decide⟩
theorem h1_of {x : Int} (h : 0 ≤ x ∧ x ≤ 255) : h1 x = true := by
  unfold h1
  rw [decide_eq_true h.1, decide_eq_true h.2]
  rfl
theorem nL_rng (s : ByteArray) : 0 ≤ (nL s).1 ∧ (nL s).1 ≤ 255 := by
  unfold nL
  exact nmR_rng _
theorem nH_rng (s : ByteArray) : 0 ≤ (nH s).1 ∧ (nH s).1 ≤ 255 := by
  unfold nH
  exact nmR_rng _
def Rng (r : Int × Int × Bool) : Prop := (0 ≤ r.1 ∧ r.1 ≤ 255) ∧ (0 ≤ r.2.1 ∧ r.2.1 ≤ 255)
theorem rng_bif {b : Bool} {x y : Int × Int × Bool} (hx : Rng x) (hy : Rng y) : Rng (bif b then x else y) := by
  cases b
  · exact hy
  · exact hx
theorem rng_lit (b : Bool) : Rng (0, 0, b) := ⟨⟨Int.le_refl _, (by omega : (0 : Int) ≤ 255)⟩, Int.le_refl _, (by omega : (0 : Int) ≤ 255)⟩
theorem rng_mk {x y : Int} (b : Bool) (hx : 0 ≤ x ∧ x ≤ 255) (hy : 0 ≤ y ∧ y ≤ 255) : Rng (x, y, b) := ⟨hx, hy⟩
theorem opR_rng (s : ByteArray) (L : Int) : Rng (opR s L) := by
  unfold opR
  exact rng_bif (rng_lit _) (rng_bif (rng_bif (rng_lit _) (rng_mk _ (nmR_rng _) ⟨by omega, by omega⟩)) (rng_bif (rng_lit _) (rng_mk _ (nL_rng s) (nH_rng s))))
theorem nmR_dig {x : Int} (h : 0 ≤ x ∧ x ≤ 255) : nmR (strB [hi4 x, lo4 x]) = (x, true) :=
  of_decide_eq_true (Sx.all_u8 (p := fun x => decide (nmR (strB [hi4 x, lo4 x]) = (x, true))) (by kernel_rfl) h)
theorem tail_list {A B C : List UInt8} {s : ByteArray} (hs : s.data.toList = A ++ (C ++ B)) (hm : s.size ≤ 1000000) {k : Nat} (hk : B.length = k) : (eS s k).data.toList = B := by
  have hl := ba_len s
  rw [hs, List.length_append, List.length_append] at hl
  obtain ⟨e, -⟩ := eS_size (s := s) (k := k) (by omega) hm
  unfold eS
  rw [e, Int.toNat_natCast, ByteArray.data_extract, Array.toList_extract, List.extract_eq_take_drop, hs, ← List.append_assoc, List.drop_append_of_le_length (by rw [List.length_append]; omega), List.drop_of_length_le (by rw [List.length_append]; omega), List.nil_append, List.take_of_length_le (by omega)]
/-! ### The same opcode as the program's -/
theorem opR_one (s : ByteArray) : opR s 1 = (0, 0, true) := rfl
theorem opR_two {s : ByteArray} (h : 2 ≤ s.size) : opR s 2 = ((nmR (eS s 2)).1, 0, (nmR (eS s 2)).2) := by
  show (bif decide ((s.size : Int) < 2) then ((0, 0, false) : Int × Int × Bool) else ((nmR (eS s 2)).1, 0, (nmR (eS s 2)).2)) = _
  rw [decide_eq_false (by omega), cond_false]
theorem opR_three {s : ByteArray} (h : 4 ≤ s.size) : opR s 3 = ((nL s).1, (nH s).1, (nH s).2 && (nL s).2) := by
  show (bif decide ((s.size : Int) < 4) then ((0, 0, false) : Int × Int × Bool) else ((nL s).1, (nH s).1, (nH s).2 && (nL s).2)) = _
  rw [decide_eq_false (by omega), cond_false]
def opT (L : Nat) (x y : Int) : Int × Int × Bool := match L with
  | 1 => (0, 0, true)
  | 2 => (x, 0, true)
  | _ => (x, y, true)
theorem opR_txt {k : Bool} {v : Nat} (hv : v < 256) {x y : Int} (hx : 0 ≤ x ∧ x ≤ 255) (hy : 0 ≤ y ∧ y ≤ 255) : opR (txt (tabK k v).1 (tabK k v).2 x y) ((tabK k v).1 : Int) = opT (tabK k v).1 x y := by
  obtain ⟨hsz, hl⟩ := txt_size (k := k) hv x y
  have hn := ba_len (txt (tabK k v).1 (tabK k v).2 x y)
  generalize txt (tabK k v).1 (tabK k v).2 x y = s at *
  rcases lens k v hv with h | h | h
  · rw [h]
    rfl
  · rw [h] at hl ⊢
    have e : s.data.toList = bsL (nats (tabK k v).2) ++ (bsL [48, 120] ++ bsL [hi4 x, lo4 x]) := hl
    have h2 : (eS s 2).data.toList = bsL [hi4 x, lo4 x] := tail_list (k := 2) e (by omega) rfl
    have h3 : eS s 2 = strB [hi4 x, lo4 x] := ba_eq (by rw [h2, strB_list])
    have h4 : 2 ≤ s.size := by
      rw [← hn, e, List.length_append, List.length_append]
      show 2 ≤ _ + (2 + 2)
      omega
    show opR s 2 = (x, 0, true)
    rw [opR_two h4, h3, nmR_dig hx]
  · rw [h] at hl ⊢
    have e : s.data.toList = bsL (nats (tabK k v).2) ++ (bsL [48, 120] ++ bsL [hi4 y, lo4 y, hi4 x, lo4 x]) := hl
    have h2 : (eS s 4).data.toList = bsL [hi4 y, lo4 y, hi4 x, lo4 x] := tail_list (k := 4) e (by omega) rfl
    have h3 : eS s 4 = strB [hi4 y, lo4 y, hi4 x, lo4 x] := ba_eq (by rw [h2, strB_list])
    have h4 : 4 ≤ s.size := by
      rw [← hn, e, List.length_append, List.length_append]
      show 4 ≤ _ + (2 + 4)
      omega
    have h5 : nH s = (y, true) := by
      unfold nH
      rw [h3, ← nmR_dig hy]
      congr 1
    have h6 : nL s = (x, true) := by
      unfold nL
      rw [h3, ← nmR_dig hx]
      congr 1
    show opR s 3 = (x, y, true)
    rw [opR_three h4, h5, h6]
    rfl
def hitB (k : Bool) (s : ByteArray) (v : Nat) : Bool := bif (opR s ((tabK k v).1 : Int)).2.2 then eqT (txt (tabK k v).1 (tabK k v).2 (opR s ((tabK k v).1 : Int)).1 (opR s ((tabK k v).1 : Int)).2.1) s else false
theorem hit_same {k : Bool} {s : ByteArray} {v : Nat} (hv : v < 256) : hit k s (lastS s) v = bif hitB k s v then some (tk v (opR s ((tabK k v).1 : Int)).1 (opR s ((tabK k v).1 : Int)).2.1 (tabK k v).1) else none := by
  have hr := opR_rng s ((tabK k v).1 : Int)
  cases hb : hitB k s v with
  | true =>
    unfold hitB at hb
    cases ho : (opR s ((tabK k v).1 : Int)).2.2 with
    | false => rw [ho] at hb; cases hb
    | true =>
      rw [ho, cond_true] at hb
      exact hit_of hv hr.1 hr.2 (eqT_iff.1 hb).symm
  | false =>
    cases hz : hit k s (lastS s) v with
    | none => rfl
    | some l =>
      obtain ⟨x, y, hx, hy, hs, _⟩ := hit_some hv hz
      have ho := opR_txt (k := k) hv hx hy
      rw [← hs] at ho
      have : hitB k s v = true := by
        unfold hitB
        rw [ho]
        rcases lens k v hv with h | h | h
        · rw [h] at hs ⊢
          exact eqT_iff.2 (by rw [hs]; exact txt_one _ _ _ _ _)
        · rw [h] at hs ⊢
          exact eqT_iff.2 (by rw [hs]; exact txt_two _ _ _ _)
        · rw [h] at hs ⊢
          exact eqT_iff.2 hs.symm
      rw [this] at hb
      cases hb
/-- The first of the last n opcodes that fits. -/
def scanR (k : Bool) (s : ByteArray) : Nat → Option Nat
  | 0 => none
  | n + 1 => bif hitB k s (255 - n) then some (255 - n) else scanR k s n
theorem scanR_step {k : Bool} {s : ByteArray} {v : Nat} (hv : v < 256) : scanR k s (256 - v) = bif hitB k s v then some v else scanR k s (256 - (v + 1)) := by
  have e : 256 - v = (255 - v) + 1 := by omega
  rw [e]
  show (bif hitB k s (255 - (255 - v)) then some (255 - (255 - v)) else scanR k s (255 - v)) = _
  rw [show 255 - (255 - v) = v by omega, show 256 - (v + 1) = 255 - v by omega]
def lstR (k : Bool) (s : ByteArray) (u : Nat) : List Int := tk u (opR s ((tabK k u).1 : Int)).1 (opR s ((tabK k u).1 : Int)).2.1 (tabK k u).1
theorem scan_same {k : Bool} {s : ByteArray} : ∀ n, n ≤ 256 → scan k s (lastS s) n = (scanR k s n).map (lstR k s)
  | 0, _ => rfl
  | n + 1, hn => by
    unfold scan scanR
    rw [hit_same (by omega)]
    cases hitB k s (255 - n)
    · exact scan_same n (by omega)
    · rfl
theorem scanR_lt {k : Bool} {s : ByteArray} {u : Nat} : ∀ {n : Nat}, n ≤ 256 → scanR k s n = some u → u < 256
  | 0, _, h => by cases h
  | n + 1, hn, h => by
    unfold scanR at h
    cases hb : hitB k s (255 - n)
    · rw [hb, cond_false] at h
      exact scanR_lt (by omega) h
    · rw [hb, cond_true, Option.some.injEq] at h
      omega
/-! ### The loop -/
theorem dq_ins (c : Int) {v : Nat} (hv : v < 256) : dq c (v : Int) = ins (c == 2) v := by
  unfold dq
  rw [w8_nat hv, Int.toNat_natCast]
  have h := ins_list (c == 2) v hv
  have hinj : ∀ {l m : List Int}, l.map (Value.int .i64) = m.map (Value.int .i64) → l = m := by
    intro l m h
    exact List.map_inj_right (fun a b h => by injection h) |>.1 h
  exact (hinj h).symm
def End12 (c : Int) (s : ByteArray) (z : Option Nat) : RG := match z with
  | some u => .any fun a _ => lf12 (.lit true) a (lenF (c == 2) u) u (oW c s u).1 (oW c s u).2.1
  | none => .leaf (.exit 0) (.lit true) [] ⟨[], [], 0⟩ []
structure Inv12 (c : Int) (s : ByteArray) (v : Nat) : Prop where
  le : v ≤ 256
  big : s.size ≤ 1000000
  sc : scanR (c == 2) s (256 - v) = scanR (c == 2) s 256
theorem oW_nat {c : Int} {s : ByteArray} {v : Nat} (hv : v < 256) : oW c s (v : Int) = opR s ((tabK (c == 2) v).1 : Int) := by
  unfold oW
  rw [w8_nat hv, Int.toNat_natCast, len_tab _ _ hv]
theorem hit12_nat {c : Int} {s : ByteArray} {v : Nat} (hv : v < 256) : hit12 c s (v : Int) = hitB (c == 2) s v := by
  unfold hit12 hitB
  rw [oW_nat hv, dq_ins c hv, tabI_ins _ hv]
theorem vL_ok {c : Int} {s : ByteArray} {v : Nat} (hv : v < 256) (hs : s.size ≤ 1000000) : vL c s (v : Int) = true := by
  unfold vL
  rw [w8_nat hv, Int.toNat_natCast, decide_eq_true (len_cases _ _ hv), decide_eq_true hs]
  rfl
theorem vT_ok {c : Int} {s : ByteArray} {v : Nat} (hv : v < 256) : vT c s (v : Int) = true := by
  unfold vT
  have hr := opR_rng s ((tabK (c == 2) v).1 : Int)
  obtain ⟨v', hv', he⟩ := ins_true (c == 2) hv
  rw [oW_nat hv, yes_of ⟨v', hv', (dq_ins c hv).trans he⟩, h1_of hr.1, h1_of hr.2]
  cases (opR s ((tabK (c == 2) v).1 : Int)).2.2 <;> rfl
theorem step12 (W : World) (c : Int) (s : ByteArray) : StepOk (W : Bs) Tryd.prog G12 100000 44 (tP12 W) lb12 0 ks12 [] ke12 [] (Inv12 c s) (fun v => 256 - v) (fun v => SP12 c s (v : Int)) (fun _ => []) (fun _ => []) (End12 c s (scanR (c == 2) s 256)) := by
  constructor
  intro v h
  have hr := r12_eq W c s (v : Int)
  unfold r12 at hr
  rw [show (Bs.of W).W = W from rfl, hr]
  obtain ⟨hle, hbig, hsc⟩ := h
  constructor
  · intro hv
    have hv : v < 256 := by have := of_decide_eq_true hv; omega
    have hs := scanR_step (k := c == 2) (s := s) hv
    rw [hit12_nat hv]
    constructor
    · intro he
      rw [he, cond_true, hsc] at hs
      intro a k
      have hL := len_cases (c == 2) v hv
      have hvc : (SB.sym (vYe c s (v : Int))).val = true := by
        rw [SB.val_sym]
        unfold vYe
        rw [okD_nat hv, vL_ok hv hbig, vT_ok hv, w8_nat hv, Int.toNat_natCast, decide_eq_true (show 0 ≤ lenF (c == 2) v by omega), decide_eq_true (show lenF (c == 2) v ≤ 3 by omega)]
        rfl
      refine ⟨hvc, .inr ⟨by simp, fun f a' w hst e' he' => ?_⟩⟩
      rw [hs]
      rw [w8_nat hv, Int.toNat_natCast] at hst
      exact ⟨a, 0, he', f, hst⟩
    · intro he
      rw [he, cond_false] at hs
      have hvc : (SB.sym (vNo c s (v : Int))).val = true := by
        rw [SB.val_sym]
        unfold vNo
        rw [okD_nat hv, vL_ok hv hbig, vT_ok hv]
        rfl
      refine ⟨hvc, .inl ⟨rfl, v + 1, ⟨by omega, hbig, by rw [← hsc, hs]⟩, by omega, ?_, rfl, rfl⟩⟩
      have e : gadd .i64 (v : Int) 1 = ((v + 1 : Nat) : Int) := by
        unfold gadd
        rw [IntKind.wrap_i64]
        omega
      rw [e]
  · intro hv
    have hv := of_decide_eq_false hv
    refine ⟨rfl, .inr ⟨by simp, fun f a w hst e' he' => ?_⟩⟩
    rw [show 256 - v = 0 by omega] at hsc
    rw [← hsc]
    exact ⟨he', f, hst⟩
noncomputable def h12 (b : Bool) (c : Int) (s : ByteArray) (z : Option Nat) : LG := .at_ b ks12 [] 0 (SP12 c s 0) [] [] (End12 c s z)
theorem tP12_ok (W : World) : HGOk (W : Bs) Tryd.prog 44 (tP12 W) lb12 := by
  have e : HGOk (W : Bs) Tryd.prog 44 (tP12 W) lb12 = (True ∧ (True ∧ True ∧ True ∧ ((CustOk (W : Bs) Tryd.prog 44 rt12 (runCalls Tryd.prog W G12 100000 44 (opsOf rt12) [⟨4, bld3⟩] 0) ∧ True) ∧ True)) ∧ True) := by kernel_rfl
  rw [e]
  refine ⟨trivial, ⟨trivial, trivial, trivial, ⟨⟨?_, trivial⟩, trivial⟩⟩, trivial⟩
  have := calls_cust (W := (W : Bs)) (P := Tryd.prog) (G := G12) (N := 100000) (nt := 44) (id := idC rt12) (g12_ok W) (ops := opsOf rt12) (l := [⟨4, bld3⟩]) (by intro d hd; rw [List.mem_singleton] at hd; rw [hd]; exact bld3_call) (by simp)
  have hr : rt12 = .region (idC rt12) (opsC rt12) false := by kernel_rfl
  rw [opsOf_opsC, ← hr] at this
  rw [opsOf_opsC]
  exact this
theorem loop12 {W : World} (c : Int) {s : ByteArray} (hs : s.size ≤ 1000000) : LoopGOk (W : Bs) Tryd.prog 44 lb12 (h12 true c s (scanR (c == 2) s 256)) := by
  refine loopG_step (t := tP12 W) (g12_ok W) (tP12_ok W) rfl rfl (step12 W c s) ?_
  intro _
  exact ⟨0, ⟨by omega, hs, rfl⟩, rfl, rfl, .inl rfl⟩
noncomputable def t12 (c : Int) (s : ByteArray) (z : Option Nat) : HG := .seq .plain (.seq (.seq .plain (.block (.loop (h12 true c s z)))) .plain)
noncomputable def x12 (W : World) (c : Int) (s : ByteArray) (z : Option Nat) : RG := (runG Tryd.prog W G12 100000 44 (t12 c s z) (bodyOf Tryd.f12) (argSlots 0 [.one (.int .i64 (.sym c)), .one (.str s)]) noMem []).slim 0 [] [] ke12 []
noncomputable def v12 (c : Int) (s : ByteArray) : Bool := true && (sameS (SP12 c s 0) (SP12 c s 0) && (sameB [] [] && @decide (([] : Gh) = []) (Classical.propDecidable _)))
theorem x12_no (W : World) (c : Int) (s : ByteArray) : x12 W c s none = .leaf .ret (.sym (v12 c s)) [(4, .one (.sl none 0 0)), (5, .one (.int .i64 (.lit 2)))] ⟨[], [], 0⟩ [] := by kernel_rfl
theorem x12_yes (W : World) (c : Int) (s : ByteArray) (u : Nat) : x12 W c s (some u) = .any fun a _ => lf12 (.sym (v12 c s)) a (lenF (c == 2) u) u (oW c s u).1 (oW c s u).2.1 := by kernel_rfl
theorem own_cut {w : World} {B : Nat} {a : Option Addr} {xs : List Value} (h : w.ownsRow B 5 1 (.slice a 3 3) 3 xs) : cutA a 3 0 1 = a := by
  obtain ⟨h1, ⟨h2, h3⟩ | ⟨b, cap, cur, h3, _⟩⟩ := h
  · cases h3
  · injection h3 with h4 _ _
    subst h4
    rfl
/-- Parse (the document): the same bytes, and where they lie. -/
theorem par12 {W : World} (c : Int) {s : ByteArray} (hs : s.size ≤ 1000000) : Calls Tryd.prog 12 #[.int .i64 c, .string s] W fun en w' => Below W.heap.size W w' ∧ match scanR (c == 2) s 256 with
    | some u => ∃ a, en = .returned (.tuple #[.slice a (tabK (c == 2) u).1 3, .int .i64 0]) ∧ w'.ownsRow W.heap.size 5 1 (.slice a 3 3) 3 ((zs [(u : Int), (opR s ((tabK (c == 2) u).1 : Int)).1, (opR s ((tabK (c == 2) u).1 : Int)).2.1]).map den0)
    | none => en = .returned (.tuple #[.slice none 0 0, .int .i64 2]) := by
  have hv : (SB.sym (v12 c s)).val = true := by
    rw [SB.val_sym]
    unfold v12
    rw [sameS_refl (by rfl), sameB_refl (by rfl), @decide_eq_true _ (Classical.propDecidable _) rfl]
    rfl
  have hcalls := calls_of_runG (g12_ok W) (n := 100000) (g := 12) Tryd.func12 (show Tryd.f12.body = some (bodyOf Tryd.f12) by kernel_rfl) (t := t12 c s (scanR (c == 2) s 256)) (args := [.one (.int .i64 (.sym c)), .one (.str s)]) ?_ (by rw [show Tryd.f12.ntmps = 44 by kernel_rfl]; simp)
    (R := fun v g => match scanR (c == 2) s 256 with
      | some u => ∃ a, v = .tup [(false, [.sl (cutA a 3 0 1) (lenF (c == 2) u).toNat 3]), (false, [.int .i64 (.lit 0)])] ∧ g = [o12 a u (oW c s u).1 (oW c s u).2.1]
      | none => v = .tup [(false, [.sl none 0 0]), (false, [.int .i64 (.lit 2)])]) (N := 0) (ks := []) (bs := []) (ke := ke12) (be := []) rfl rfl ?_
  · refine hcalls.mono ?_
    rintro en w' ⟨v, g, f, hR, rfl, hown, hb⟩
    refine ⟨hb, ?_⟩
    cases hz : scanR (c == 2) s 256 with
    | none =>
      rw [hz] at hR
      subst hR
      rfl
    | some u =>
      rw [hz] at hR
      obtain ⟨a, rfl, rfl⟩ := hR
      have hu := scanR_lt (Nat.le_refl _) hz
      have ho := hown 0 _ rfl
      have ho : w'.ownsRow W.heap.size 5 1 (.slice a 3 3) 3 ((zs [(u : Int), (opR s ((tabK (c == 2) u).1 : Int)).1, (opR s ((tabK (c == 2) u).1 : Int)).2.1]).map den0) := by
        rw [← oW_nat (c := c) (s := s) hu]
        exact ho
      refine ⟨a, ?_, ho⟩
      rw [own_cut ho, len_tab _ _ hu, Int.toNat_natCast]
      rfl
  · have e : HGOk (W : Bs) Tryd.prog Tryd.f12.ntmps (t12 c s (scanR (c == 2) s 256)) (bodyOf Tryd.f12) = (True ∧ (True ∧ LoopGOk (W : Bs) Tryd.prog 44 lb12 (h12 true c s (scanR (c == 2) s 256))) ∧ True) := by kernel_rfl
    rw [e]
    exact ⟨trivial, ⟨trivial, loop12 c hs⟩, trivial⟩
  · rw [show Tryd.f12.ntmps = 44 by kernel_rfl]
    show (x12 W c s (scanR (c == 2) s 256)).All _
    cases hz : scanR (c == 2) s 256 with
    | none =>
      rw [x12_no]
      exact ⟨hv, .inr rfl, [(false, [.sl none 0 0]), (false, [.int .i64 (.lit 2)])], _, by kernel_rfl, rfl, rfl⟩
    | some u =>
      rw [x12_yes]
      intro a _
      exact ⟨hv, .inr rfl, [(false, [.sl (cutA a 3 0 1) (lenF (c == 2) u).toNat 3]), (false, [.int .i64 (.lit 0)])], _, by kernel_rfl, rfl, a, rfl, rfl⟩
end Go.Proofs.YtdglgiaegjkinaaDoor
