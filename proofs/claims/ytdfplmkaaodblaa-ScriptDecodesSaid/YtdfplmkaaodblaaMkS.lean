/- Rows that the code makes; comparisons that are known to hold. -/
import Derived.Test.YtdfplmkaaodblaaOwnC
import Derived.Laws.MakeOwn
namespace Go.Proofs.Ytdfplmkaaodblaa.dc
open Go Go.Sx Go.RowKit
set_option maxRecDepth 100000
/-- A row of zeros that the code makes. -/
theorem made_own {w : World} {B e size : Nat} {z : Array Value} (hz : z.size = size) (hB : B ≤ w.heap.size) {n : Nat} (hn : n ≤ maxLen) {xs : List Value} (hl : xs.length = n * size) (hx : ∀ j, j < n * size → xs[j]? = some z[j % size]!) :
    (w.alloc (.cells (madeCells z (n * size)) e)).ownsRow B e size (.slice (some ⟨w.heap.size, 0, none⟩) n n) n xs := by
  refine ⟨hl, .inr ⟨w.heap.size, n, madeCells z (n * size), rfl, hB, ?_, Nat.le_refl _, hn, size_madeCells _ _, ?_⟩⟩
  · show (w.heap.push _)[w.heap.size]? = _
    rw [Array.getElem?_push_size]
  · rw [List.take_of_length_le (by simp [size_madeCells])]
    refine List.ext_getElem? fun j => ?_
    by_cases hj : j < n * size
    · rw [hx j hj]
      simp [madeCells, hj, hz]
    · rw [List.getElem?_eq_none (by simp [size_madeCells]; omega), List.getElem?_eq_none (by omega)]
theorem alloc_below (w : World) (o : Obj) : Below w.heap.size w (w.alloc o) := by
  refine ⟨rfl, rfl, rfl, ?_, fun k hk => ?_⟩
  · show w.heap.size ≤ (w.heap.push o).size
    rw [Array.size_push]
    omega
  · show (w.heap.push o)[k]? = _
    rw [Array.getElem?_push, if_neg (by omega)]
def mk (e size : Nat) (cells : Nat → List SV) (x d : Nat) (s : SL) (m : Mem) (g : Gh) : RG := match Go.Sx.look s x with
  | some (.one (.int .i64 v)) => .any fun a' c' => .leaf .nrm (.sym (decide (0 ≤ v.val) && decide (v.val ≤ 1000000))) (putS (some d) (.one (.sl a' v.val.toNat c')) s) m (g ++ [⟨e, size, a', v.val.toNat, c', cells v.val.toNat⟩])
  | _ => .fail
theorem mk_ok {W : Bs} {nt x d t e size : Nat} {o : Oper} {i : TypeInfo} {z : Value} {cells : Nat → List SV} (hdst : o.dst = some d) (hop : o.op = .makeSlice t (.tmp x) (.tmp x)) (hd : d < nt) (ht : Try.prog.underlying t = some (.slice e)) (hi : Try.prog.info? e = some i) (hz : i.zero = some z)
    (hsz : i.size = size) (hby : i.bytes ≤ 1000) (hzs : z.cells.size = size) (hcl : ∀ n, (cells n).length = n * size) (hc : ∀ n j, j < n * size → ((cells n).map den0)[j]? = some z.cells[j % size]!) : CallOk W Try.prog nt o (mk e size cells x d) := by
  intro s m g f a w Q hgood h
  unfold mk at hgood ⊢
  split at hgood <;> try exact hgood.elim
  rename_i v hx
  have h0 := hgood none 0
  simp only [RG.Good, SB.val_sym, Bool.and_eq_true, decide_eq_true_eq] at h0
  have hxv : a.eval (.tmp x) = .int .i64 v.val := h.slots x _ hx (by simp)
  have hb : (i.bytes : Int) * v.val ≤ 281474976710656 := by
    have h1 : (i.bytes : Int) * v.val ≤ 1000 * 1000000 := Int.mul_le_mul (by omega) h0.2 h0.1 (by decide)
    omega
  have hrun := run_make (P := Try.prog) w t e i z ht hi hz .i64 .i64 v.val v.val h0.1 (Int.le_refl _) hb (by omega)
  unfold Oper.wp
  simp only [execOp, hop, hxv, Sem.run_bind, hrun, Result.andThen_ok, Sem.run_pure, Oper.upon_value]
  have hm : maxLen = 9223372036854775807 := by decide
  refine ⟨some ⟨w.heap.size, 0, none⟩, v.val.toNat, rfl, f, ?_⟩
  rw [hdst, hsz]
  exact h.callOwn (alloc_below w _) hd (o := ⟨e, size, some ⟨w.heap.size, 0, none⟩, v.val.toNat, v.val.toNat, cells v.val.toNat⟩) (made_own hzs (Nat.le_refl _) (by omega) ((List.length_map _).trans (hcl _)) (fun j hj => hc _ j hj))
/-- A comparison that is known to hold. -/
def eqT (x y d : Nat) (s : SL) (m : Mem) (g : Gh) : RG := match Go.Sx.look s x, Go.Sx.look s y with
  | some (.one (.int .i64 u)), some (.one (.int .i64 v)) => .leaf .nrm (.sym (u.val == v.val)) (putS (some d) (.one (.bool (.lit true))) s) m g
  | _, _ => .fail
theorem eqT_ok {W : Bs} {nt x y d : Nat} {o : Oper} (hdst : o.dst = some d) (hop : o.op = .binOp .eql 3 (.tmp x) (.tmp y) 3) (hd : d < nt) : CallOk W Try.prog nt o (eqT x y d) := by
  intro s m g f a w Q hgood h
  unfold eqT at hgood ⊢
  split at hgood <;> try exact hgood.elim
  rename_i u v hx hy
  have hb : (SB.sym (u.val == v.val)).val = true := hgood
  have hp : (prim Try.prog W.W o 0 (Go.Sx.look s) (fun _ _ => none) (fun _ => none)).get = some ⟨.lit true, .one (.bool (SI.cmp (fun x y => x == y) u v)), [], none⟩ := by
    simp only [prim, hop, evalO, hx, hy]
    rfl
  obtain ⟨r, q, hrun, hr, hval, _, _⟩ := prim_binOp (w := w) (f := f) (nid := 0) (a := a) hop hp rfl h.slots
  have hbv : (SI.cmp (fun x y => x == y) u v).val = true := by
    rw [← hb]
    cases u <;> cases v <;> rfl
  have hq : q = .bool true := by
    rcases hval with hval | hval
    · cases hval
    · rw [hval]
      show Value.bool _ = _
      rw [hbv]
  have he : effW f ⟨.lit true, .one (.bool (SI.cmp (fun x y => x == y) u v)), [], none⟩ w = w := rfl
  rw [he] at hrun
  have hr' : r = .value (.bool true) := by
    rcases hr with rfl | ⟨_, h2⟩
    · rw [hq]
    · rw [hq] at h2
      cases h2
  subst hr'
  unfold Oper.wp
  rw [hrun, Oper.upon_value]
  refine ⟨rfl, f, ?_⟩
  rw [hdst]
  exact h.call (.refl _ _) hd (v := .one (.bool (.lit true))) rfl
def zeroE : Ent := ⟨false, false, false, false, false, false, false, false, 0, 0⟩
def zerosE (n : Nat) : List SV := ents (List.replicate n zeroE)
def zerosB (n : Nat) : List SV := bys (List.replicate n 0)
theorem zerosE_length (n : Nat) : (zerosE n).length = n * 10 := by rw [zerosE, ents_length, List.length_replicate, Nat.mul_comm]
theorem zerosB_length (n : Nat) : (zerosB n).length = n * 1 := by rw [zerosB, bys, List.length_map, List.length_replicate, Nat.mul_one]
noncomputable def zv (t : TypeId) : Value := match Try.prog.info? t with
  | some i => (match i.zero with | some z => z | none => .bool false)
  | none => .bool false
theorem inf5 : (Try.prog.info? 5).map (fun i => (i.zero, i.size, i.bytes)) = some (some (zv 5), 1, 1) := by kernel_rfl
theorem inf32 : (Try.prog.info? 32).map (fun i => (i.zero, i.size, i.bytes)) = some (some (zv 32), 10, 10) := by kernel_rfl
theorem zc5 : (zv 5).cells = #[.int .u8 0] := by kernel_rfl
theorem zc32 : (zv 32).cells = #[.bool false, .bool false, .bool false, .bool false, .bool false, .bool false, .bool false, .bool false, .int .u8 0, .int .u8 0] := by kernel_rfl
theorem u29 : Try.prog.underlying 29 = some (.slice 32) := by kernel_rfl
theorem zerosB_get (n j : Nat) (hj : j < n * 1) : ((zerosB n).map den0)[j]? = some (zv 5).cells[j % 1]! := by
  rw [zc5, Nat.mod_one, zerosB, bys, List.map_map, List.getElem?_map, List.getElem?_replicate, if_pos (by omega)]
  rfl
theorem zerosE_get (n j : Nat) (hj : j < n * 10) : ((zerosE n).map den0)[j]? = some (zv 32).cells[j % 10]! := by
  obtain ⟨k, i, hk, rfl, hi⟩ : ∃ k i, k < n ∧ j = 10 * k + i ∧ i < 10 := ⟨j / 10, j % 10, by omega, by omega, by omega⟩
  have hr : (List.replicate n zeroE)[k]? = some zeroE := by rw [List.getElem?_replicate, if_pos hk]
  rw [zc32, zerosE, List.getElem?_map, ents_get hr hi, show (10 * k + i) % 10 = i by omega]
  rcases i with _ | _ | _ | _ | _ | _ | _ | _ | _ | _ | i <;> first | rfl | omega
theorem mkB_ok {W : Bs} {nt x d : Nat} {o : Oper} (hdst : o.dst = some d) (hop : o.op = .makeSlice 22 (.tmp x) (.tmp x)) (hd : d < nt) : CallOk W Try.prog nt o (mk 5 1 zerosB x d) := by
  obtain ⟨i, hi, hz, hs, hb⟩ := info_parts inf5
  exact mk_ok hdst hop hd u22 hi hz hs (by omega) (by rw [zc5]; rfl) zerosB_length zerosB_get
theorem mkE_ok {W : Bs} {nt x d : Nat} {o : Oper} (hdst : o.dst = some d) (hop : o.op = .makeSlice 29 (.tmp x) (.tmp x)) (hd : d < nt) : CallOk W Try.prog nt o (mk 32 10 zerosE x d) := by
  obtain ⟨i, hi, hz, hs, hb⟩ := info_parts inf32
  exact mk_ok hdst hop hd u29 hi hz hs (by omega) (by rw [zc32]; rfl) zerosE_length zerosE_get
theorem named12 : Named 12 := ⟨Try.f12, Try.func12, by kernel_rfl, by kernel_rfl⟩
theorem named13 : Named 13 := ⟨Try.f13, Try.func13, by kernel_rfl, by kernel_rfl⟩
theorem named17 : Named 17 := ⟨Try.f17, Try.func17, by kernel_rfl, by kernel_rfl⟩
theorem named18 : Named 18 := ⟨Try.f18, Try.func18, by kernel_rfl, by kernel_rfl⟩
theorem decOk12 : DecOk 12 := fun hr _ => dec12 hr
theorem decOk13 : DecOk 13 := fun hr hn => dec13 hr hn
def o0 : Oper := { dst := none, op := .assign (.tmp 0), type := 0, pos := "", after := #[], guard := none }
noncomputable def opAt (ops : Array Oper) (k : Nat) : Oper := match ops.toList[k]? with
  | some o => o
  | none => o0
end Go.Proofs.Ytdfplmkaaodblaa.dc
