/- listing.value: the bytes of a number in hexadecimal notation. -/
import Derived.Test.YtdglgiaegjkinaaDoorSpc
import Derived.Test.YtdglgiaegjkinaaDoorGapF
import Derived.Laws.MakeOwn
namespace Go.Proofs.YtdglgiaegjkinaaDoor
open Go Go.Sx Go.RowKit
set_option maxRecDepth 100000
def cutS (s p : ByteArray) : ByteArray := ⟨(Lib.trimPrefix s.data.toList p.data.toList).toArray⟩
def hasP (s p : ByteArray) : Bool := Lib.hasPrefix s.data.toList p.data.toList
def F51 : List TV → Option (SB × TV)
  | [.one (.str s), .one (.str p)] => some (.lit true, .tup [(false, [.str (cutS s p)]), (false, [.bool (.sym (hasP s p))])])
  | _ => none
theorem s51 (W : World) : SpecOk W Tryd.prog 51 (specV F51) := by
  refine spec_of ⟨Tryd.f51, Tryd.func51, by kernel_rfl, by kernel_rfl⟩ ?_
  intro args c v f w hF hc hW
  unfold F51 at hF
  split at hF
  · simp only [Option.some.injEq, Prod.mk.injEq] at hF
    obtain ⟨rfl, rfl⟩ := hF
    refine ⟨nofun, (Tryd.strings_CutPrefix _ _ w).mono ?_⟩
    rintro en w' ⟨rfl, rfl⟩
    exact ⟨rfl, Below.refl _ _⟩
  · cases hF
def ixB (s : ByteArray) (x : Int) : Int := Lib.indexByte s.data.toList x.toNat.toUInt8
def F52 : List TV → Option (SB × TV)
  | [.one (.str s), .one (.int .u8 x)] => some (.lit true, .one (.int .i64 (.sym (ixB s x.val))))
  | _ => none
theorem s52 (W : World) : SpecOk W Tryd.prog 52 (specV F52) := by
  refine spec_of ⟨Tryd.f52, Tryd.func52, by kernel_rfl, by kernel_rfl⟩ ?_
  intro args c v f w hF hc hW
  unfold F52 at hF
  split at hF
  · simp only [Option.some.injEq, Prod.mk.injEq] at hF
    obtain ⟨rfl, rfl⟩ := hF
    refine ⟨nofun, (Tryd.strings_IndexByte _ _ w).mono ?_⟩
    rintro en w' ⟨rfl, rfl⟩
    exact ⟨rfl, Below.refl _ _⟩
  · cases hF
noncomputable def G23 : List (Nat × Sx.Spec) := [(51, specV F51), (52, specV F52)]
theorem g23_ok (W : World) : GOk W Tryd.prog G23 := gok_cons (s51 W) (gok_cons (s52 W) (gok_nil W))
/-- 'make([]byte, n)' of a known length. -/
def mkB (x d : Nat) (s : SL) (m : Mem) (g : Gh) : RG := match Sx.look s x with
  | some (.one (.int .i64 (.lit (Int.ofNat n)))) => match Nat.ble n 1000 && (ltS m.next s && ltM m.next m) with
    | true => .leaf .nrm (.lit true) (putS (some d) (.one (.row m.next 0 n n)) s) ⟨m.cells, (m.next, ⟨5, List.replicate n (.int .u8 (.lit 0)), true⟩) :: m.blks, m.next + 1⟩ g
    | false => .fail
  | _ => .fail
noncomputable def zv5 : Value := match Tryd.prog.info? 5 with
  | some i => (match i.zero with | some z => z | none => .bool false)
  | none => .bool false
theorem inf5 : (Tryd.prog.info? 5).map (fun i => (i.zero, i.size, i.bytes)) = some (some zv5, 1, 1) := by kernel_rfl
theorem zc5 : zv5.cells = #[.int .u8 0] := by kernel_rfl
theorem u22 : Tryd.prog.underlying 22 = some (.slice 5) := by kernel_rfl
theorem allB_rep {α : Type} {p : α → Bool} {x : α} : ∀ (n : Nat), p x = true → allB p (List.replicate n x) = true
  | 0, _ => rfl
  | n + 1, h => by rw [List.replicate_succ]; simp only [allB, h]; exact allB_rep n h
theorem mkB_ok {W : Bs} {nt x d : Nat} {o : Oper} (hdst : o.dst = some d) (hop : o.op = .makeSlice 22 (.tmp x) (.tmp x)) (hd : d < nt) : CallOk W Tryd.prog nt o (mkB x d) := by
  intro s m g f a w Q hgood h
  unfold mkB at hgood ⊢
  split at hgood <;> try exact hgood.elim
  rename_i n hx
  split at hgood <;> try exact hgood.elim
  rename_i hc
  rw [Bool.and_eq_true, Bool.and_eq_true, Nat.ble_eq] at hc
  obtain ⟨hn, hs, hm⟩ := hc
  have hxv : a.eval (.tmp x) = .int .i64 (n : Int) := h.slots x _ hx (by simp)
  have hi := inf5
  cases hinf : Tryd.prog.info? 5 with
  | none => rw [hinf] at hi; cases hi
  | some i =>
    rw [hinf] at hi
    simp only [Option.map_some, Option.some.injEq, Prod.mk.injEq] at hi
    obtain ⟨hz, hsz, hby⟩ := hi
    have hrun := run_make (P := Tryd.prog) w 22 5 i zv5 u22 hinf hz .i64 .i64 (n : Int) (n : Int) (by omega) (Int.le_refl _) (by rw [hby]; omega) (by omega)
    unfold Oper.wp
    simp only [execOp, hop, hxv, Sem.run_bind, hrun, Result.andThen_ok, Sem.run_pure, Oper.upon_value, Int.toNat_natCast]
    have hmc : madeCells zv5.cells (n * i.size) = dens f (List.replicate n (.int .u8 (.lit 0))) := by
      rw [zc5, hsz, Nat.mul_one]
      apply Array.ext
      · rw [size_madeCells]
        simp [dens]
      · intro j h1 h2
        simp [madeCells, dens, Nat.mod_one, SV.den, SI.val]
    rw [hmc]
    refine ⟨rfl, (fun k => if k = m.next then w.heap.size else f k), ?_⟩
    rw [hdst]
    refine h.laid (laid_alloc w _ _) hs hm ?_ hd ?_
    · exact allB_rep n rfl
    · simp [TV.den, SV.den]
noncomputable def body23 : Code := match Tryd.f23.body with
  | some c => c
  | none => .skip
noncomputable def ops23 : Array Oper := match body23 with
  | .seq _ (.seq _ (.seq _ (.seq (.region _ ops _) _))) => ops
  | _ => #[]
noncomputable def id23 : Nat := match body23 with
  | .seq _ (.seq _ (.seq _ (.seq (.region i _ _) _))) => i
  | _ => 0
noncomputable def t23 (W : World) : HG := .seq .plain (.seq .plain (.seq .plain (.seq (.cust (runCalls Tryd.prog W G23 100000 63 ops23 [⟨1, mkB 26 27⟩] 0)) .plain)))
noncomputable def r23 (W : World) (s : ByteArray) (n : Int) : RG := runG Tryd.prog W G23 100000 63 (t23 W) body23 (argSlots 0 [.one (.str s), .one (.int .i64 (.lit n))]) noMem []
def nib (s : ByteArray) (k : Int) : Int := ixB digs (byteAt s k)
def byt2 (h l : Int) : Int := IntKind.u8.wrap (bits .or .i64 (gshl .i64 h 4) l)
def c1 (s : ByteArray) (n : Int) : Bool := bif !(hasP s hx0) then true else !(decide (((cutS s hx0).size : Int) = 2 * n))
def lt0 (x : Int) : Bool := decide (x < 0)
def c2 (d : ByteArray) (k : Int) : Bool := bif lt0 (nib d (2 * k)) then true else lt0 (nib d (2 * k + 1))
def TT : SB := .lit true
def L0 (d : ByteArray) (k : Int) : SB := (SB.lit (inStr d k)).and TT
def X0 (d : ByteArray) (k : Int) : SB := (L0 d (2 * k)).and ((L0 d (2 * k + 1)).and TT)
def bz (d : ByteArray) (k : Int) : SV := .int .u8 (.sym (byt2 (nib d (2 * k)) (nib d (2 * k + 1))))
theorem v1 (W : World) (s : ByteArray) : gZ Tryd.prog Tryd.f23.results.toList (r23 W s 1) = bif c1 s 1 then some (none, true) else bif c2 (cutS s hx0) 0 then some (none, (X0 (cutS s hx0) 0).val) else
  some (some (5, [bz (cutS s hx0) 0]), ((((X0 (cutS s hx0) 0).and TT).and TT).and TT).val) := by kernel_rfl
theorem v2 (W : World) (s : ByteArray) : gZ Tryd.prog Tryd.f23.results.toList (r23 W s 2) = bif c1 s 2 then some (none, true) else bif c2 (cutS s hx0) 0 then some (none, (X0 (cutS s hx0) 0).val) else
  bif c2 (cutS s hx0) 1 then some (none, (((X0 (cutS s hx0) 0).and TT).and (X0 (cutS s hx0) 1)).val) else
  some (some (5, [bz (cutS s hx0) 1, bz (cutS s hx0) 0]), ((((X0 (cutS s hx0) 0).and TT).and (((X0 (cutS s hx0) 1).and TT).and TT)).and TT).val) := by kernel_rfl
/-- What listing.value says. -/
def valS (s : ByteArray) : Nat → Option (List Int)
  | 1 => bif c1 s 1 then none else bif c2 (cutS s hx0) 0 then none else some [byt2 (nib (cutS s hx0) 0) (nib (cutS s hx0) 1)]
  | _ => bif c1 s 2 then none else bif c2 (cutS s hx0) 0 then none else bif c2 (cutS s hx0) 1 then none else some [byt2 (nib (cutS s hx0) 2) (nib (cutS s hx0) 3), byt2 (nib (cutS s hx0) 0) (nib (cutS s hx0) 1)]
def zs (l : List Int) : List SV := l.map fun x => .int .u8 (.sym x)
theorem x0_val (d : ByteArray) (k : Int) : (X0 d k).val = (inStr d (2 * k) && inStr d (2 * k + 1)) := by
  unfold X0 L0 TT
  simp only [SB.and_val]
  show ((inStr d (2 * k) && true) && ((inStr d (2 * k + 1) && true) && true)) = _
  simp
theorem in_of {d : ByteArray} {n k : Int} (h : (d.size : Int) = 2 * n) (h0 : 0 ≤ k) (h1 : k < n) : (inStr d (2 * k) && inStr d (2 * k + 1)) = true := by
  unfold inStr
  rw [Bool.and_eq_true, Bool.and_eq_true, Bool.and_eq_true]
  simp only [decide_eq_true_eq]
  omega
theorem c1_size {s : ByteArray} {n : Int} (h : c1 s n = false) : ((cutS s hx0).size : Int) = 2 * n := by
  unfold c1 at h
  cases hp : (!hasP s hx0)
  · rw [hp] at h
    simpa using h
  · rw [hp] at h
    cases h
theorem val_gZ (W : World) (s : ByteArray) (n : Nat) (hn : n = 1 ∨ n = 2) : gZ Tryd.prog Tryd.f23.results.toList (r23 W s (n : Int)) = some ((valS s n).map fun l => (5, zs l), true) := by
  rcases hn with rfl | rfl
  · have h := v1 W s
    rw [show ((1 : Nat) : Int) = 1 from rfl, h]
    unfold valS
    cases e1 : c1 s 1
    · have hi := in_of (c1_size e1) (k := 0) (by decide) (by decide)
      simp only [SB.and_val, x0_val, hi, TT, SB.val_lit, Bool.and_true]
      cases e2 : c2 (cutS s hx0) 0 <;> rfl
    · rfl
  · have h := v2 W s
    rw [show ((2 : Nat) : Int) = 2 from rfl, h]
    unfold valS
    cases e1 : c1 s 2
    · have hi := in_of (c1_size e1) (k := 0) (by decide) (by decide)
      have hj := in_of (c1_size e1) (k := 1) (by decide) (by decide)
      simp only [SB.and_val, x0_val, hi, hj, TT, SB.val_lit, Bool.and_true]
      cases e2 : c2 (cutS s hx0) 0
      · cases e3 : c2 (cutS s hx0) 1 <;> rfl
      · rfl
    · rfl
theorem ht23 (W : World) : HGOk W Tryd.prog Tryd.f23.ntmps (t23 W) body23 := by
  have e : HGOk W Tryd.prog Tryd.f23.ntmps (t23 W) body23 = (True ∧ True ∧ True ∧ CustOk W Tryd.prog 63 (.region id23 ops23 false) (runCalls Tryd.prog W G23 100000 63 ops23 [⟨1, mkB 26 27⟩] 0) ∧ True) := by kernel_rfl
  rw [e]
  refine ⟨trivial, trivial, trivial, ?_, trivial⟩
  refine calls_cust (W := Bs.of W) (g23_ok W) ?_ (by simp)
  intro c hc
  rw [List.mem_singleton] at hc
  subst hc
  have h : ∃ o, ops23.toList[1]? = some o ∧ o.guard = none ∧ o.dst = some 27 ∧ o.op = .makeSlice 22 (.tmp 26) (.tmp 26) := by
    have e : (ops23.toList[1]?).map (fun o => (o.guard, o.dst, o.op)) = some (none, some 27, .makeSlice 22 (.tmp 26) (.tmp 26)) := by kernel_rfl
    cases ho : ops23.toList[1]? with
    | none => rw [ho] at e; cases e
    | some o =>
      rw [ho] at e
      simp only [Option.map_some, Option.some.injEq, Prod.mk.injEq] at e
      exact ⟨o, rfl, e.1, e.2.1, e.2.2⟩
  obtain ⟨o, h1, h2, h3, h4⟩ := h
  exact callG_of h1 h2 (mkB_ok h3 h4 (by decide))
theorem nt23 : [TV.one (.str ⟨#[]⟩), TV.one (.int .i64 (.lit 0))].length ≤ Tryd.f23.ntmps := by
  rw [show Tryd.f23.ntmps = 63 by kernel_rfl]
  decide
theorem r23_eq (W : World) (s : ByteArray) (n : Nat) : runG Tryd.prog W G23 100000 Tryd.f23.ntmps (t23 W) body23 (argSlots 0 [.one (.str s), .one (.int .i64 (.lit (n : Int)))]) noMem [] = r23 W s n := by
  rw [show Tryd.f23.ntmps = 63 by kernel_rfl]
  rfl
/-- listing.value. -/
theorem val_calls (W : World) (s : ByteArray) (n : Nat) (hn : n = 1 ∨ n = 2) : Calls Tryd.prog 23 #[.string s, .int .i64 (n : Int)] W fun en w' => match valS s n with
    | none => en = .returned (.tuple #[.slice none 0 0, .bool false]) ∧ Below W.heap.size W w'
    | some l => ∃ j, en = .returned (.tuple #[.slice (some ⟨j, 0, none⟩) l.length l.length, .bool true]) ∧ LaidAt W w' j (dens (fun _ => 0) (zs l)) 5 := by
  have h := calls_of_gZ (g23_ok W) Tryd.func23 (show Tryd.f23.body = some body23 by kernel_rfl) (ht23 W) (args := [.one (.str s), .one (.int .i64 (.lit (n : Int)))]) nt23 (r23_eq W s n) (val_gZ W s n hn)
  refine h.mono ?_
  intro en w' hq
  unfold PairPost at hq
  cases hv : valS s n with
  | none =>
    rw [hv] at hq
    exact hq
  | some l =>
    rw [hv] at hq
    obtain ⟨j, h1, h2⟩ := hq
    rw [show (zs l).length = l.length from List.length_map _] at h1
    exact ⟨j, h1, h2⟩
end Go.Proofs.YtdglgiaegjkinaaDoor
