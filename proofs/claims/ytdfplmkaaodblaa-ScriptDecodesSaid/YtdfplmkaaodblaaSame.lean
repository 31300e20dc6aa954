/- SameBytes: true of two rows of the same bytes. -/
import Derived.Test.YtdfplmkaaodblaaEncR
import Derived.Test.YtdfplmkaaodblaaGapE
import Derived.Laws.BytesArg
namespace Go.Proofs.Ytdfplmkaaodblaa.dc
open Go Go.Sx Go.RowKit
set_option maxRecDepth 100000
/-- A row that lies in memory with these bytes. -/
structure BytesAt (W : World) (a : Option Addr) (n : Nat) (xs : List Int) : Prop where
  len : xs.length = n
  nil : a = none → n = 0
  at_ : ∀ q, a = some q → q.spot = none ∧ ∀ i, i < n → W.cell? ⟨q.block, q.off + i, none⟩ = some (.int .u8 (xs.getD i 0))
open Classical in
noncomputable def bytesAt (W : World) (a : Option Addr) (n : Nat) (xs : List Int) : Bool := decide (BytesAt W a n xs)
def cF (_ : World) (xs : List Int) (x d : Nat) (ok : Option Addr → Nat → Bool) (s : SL) (m : Mem) (g : Gh) : RG :=
  match Go.Sx.look s x with
  | some (.one (.sl a n _)) => .leaf .nrm (.sym (ok a n)) (putS (some d) (.one (.str (strOfNums xs))) s) m g
  | _ => .fail
noncomputable def c6 (W : World) (xs : List Int) : CS := ⟨1, cF W xs 5 6 fun a n => bytesAt W a n xs⟩
noncomputable def c8 (W : World) (xs : List Int) : CS := ⟨3, cF W xs 7 8 fun a n => bytesAt W a n xs⟩
theorem u22 : Try.prog.underlying 22 = some (.slice 5) := by kernel_rfl
theorem u5 : Try.prog.underlying 5 = some (.int .u8) := by kernel_rfl
theorem u9 : Try.prog.underlying 9 = some .string := by kernel_rfl
theorem conv_ok {W : World} {nt : Nat} {ops : Array Oper} {xs : List Int} {k x d : Nat} {o : Oper} (ho : ops.toList[k]? = some o) (hg : o.guard = none) (hdst : o.dst = some d) (hop : o.op = .convert 22 9 (.tmp x)) (hd : d < nt) :
    CallGOk W Try.prog nt ops ⟨k, cF W xs x d fun a n => bytesAt W a n xs⟩ := by
  refine ⟨o, ho, .inl hg, ?_⟩
  intro s m g f a w Q hgood h
  unfold cF at hgood ⊢
  dsimp only at hgood ⊢
  split at hgood <;> try exact hgood.elim
  rename_i q n cp hx
  have hb : BytesAt W q n xs := by
    have : bytesAt W q n xs = true := hgood
    unfold bytesAt at this
    exact @of_decide_eq_true _ (Classical.propDecidable _) this
  have hxv : a.eval (.tmp x) = .slice q n cp := h.slots x _ hx (by simp)
  have hrun : (convert 22 9 (.slice q n cp)).run Try.prog w = .ok (.string (strOfNums xs)) w := by
    cases q with
    | none =>
      have hn := hb.nil rfl
      have hxs : xs = [] := List.eq_nil_of_length_eq_zero (by rw [hb.len, hn])
      subst hxs
      exact run_convert_bytes_nil w 22 5 u22 u5 n cp 9 u9
    | some q =>
      obtain ⟨b, off, sp⟩ := q
      obtain ⟨h1, h2⟩ := hb.at_ _ rfl
      dsimp only at h1 h2
      subst h1
      exact run_convert_bytes_arg w 22 5 u22 u5 b off n cp xs hb.len (fun i hi => h.old.cell (h2 i hi)) 9 u9
  unfold Oper.wp
  simp only [execOp, hop, hxv, Sem.run_bind, hrun, Result.andThen_ok, Sem.run_pure, Oper.upon_value]
  refine ⟨rfl, f, ?_⟩
  rw [hdst]
  exact h.call (.refl _ _) hd rfl
noncomputable def body16 : Code := match Try.f16.body with
  | some c => c
  | none => .skip
noncomputable def ops16 : Array Oper := match body16 with
  | .seq _ (.seq (.region _ ops _) _) => ops
  | _ => #[]
noncomputable def F16 (W : World) (xs : List Int) : SL → Mem → Gh → RG := runCalls Try.prog W (G0 W) 100000 10 ops16 [c6 W xs, c8 W xs] 0
noncomputable def t16 (W : World) (xs : List Int) : HG := .seq .plain (.seq (.cust (F16 W xs)) .plain)
noncomputable def o16 (k : Nat) : Oper := match ops16.toList[k]? with
  | some o => o
  | none => { dst := none, op := .assign (.tmp 0), type := 0, pos := "", after := #[], guard := none }
theorem cust16 (W : World) (xs : List Int) : CustOk W Try.prog 10 (.region 1 ops16 false) (F16 W xs) := by
  refine calls_cust (W := Bs.of W) (gok0 W) ?_ (by simp [c6, c8])
  intro c hc
  simp only [List.mem_cons, List.not_mem_nil, or_false] at hc
  rcases hc with rfl | rfl
  · exact conv_ok (k := 1) (x := 5) (d := 6) (o := o16 1) (by kernel_rfl) (by kernel_rfl) (by kernel_rfl) (by kernel_rfl) (by decide)
  · exact conv_ok (k := 3) (x := 7) (d := 8) (o := o16 3) (by kernel_rfl) (by kernel_rfl) (by kernel_rfl) (by kernel_rfl) (by decide)
theorem whole16 (W : World) (xs : List Int) (a b : Option Addr) (n c d : Nat) : (runG Try.prog W (G0 W) 100000 10 (t16 W xs) body16 (argSlots 0 [.one (.sl a n c), .one (.sl b n d)]) noMem []).slim 0 [] [] [(4, false)] [] =
    .leaf .ret (.sym (bytesAt W a n xs && bytesAt W b n xs)) [(4, .one (.bool (.sym ((strOfNums xs).toList == (strOfNums xs).toList))))] ⟨[], [], 0⟩ [] := by kernel_rfl
/-- SameBytes returns true of two rows that lie in memory with the same bytes. -/
theorem same16 {W : World} {xs : List Int} {a b : Option Addr} {n c d : Nat} (ha : BytesAt W a n xs) (hb : BytesAt W b n xs) : Calls Try.prog 16 #[.slice a n c, .slice b n d] W fun en w' => en = .returned (.bool true) ∧ Below W.heap.size W w' := by
  have hcalls := calls_of_runG (gok0 W) (n := 100000) (g := 16) Try.func16 (show Try.f16.body = some body16 by kernel_rfl) (t := t16 W xs) (args := [.one (.sl a n c), .one (.sl b n d)]) ?_ (by rw [show Try.f16.ntmps = 10 by kernel_rfl]; simp)
    (R := fun v _ => v.den (fun _ => 0) = .bool true ∧ ∃ q, v = .one (.bool q)) (N := 0) (ks := []) (bs := []) (ke := [(4, false)]) (be := []) rfl rfl ?_
  · refine hcalls.mono ?_
    rintro en w' ⟨v, g, f, ⟨h1, q, rfl⟩, rfl, _, hbl⟩
    exact ⟨congrArg _ h1, hbl⟩
  · have e : HGOk W Try.prog Try.f16.ntmps (t16 W xs) body16 = (True ∧ (CustOk W Try.prog 10 (.region 1 ops16 false) (F16 W xs) ∧ True)) := by kernel_rfl
    rw [e]
    exact ⟨trivial, cust16 W xs, trivial⟩
  · rw [show Try.f16.ntmps = 10 by kernel_rfl, whole16]
    have h1 : bytesAt W a n xs = true := by unfold bytesAt; exact @decide_eq_true _ (Classical.propDecidable _) ha
    have h2 : bytesAt W b n xs = true := by unfold bytesAt; exact @decide_eq_true _ (Classical.propDecidable _) hb
    refine ⟨by rw [SB.val_sym, h1, h2]; rfl, .inr rfl, [(false, [.bool (.sym ((strOfNums xs).toList == (strOfNums xs).toList))])], .one (.bool (.sym ((strOfNums xs).toList == (strOfNums xs).toList))), by kernel_rfl, rfl, ?_, _, rfl⟩
    show Value.bool _ = _
    rw [SB.val_sym, beq_self_eq_true]
end Go.Proofs.Ytdfplmkaaodblaa.dc
