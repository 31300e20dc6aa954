/- Chapter 22: the line that is served, where it is known which one it is. -/
import Derived.Test.YtndciaoiinhdnaaPicF
namespace Go.Proofs.Ytndciaoiinhdnaa.pc
open Go Go.Sx Go.Proofs.Ytndciaoiinhdnaa.mk
set_option maxRecDepth 100000
def cellsOf : TV → List SV
  | .agg l => l
  | .tup ((true, l) :: _) => l
  | _ => []
/-- Each cell equals itself. -/
def reflB : List SV → Bool
  | [] => true
  | [.int _ n] => n.val == n.val
  | [.bool b] => b.val == b.val
  | .int _ n :: r => (n.val == n.val) && reflB r
  | .bool b :: r => (b.val == b.val) && reflB r
  | _ :: r => reflB r
theorem reflB_true : ∀ l : List SV, reflB l = true := by
  intro l
  induction l with
  | nil => rfl
  | cons v r ih =>
    cases v <;> cases r <;> simp_all [reflB]
def FHiG : List TV → Option (SB × TV)
  | [.one (.int .u8 s), .one (.int .i64 l)] => some (.lit true, .one (.int .i64 (.sym (pr.hi s.val l.val))))
  | _ => none
theorem hiG_ok {G : List (Nat × Sx.Spec)} {W : World} (hG : GOk W Try.prog G) {g : Nat} (fn : ∃ fn, Try.prog.funcs[g]? = some fn ∧ (fn.name == "runtime.NumGoroutine") = false ∧ fn.body.isNone = false)
    (h : ∀ s l : Int, eval Try.prog W G g [.one (.int .u8 (.sym s)), .one (.int .i64 (.sym l))] = some (.one (.int .i64 (.sym (pr.hi s l))))) : SpecOk W Try.prog g (specV FHiG) := by
  refine specV_ok' (G := G) hG fn fun args c v hv hc => ?_
  unfold FHiG at hv
  split at hv <;> try contradiction
  rename_i s l
  simp only [Option.some.injEq, Prod.mk.injEq] at hv
  obtain ⟨rfl, rfl⟩ := hv
  exact ⟨rfl, rfl, by simp, [.one (.int .u8 (.sym s.val)), .one (.int .i64 (.sym l.val))], rfl, rfl, _, h s.val l.val, fun _ => rfl⟩
def FPkB (k : Int) : List TV → Option (SB × TV)
  | [.one (.int .u8 x0), .one (.int .u8 x1), .one (.int .u8 x2), .one (.int .i64 x3), .one (.bool x4)] => match x2 with
    | .sym n => some (.lit true, .one (.int .i64 (.sym (pr.pk x0.val x1.val n x3.val x4.val))))
    | .lit n => match decide (n = 0) with
      | true => some (.sym (decide (pr.pk x0.val x1.val 0 x3.val x4.val = k)), .one (.int .i64 (.lit k)))
      | false => some (.lit true, .one (.int .i64 (.sym (pr.pk x0.val x1.val n x3.val x4.val))))
  | _ => none
theorem pkB_ok {W : World} (k : Int) {g : Nat} (fn : ∃ fn, Try.prog.funcs[g]? = some fn ∧ (fn.name == "runtime.NumGoroutine") = false ∧ fn.body.isNone = false)
    (h : ∀ (x0 x1 : Int) (x2 : SI) (x3 : Int) (x4 : Bool), eval Try.prog W pr.GH g [.one (.int .u8 (.sym x0)), .one (.int .u8 (.sym x1)), .one (.int .u8 x2), .one (.int .i64 (.sym x3)), .one (.bool (.sym x4))] =
      some (.one (.int .i64 (.sym (pr.pk x0 x1 x2.val x3 x4))))) : SpecOk W Try.prog g (specV (FPkB k)) := by
  refine specV_ok' (G := pr.GH) (pr.gokH W) fn fun args c v hv hc => ?_
  unfold FPkB at hv
  split at hv <;> try contradiction
  rename_i x0 x1 x2 x3 x4
  have key : ∀ n : Int, ∃ v', eval Try.prog W pr.GH g [.one (.int .u8 (.sym x0.val)), .one (.int .u8 (.sym x1.val)), .one (.int .u8 (.sym n)), .one (.int .i64 (.sym x3.val)), .one (.bool (.sym x4.val))] = some v' ∧
      ∀ f, v'.den f = TV.den f (.one (.int .i64 (.sym (pr.pk x0.val x1.val n x3.val x4.val)))) := fun n => ⟨_, h x0.val x1.val (.sym n) x3.val x4.val, fun _ => rfl⟩
  split at hv
  · rename_i n
    simp only [Option.some.injEq, Prod.mk.injEq] at hv
    obtain ⟨rfl, rfl⟩ := hv
    exact ⟨rfl, rfl, by simp, [.one (.int .u8 (.sym x0.val)), .one (.int .u8 (.sym x1.val)), .one (.int .u8 (.sym n)), .one (.int .i64 (.sym x3.val)), .one (.bool (.sym x4.val))], rfl, rfl, key n⟩
  · rename_i n
    split at hv
    · rename_i hn
      simp only [decide_eq_true_eq] at hn
      subst hn
      simp only [Option.some.injEq, Prod.mk.injEq] at hv
      obtain ⟨rfl, rfl⟩ := hv
      have hk : pr.pk x0.val x1.val 0 x3.val x4.val = k := of_decide_eq_true hc
      refine ⟨rfl, rfl, by simp, [.one (.int .u8 (.sym x0.val)), .one (.int .u8 (.sym x1.val)), .one (.int .u8 (.sym 0)), .one (.int .i64 (.sym x3.val)), .one (.bool (.sym x4.val))], rfl, rfl, ?_⟩
      obtain ⟨v', h1, h2⟩ := key 0
      refine ⟨v', h1, fun f => (h2 f).trans ?_⟩
      show Value.int .i64 _ = Value.int .i64 _
      exact congrArg _ hk
    · simp only [Option.some.injEq, Prod.mk.injEq] at hv
      obtain ⟨rfl, rfl⟩ := hv
      exact ⟨rfl, rfl, by simp, [.one (.int .u8 (.sym x0.val)), .one (.int .u8 (.sym x1.val)), .one (.int .u8 (.sym n)), .one (.int .i64 (.sym x3.val)), .one (.bool (.sym x4.val))], rfl, rfl, key n⟩
noncomputable def GB (k : Int) (W : World) : List (Nat × Sx.Spec) := (49, specV (FPkB k)) :: (16, specV (FPkB k)) :: (47, specV FHiG) :: (38, specV FHiG) :: G W
theorem gokB (k : Int) (W : World) : GOk W Try.prog (GB k W) :=
  gok_cons (pkB_ok k ⟨Try.f49, Try.func49, by kernel_rfl, by kernel_rfl⟩ (pr.pkP W)) (gok_cons (pkB_ok k ⟨Try.f16, Try.func16, by kernel_rfl, by kernel_rfl⟩ (pr.pkR W))
    (gok_cons (hiG_ok (gok_nil W) ⟨Try.f47, Try.func47, by kernel_rfl, by kernel_rfl⟩ (pr.hiP W)) (gok_cons (hiG_ok (pr.gokR W) ⟨Try.f38, Try.func38, by kernel_rfl, by kernel_rfl⟩ (pr.hiR W)) (gok W))))
/-- A set of one line. -/
theorem hi_one_all : ((List.range 8).all fun k => (List.range 8).all fun m => pr.hi0 (2 ^ k : Nat) (m : Int) == (k : Int)) = true := by kernel_rfl
theorem hi_one {k : Nat} (hk : k < 8) (l : Int) : pr.hi ((2 ^ k : Nat) : Int) l = k := by
  have h1 := List.all_eq_true.1 hi_one_all k (by simp; exact hk)
  have hm := pr.m7_range l
  have h2 := all_upto 8 (p := fun m => pr.hi0 (2 ^ k : Nat) m == (k : Int)) h1 hm.1 (by omega)
  exact eq_of_beq h2
/-- Nothing is served that does not come ahead of the one line in service. -/
theorem next_ahead {k : Nat} (hk : k < 8) (irr imr l : Int) :
    (bif decide (pr.pk irr imr ((2 ^ k : Nat) : Int) l false ≥ 0) then decide (pr.rk (pr.pk irr imr ((2 ^ k : Nat) : Int) l false) l ≥ pr.rk (k : Int) l) else false) = false := by
  obtain ⟨h | ⟨h0, _, he, hg⟩, _⟩ := pr.pk_facts irr imr ((2 ^ k : Nat) : Int) l false
  · rw [h]; rfl
  · have hb : pr.blk imr ((2 ^ k : Nat) : Int) false = ((2 ^ k : Nat) : Int) := rfl
    rw [hb, hi_one hk] at hg
    rw [decide_eq_true h0, cond_true, he]
    exact decide_eq_false (by omega)
end Go.Proofs.Ytndciaoiinhdnaa.pc
