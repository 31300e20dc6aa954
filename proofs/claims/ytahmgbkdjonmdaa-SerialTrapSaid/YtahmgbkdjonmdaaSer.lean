/- Chapter 14: the fixed example, and the contracts that its laws share. -/
import Derived.Test.YtahmgbkdjonmdaaMakeC
namespace Go.Proofs.Ytahmgbkdjonmdaa.ser
open Go Go.Sx Go.Proofs.Ytahmgbkdjonmdaa.mk
set_option maxRecDepth 100000
theorem knownv (W : World) : eval Try.prog W [] 7 [] = some (.one (.bool (.lit true))) := by kernel_rfl
/-- A bit at a place. -/
def bt (b : Bool) (n : Int) : Int := bif b then gshl .u8 1 n else 0
def FBt : List TV → Option (SB × TV)
  | [.one (.bool b), .one (.int .i64 (.lit n))] => some (.lit (decide (3 ≤ n) && decide (n ≤ 7)), .one (.int .u8 (.sym (bt b.val n))))
  | _ => none
theorem btP (W : World) (b : Bool) (n : Int) : eval Try.prog W [] 19 [.one (.bool (.sym b)), .one (.int .i64 (.sym n))] = bif (bif b then decide (0 ≤ n) else true) then some (.one (.int .u8 (.sym (bt b n)))) else none := by kernel_rfl
theorem btR (W : World) (b : Bool) (n : Int) : eval Try.prog W [] 20 [.one (.bool (.sym b)), .one (.int .i64 (.sym n))] =
    bif decide (0 ≤ n) then some (.one (.int .u8 (.sym (IntKind.u8.wrap (gshl .i64 (bif b then 1 else 0) n))))) else none := by kernel_rfl
theorem bt_ref (b : Bool) {n : Int} (h : n = 3 ∨ n = 4 ∨ n = 5 ∨ n = 6 ∨ n = 7) : IntKind.u8.wrap (gshl .i64 (bif b then 1 else 0) n) = bt b n := by
  rcases h with rfl | rfl | rfl | rfl | rfl <;> cases b <;> rfl
theorem bt_ok {W : World} {g : Nat} (fn : ∃ fn, Try.prog.funcs[g]? = some fn ∧ (fn.name == "runtime.NumGoroutine") = false ∧ fn.body.isNone = false)
    (h : ∀ (b : Bool) (n : Int), (n = 3 ∨ n = 4 ∨ n = 5 ∨ n = 6 ∨ n = 7) → ∃ v', eval Try.prog W [] g [.one (.bool (.sym b)), .one (.int .i64 (.sym n))] = some v' ∧ ∀ f, v'.den f = TV.den f (.one (.int .u8 (.sym (bt b n))))) : SpecOk W Try.prog g (specV FBt) := by
  refine specV_ok' (G := []) (gok_nil W) fn fun args c v hv hc => ?_
  unfold FBt at hv
  split at hv <;> try contradiction
  rename_i b n
  simp only [Option.some.injEq, Prod.mk.injEq] at hv
  obtain ⟨rfl, rfl⟩ := hv
  simp only [SB.val_lit, Bool.and_eq_true, decide_eq_true_eq] at hc
  refine ⟨rfl, rfl, by simp, [.one (.bool (.sym b.val)), .one (.int .i64 (.sym n))], rfl, rfl, ?_⟩
  exact h b.val n (by omega)
theorem btP_ok (W : World) : SpecOk W Try.prog 19 (specV FBt) := bt_ok ⟨Try.f19, Try.func19, by kernel_rfl, by kernel_rfl⟩ fun b n hn => by
  refine ⟨_, ?_, fun _ => rfl⟩
  rw [btP, decide_eq_true (by omega : 0 ≤ n), Bool.cond_self]
  rfl
theorem btR_ok (W : World) : SpecOk W Try.prog 20 (specV FBt) := bt_ok ⟨Try.f20, Try.func20, by kernel_rfl, by kernel_rfl⟩ fun b n hn => by
  refine ⟨.one (.int .u8 (.sym (bt b n))), ?_, fun _ => rfl⟩
  rw [btR, decide_eq_true (by omega : 0 ≤ n), bt_ref b hn]
  rfl
noncomputable def G (W : World) : List (Nat × Sx.Spec) := (7, specF FK) :: (19, specV FBt) :: (20, specV FBt) :: GC W
theorem gok (W : World) : GOk W Try.prog (G W) := gok_cons (known_ok ⟨Try.f7, Try.func7, by kernel_rfl, by kernel_rfl⟩ (knownv W)) (gok_cons (btP_ok W) (gok_cons (btR_ok W) (gokC W)))

/-! ### Facts of the byte that is read -/
theorem and7 (x : Int) : bits .and .u8 x 7 = x % 8 := and_mask .u8 3 (by decide) x
theorem and7_idem (x : Int) : bits .and .u8 (bits .and .u8 x 7) 7 = bits .and .u8 x 7 := by rw [and7 (bits .and .u8 x 7), and7]; omega
def rim (a b c d : Bool) (e m : Int) : Int := bits .or .u8 (bits .or .u8 (bits .or .u8 (bits .or .u8 (bits .or .u8 (bt a 7) (bt b 6)) (bt c 5)) (bt d 4)) e) m
def bools (p : Bool → Bool) : Bool := p true && p false
theorem bools_all {p : Bool → Bool} (h : bools p = true) (b : Bool) : p b = true := all_bool h b
def ckR (a b c d e : Bool) (m : Int) : Bool := (bits .and .u8 (rim a b c d (bt e 3) m) 7 == m) && ((bits .and .u8 (rim a b c d (bt e 3) m) 8 != 0) == e)
theorem ckR_all : ((List.range 8).all fun m => bools fun a => bools fun b => bools fun c => bools fun d => bools fun e => ckR a b c d e (m : Int)) = true := by kernel_rfl
theorem ckR_at (a b c d e : Bool) (x : Int) : ckR a b c d e (bits .and .u8 x 7) = true := by
  have hm : 0 ≤ bits .and .u8 x 7 ∧ bits .and .u8 x 7 < 8 := by rw [and7]; omega
  have h := all_upto 8 (p := fun m => bools fun a => bools fun b => bools fun c => bools fun d => bools fun e => ckR a b c d e m) ckR_all hm.1 hm.2
  exact bools_all (bools_all (bools_all (bools_all (bools_all h a) b) c) d) e
theorem rim7 (a b c d e : Bool) (x : Int) :
    bits .and .u8 (bits .or .u8 (bits .or .u8 (bits .or .u8 (bits .or .u8 (bits .or .u8 (bt a 7) (bt b 6)) (bt c 5)) (bt d 4)) (bt e 3)) (bits .and .u8 x 7)) 7 = bits .and .u8 x 7 := by
  have h := ckR_at a b c d e x
  simp only [ckR, Bool.and_eq_true, beq_iff_eq] at h
  exact h.1
theorem rim8 (a b c d e : Bool) (x : Int) :
    (bits .and .u8 (bits .or .u8 (bits .or .u8 (bits .or .u8 (bits .or .u8 (bits .or .u8 (bt a 7) (bt b 6)) (bt c 5)) (bt d 4)) (bt e 3)) (bits .and .u8 x 7)) 8 != 0) = e := by
  have h := ckR_at a b c d e x
  simp only [ckR, Bool.and_eq_true] at h
  exact eq_of_beq h.2
theorem rim8' (a b c d : Bool) (x : Int) :
    (bits .and .u8 (bits .or .u8 (bits .or .u8 (bits .or .u8 (bits .or .u8 (bits .or .u8 (bt a 7) (bt b 6)) (bt c 5)) (bt d 4)) 0) (bits .and .u8 x 7)) 8 == 0) = true := by
  have h := rim8 a b c d false x
  have e0 : bt false 3 = 0 := rfl
  rw [e0] at h
  have h2 := (bne_eq_false_iff_eq (a := bits .and .u8 (bits .or .u8 (bits .or .u8 (bits .or .u8 (bits .or .u8 (bits .or .u8 (bt a 7) (bt b 6)) (bt c 5)) (bt d 4)) 0) (bits .and .u8 x 7)) 8) (b := 0)).1 h
  rw [h2]
  rfl
end Go.Proofs.Ytahmgbkdjonmdaa.ser
