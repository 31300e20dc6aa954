/- Chapter 15: the fixed example, and the contracts that its laws share. -/
import Derived.Test.YtdmpagiankblpaaMakeC
namespace Go.Proofs.Ytdmpagiankblpaa.irq
open Go Go.Sx Go.Proofs.Ytdmpagiankblpaa.mk
set_option maxRecDepth 100000
theorem knownv (W : World) : eval Try.prog W [] 9 [] = some (.one (.bool (.lit true))) := by kernel_rfl
/-- The source that is served. -/
def pkF (on trap ie delay r75 m4 r65 m2 r55 m1 intr : Bool) : Int :=
  bif bif on then trap else false then 1 else bif bif !ie then true else delay then 0 else bif bif on then bif r75 then m4 else false else false then 2
  else bif bif on then bif r65 then m2 else false else false then 3 else bif bif on then bif r55 then m1 else false else false then 4 else bif intr then 5 else 0
def FPick : List TV → Option (SB × TV)
  | [.agg [.int .i64 x0, .int .u8 x1, .int .u8 x2, .int .u8 x3, .int .u8 x4, .int .u8 x5, .int .u8 x6, .int .u8 x7, .bool x8, .bool x9, .bool x10, .bool x11, .bool x12, .bool x13, .bool x14, .int .u16 x15, .int .u16 x16, .bool x17, .bool x18, .bool x19, .int .u8 x20, .bool x21, .bool x22, .bool x23, .bool x24, .bool x25, .bool x26, .bool x27], .agg [.bool x28, .bool x29, .bool x30, .bool x31, .bool x32, .bool x33, .bool x34, .bool x35, .bool x36]] => some (.lit true, .one (.int .i64 (.sym (pkF (x0.val == 2) x21.val x17.val x18.val x22.val (bits .and .u8 x20.val 4 == 0) x34.val (bits .and .u8 x20.val 2 == 0) x35.val (bits .and .u8 x20.val 1 == 0) x36.val))))
  | _ => none
theorem pickv (W : World) (x0 x1 x2 x3 x4 x5 x6 x7 x15 x16 x20 : SI) (x8 x9 x10 x11 x12 x13 x14 x17 x18 x19 x21 x22 x23 x24 x25 x26 x27 x28 x29 x30 x31 x32 x33 x34 x35 x36 : SB) : eval Try.prog W [] 15 [.agg [.int .i64 (.sym x0.val), .int .u8 (.sym x1.val), .int .u8 (.sym x2.val), .int .u8 (.sym x3.val), .int .u8 (.sym x4.val), .int .u8 (.sym x5.val), .int .u8 (.sym x6.val), .int .u8 (.sym x7.val), .bool (.sym x8.val), .bool (.sym x9.val), .bool (.sym x10.val), .bool (.sym x11.val), .bool (.sym x12.val), .bool (.sym x13.val), .bool (.sym x14.val), .int .u16 (.sym x15.val), .int .u16 (.sym x16.val), .bool (.sym x17.val), .bool (.sym x18.val), .bool (.sym x19.val), .int .u8 (.sym x20.val), .bool (.sym x21.val), .bool (.sym x22.val), .bool (.sym x23.val), .bool (.sym x24.val), .bool (.sym x25.val), .bool (.sym x26.val), .bool (.sym x27.val)], .agg [.bool (.sym x28.val), .bool (.sym x29.val), .bool (.sym x30.val), .bool (.sym x31.val), .bool (.sym x32.val), .bool (.sym x33.val), .bool (.sym x34.val), .bool (.sym x35.val), .bool (.sym x36.val)]] = some (.one (.int .i64 (.sym (pkF (x0.val == 2) x21.val x17.val x18.val x22.val (bits .and .u8 x20.val 4 == 0) x34.val (bits .and .u8 x20.val 2 == 0) x35.val (bits .and .u8 x20.val 1 == 0) x36.val)))) := by kernel_rfl
theorem pickr (W : World) (x0 x1 x2 x3 x4 x5 x6 x7 x15 x16 x20 : SI) (x8 x9 x10 x11 x12 x13 x14 x17 x18 x19 x21 x22 x23 x24 x25 x26 x27 x28 x29 x30 x31 x32 x33 x34 x35 x36 : SB) : eval Try.prog W [] 16 [.agg [.int .i64 (.sym x0.val), .int .u8 (.sym x1.val), .int .u8 (.sym x2.val), .int .u8 (.sym x3.val), .int .u8 (.sym x4.val), .int .u8 (.sym x5.val), .int .u8 (.sym x6.val), .int .u8 (.sym x7.val), .bool (.sym x8.val), .bool (.sym x9.val), .bool (.sym x10.val), .bool (.sym x11.val), .bool (.sym x12.val), .bool (.sym x13.val), .bool (.sym x14.val), .int .u16 (.sym x15.val), .int .u16 (.sym x16.val), .bool (.sym x17.val), .bool (.sym x18.val), .bool (.sym x19.val), .int .u8 (.sym x20.val), .bool (.sym x21.val), .bool (.sym x22.val), .bool (.sym x23.val), .bool (.sym x24.val), .bool (.sym x25.val), .bool (.sym x26.val), .bool (.sym x27.val)], .agg [.bool (.sym x28.val), .bool (.sym x29.val), .bool (.sym x30.val), .bool (.sym x31.val), .bool (.sym x32.val), .bool (.sym x33.val), .bool (.sym x34.val), .bool (.sym x35.val), .bool (.sym x36.val)]] = some (.one (.int .i64 (.sym (pkF (x0.val == 2) x21.val x17.val x18.val x22.val (bits .and .u8 x20.val 4 == 0) x34.val (bits .and .u8 x20.val 2 == 0) x35.val (bits .and .u8 x20.val 1 == 0) x36.val)))) := by kernel_rfl
theorem pick_ok {W : World} {g : Nat} (fn : ∃ fn, Try.prog.funcs[g]? = some fn ∧ (fn.name == "runtime.NumGoroutine") = false ∧ fn.body.isNone = false)
    (h : ∀ (x0 x1 x2 x3 x4 x5 x6 x7 x15 x16 x20 : SI) (x8 x9 x10 x11 x12 x13 x14 x17 x18 x19 x21 x22 x23 x24 x25 x26 x27 x28 x29 x30 x31 x32 x33 x34 x35 x36 : SB), eval Try.prog W [] g [.agg [.int .i64 (.sym x0.val), .int .u8 (.sym x1.val), .int .u8 (.sym x2.val), .int .u8 (.sym x3.val), .int .u8 (.sym x4.val), .int .u8 (.sym x5.val), .int .u8 (.sym x6.val), .int .u8 (.sym x7.val), .bool (.sym x8.val), .bool (.sym x9.val), .bool (.sym x10.val), .bool (.sym x11.val), .bool (.sym x12.val), .bool (.sym x13.val), .bool (.sym x14.val), .int .u16 (.sym x15.val), .int .u16 (.sym x16.val), .bool (.sym x17.val), .bool (.sym x18.val), .bool (.sym x19.val), .int .u8 (.sym x20.val), .bool (.sym x21.val), .bool (.sym x22.val), .bool (.sym x23.val), .bool (.sym x24.val), .bool (.sym x25.val), .bool (.sym x26.val), .bool (.sym x27.val)], .agg [.bool (.sym x28.val), .bool (.sym x29.val), .bool (.sym x30.val), .bool (.sym x31.val), .bool (.sym x32.val), .bool (.sym x33.val), .bool (.sym x34.val), .bool (.sym x35.val), .bool (.sym x36.val)]] = some (.one (.int .i64 (.sym (pkF (x0.val == 2) x21.val x17.val x18.val x22.val (bits .and .u8 x20.val 4 == 0) x34.val (bits .and .u8 x20.val 2 == 0) x35.val (bits .and .u8 x20.val 1 == 0) x36.val))))) : SpecOk W Try.prog g (specV FPick) := by
  refine specV_ok' (G := []) (gok_nil W) fn fun args c v hv hc => ?_
  unfold FPick at hv
  split at hv <;> try contradiction
  rename_i x0 x1 x2 x3 x4 x5 x6 x7 x8 x9 x10 x11 x12 x13 x14 x15 x16 x17 x18 x19 x20 x21 x22 x23 x24 x25 x26 x27 x28 x29 x30 x31 x32 x33 x34 x35 x36
  simp only [Option.some.injEq, Prod.mk.injEq] at hv
  obtain ⟨rfl, rfl⟩ := hv
  exact ⟨rfl, rfl, by simp, [.agg [.int .i64 (.sym x0.val), .int .u8 (.sym x1.val), .int .u8 (.sym x2.val), .int .u8 (.sym x3.val), .int .u8 (.sym x4.val), .int .u8 (.sym x5.val), .int .u8 (.sym x6.val), .int .u8 (.sym x7.val), .bool (.sym x8.val), .bool (.sym x9.val), .bool (.sym x10.val), .bool (.sym x11.val), .bool (.sym x12.val), .bool (.sym x13.val), .bool (.sym x14.val), .int .u16 (.sym x15.val), .int .u16 (.sym x16.val), .bool (.sym x17.val), .bool (.sym x18.val), .bool (.sym x19.val), .int .u8 (.sym x20.val), .bool (.sym x21.val), .bool (.sym x22.val), .bool (.sym x23.val), .bool (.sym x24.val), .bool (.sym x25.val), .bool (.sym x26.val), .bool (.sym x27.val)], .agg [.bool (.sym x28.val), .bool (.sym x29.val), .bool (.sym x30.val), .bool (.sym x31.val), .bool (.sym x32.val), .bool (.sym x33.val), .bool (.sym x34.val), .bool (.sym x35.val), .bool (.sym x36.val)]], rfl, rfl, _, h x0 x1 x2 x3 x4 x5 x6 x7 x15 x16 x20 x8 x9 x10 x11 x12 x13 x14 x17 x18 x19 x21 x22 x23 x24 x25 x26 x27 x28 x29 x30 x31 x32 x33 x34 x35 x36, fun _ => rfl⟩
noncomputable def G (W : World) : List (Nat × Sx.Spec) := (9, specF FK) :: (15, specV FPick) :: (16, specV FPick) :: (12, specN 45 (autoF Try.prog W (GN W) 45 12)) :: GC W
theorem gok (W : World) : GOk W Try.prog (G W) :=
  gok_cons (known_ok ⟨Try.f9, Try.func9, by kernel_rfl, by kernel_rfl⟩ (knownv W)) (gok_cons (pick_ok ⟨Try.f15, Try.func15, by kernel_rfl, by kernel_rfl⟩ (pickv W)) (gok_cons (pick_ok ⟨Try.f16, Try.func16, by kernel_rfl, by kernel_rfl⟩ (pickr W))
    (gok_cons (auto_ok (gokN W) ⟨Try.f12, Try.func12, by kernel_rfl, by kernel_rfl⟩) (gokC W))))
/-- The same, where it is known which one it is; behind the beginning of a service (its IE is false) as before. -/
def FPickK (k : Int) : List TV → Option (SB × TV)
  | [.agg [.int .i64 x0, .int .u8 x1, .int .u8 x2, .int .u8 x3, .int .u8 x4, .int .u8 x5, .int .u8 x6, .int .u8 x7, .bool x8, .bool x9, .bool x10, .bool x11, .bool x12, .bool x13, .bool x14, .int .u16 x15, .int .u16 x16, .bool x17, .bool x18, .bool x19, .int .u8 x20, .bool x21, .bool x22, .bool x23, .bool x24, .bool x25, .bool x26, .bool x27], .agg [.bool x28, .bool x29, .bool x30, .bool x31, .bool x32, .bool x33, .bool x34, .bool x35, .bool x36]] => match x17 with
    | .sym b => some (.sym (decide (pkF (x0.val == 2) x21.val b x18.val x22.val (bits .and .u8 x20.val 4 == 0) x34.val (bits .and .u8 x20.val 2 == 0) x35.val (bits .and .u8 x20.val 1 == 0) x36.val = k)), .one (.int .i64 (.lit k)))
    | .lit b => some (.lit true, .one (.int .i64 (.sym (pkF (x0.val == 2) x21.val b x18.val x22.val (bits .and .u8 x20.val 4 == 0) x34.val (bits .and .u8 x20.val 2 == 0) x35.val (bits .and .u8 x20.val 1 == 0) x36.val))))
  | _ => none
theorem pickK_ok {W : World} (k : Int) : SpecOk W Try.prog 15 (specV (FPickK k)) := by
  refine specV_ok' (G := []) (gok_nil W) ⟨Try.f15, Try.func15, by kernel_rfl, by kernel_rfl⟩ fun args c v hv hc => ?_
  unfold FPickK at hv
  split at hv <;> try contradiction
  rename_i x0 x1 x2 x3 x4 x5 x6 x7 x8 x9 x10 x11 x12 x13 x14 x15 x16 x17 x18 x19 x20 x21 x22 x23 x24 x25 x26 x27 x28 x29 x30 x31 x32 x33 x34 x35 x36
  split at hv
  · rename_i b
    simp only [Option.some.injEq, Prod.mk.injEq] at hv
    obtain ⟨rfl, rfl⟩ := hv
    have hk := of_decide_eq_true hc
    refine ⟨rfl, rfl, by simp, [.agg [.int .i64 (.sym x0.val), .int .u8 (.sym x1.val), .int .u8 (.sym x2.val), .int .u8 (.sym x3.val), .int .u8 (.sym x4.val), .int .u8 (.sym x5.val), .int .u8 (.sym x6.val), .int .u8 (.sym x7.val), .bool (.sym x8.val), .bool (.sym x9.val), .bool (.sym x10.val), .bool (.sym x11.val), .bool (.sym x12.val), .bool (.sym x13.val), .bool (.sym x14.val), .int .u16 (.sym x15.val), .int .u16 (.sym x16.val), .bool (.sym b), .bool (.sym x18.val), .bool (.sym x19.val), .int .u8 (.sym x20.val), .bool (.sym x21.val), .bool (.sym x22.val), .bool (.sym x23.val), .bool (.sym x24.val), .bool (.sym x25.val), .bool (.sym x26.val), .bool (.sym x27.val)], .agg [.bool (.sym x28.val), .bool (.sym x29.val), .bool (.sym x30.val), .bool (.sym x31.val), .bool (.sym x32.val), .bool (.sym x33.val), .bool (.sym x34.val), .bool (.sym x35.val), .bool (.sym x36.val)]], rfl, rfl, _, pickv W x0 x1 x2 x3 x4 x5 x6 x7 x15 x16 x20 x8 x9 x10 x11 x12 x13 x14 (.sym b) x18 x19 x21 x22 x23 x24 x25 x26 x27 x28 x29 x30 x31 x32 x33 x34 x35 x36, fun _ => ?_⟩
    show Value.int .i64 _ = Value.int .i64 _
    exact congrArg _ hk
  · rename_i b
    simp only [Option.some.injEq, Prod.mk.injEq] at hv
    obtain ⟨rfl, rfl⟩ := hv
    exact ⟨rfl, rfl, by simp, [.agg [.int .i64 (.sym x0.val), .int .u8 (.sym x1.val), .int .u8 (.sym x2.val), .int .u8 (.sym x3.val), .int .u8 (.sym x4.val), .int .u8 (.sym x5.val), .int .u8 (.sym x6.val), .int .u8 (.sym x7.val), .bool (.sym x8.val), .bool (.sym x9.val), .bool (.sym x10.val), .bool (.sym x11.val), .bool (.sym x12.val), .bool (.sym x13.val), .bool (.sym x14.val), .int .u16 (.sym x15.val), .int .u16 (.sym x16.val), .bool (.sym b), .bool (.sym x18.val), .bool (.sym x19.val), .int .u8 (.sym x20.val), .bool (.sym x21.val), .bool (.sym x22.val), .bool (.sym x23.val), .bool (.sym x24.val), .bool (.sym x25.val), .bool (.sym x26.val), .bool (.sym x27.val)], .agg [.bool (.sym x28.val), .bool (.sym x29.val), .bool (.sym x30.val), .bool (.sym x31.val), .bool (.sym x32.val), .bool (.sym x33.val), .bool (.sym x34.val), .bool (.sym x35.val), .bool (.sym x36.val)]], rfl, rfl, _, pickv W x0 x1 x2 x3 x4 x5 x6 x7 x15 x16 x20 x8 x9 x10 x11 x12 x13 x14 (.lit b) x18 x19 x21 x22 x23 x24 x25 x26 x27 x28 x29 x30 x31 x32 x33 x34 x35 x36, fun _ => rfl⟩
noncomputable def GK (k : Int) (W : World) : List (Nat × Sx.Spec) := (15, specV (FPickK k)) :: G W
theorem gokK (k : Int) (W : World) : GOk W Try.prog (GK k W) := gok_cons (pickK_ok k) (gok W)
theorem pkF_range (a b c d e f g h i j k : Bool) : pkF a b c d e f g h i j k = 0 ∨ pkF a b c d e f g h i j k = 1 ∨ pkF a b c d e f g h i j k = 2 ∨ pkF a b c d e f g h i j k = 3 ∨ pkF a b c d e f g h i j k = 4 ∨ pkF a b c d e f g h i j k = 5 := by
  unfold pkF
  have hc : ∀ (q : Bool) (u v : Int) (p : Int → Prop), p u → p v → p (bif q then u else v) := fun q u v p hu hv => by cases q <;> assumption
  refine hc _ _ _ (fun z => z = 0 ∨ z = 1 ∨ z = 2 ∨ z = 3 ∨ z = 4 ∨ z = 5) (by decide) ?_
  refine hc _ _ _ (fun z => z = 0 ∨ z = 1 ∨ z = 2 ∨ z = 3 ∨ z = 4 ∨ z = 5) (by decide) ?_
  refine hc _ _ _ (fun z => z = 0 ∨ z = 1 ∨ z = 2 ∨ z = 3 ∨ z = 4 ∨ z = 5) (by decide) ?_
  refine hc _ _ _ (fun z => z = 0 ∨ z = 1 ∨ z = 2 ∨ z = 3 ∨ z = 4 ∨ z = 5) (by decide) ?_
  refine hc _ _ _ (fun z => z = 0 ∨ z = 1 ∨ z = 2 ∨ z = 3 ∨ z = 4 ∨ z = 5) (by decide) ?_
  exact hc _ _ _ (fun z => z = 0 ∨ z = 1 ∨ z = 2 ∨ z = 3 ∨ z = 4 ∨ z = 5) (by decide) (by decide)
theorem pk_off (on trap d r75 m4 r65 m2 r55 m1 i : Bool) : pkF on trap false d r75 m4 r65 m2 r55 m1 i = bif bif on then trap else false then 1 else 0 := rfl
theorem acc (c b : Bool) (k : Int) : ((bif c then b else bif k == 1 then b else bif k == 2 then false else b) == bif c then b else bif k == 2 then false else b) = true := by
  by_cases h : k = 1
  · subst h; cases c <;> cases b <;> rfl
  · have : (k == 1) = false := by simpa using h
    rw [this]
    cases c <;> cases b <;> cases (k == 2) <;> rfl
end Go.Proofs.Ytdmpagiankblpaa.irq
