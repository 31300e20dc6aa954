/- DumpCanonical: a text that can be parsed is the text of its trace. -/
import Derived.Test.YtjmnolhkkpaodaaGreatDoorZ41
set_option linter.all false
namespace Go.Proofs.YtjmnolhkkpaodaaGreatDoor.dumpCanonical
open Go Go.Sx Go.RowKit Go.ChangeShapes Go.WideShapes Go.ChangeAt Go.Deep
set_option maxRecDepth 100000
theorem par : Tryz.f6.params.toList = [9, 23, 3, 5] := by kernel_rfl
theorem und3 : Tryz.prog.underlying 3 = some (.int .i64) := by kernel_rfl
theorem und5 : Tryz.prog.underlying 5 = some (.int .u8) := by kernel_rfl
theorem und9 : Tryz.prog.underlying 9 = some .string := by kernel_rfl
theorem walkP {W : World} (hs : W.ShapedOpen Tryz.prog) (base : Nat) (args : Array Value) (hval : ∀ (j : Nat) t v, Tryz.f6.params.toList[j]? = some t → args.toList[j]? = some v → Value.okWide Tryz.prog W .any base t v) (hlen : args.toList.length = Tryz.f6.params.toList.length)
  {H : Type} {enc : TypeId × Value → H} {ds : List (DataW H)} {ps : List MemPlace} (htr : DataW.TrodAll enc Tryz.prog W 0 (fun _ => true) true Tryz.f6.params.toList args.toList ds ps) :
  Calls Tryz.prog 6 args W fun e W' => e = .returned (.bool true) ∧ Below W.heap.size W W' := by
 have htr := trodAll_each _ _ _ _ htr
 rw [par] at hval hlen htr
 match hd : args.toList, hlen with
 | [a0, a1, a2, a3], _ =>
  have he : args = #[a0, a1, a2, a3] := by
   apply Array.ext'
   rw [hd]
  rw [hd] at hval htr
  obtain ⟨s, rfl⟩ := ok_str und9 (hval 0 9 a0 rfl rfl)
  obtain ⟨d1, p1, t1⟩ := htr 1 23 a1 rfl rfl
  obtain ⟨b, m, e, rfl, h1⟩ := ok_ints (hval 1 23 a1 rfl rfl) t1
  obtain ⟨n2, rfl, _⟩ := ok_int und3 (hval 2 3 a2 rfl rfl)
  obtain ⟨n3, rfl, _⟩ := ok_int und5 (hval 3 5 a3 rfl rfl)
  subst he
  exact law6_calls (fun _ => h1) (gMax_of hs)
theorem lifted (os : Os) (started : os.Started) (H : Type) (enc : TypeId × Value → H) :
  ReturnsInHanded {} Tryz.checked os 6 .any (fun w args => (Rows.dumpCanonicalSpec.pre enc Tryz.prog Tryz.f6 [] false w args ∧ laidMetH Tryz.prog laidL w) ∧ sizedMet enc Tryz.prog Tryz.f6 (OpenSpec.ofChange Rows.dumpCanonicalSpec) false w args) (Rows.dumpCanonicalSpec.post enc Tryz.prog Tryz.f6 false true false false) :=
 law_stepS (C := Tryz.checked) (X := fun w => laidMetH Tryz.prog laidL w) 4 own started (by kernel_rfl) Tryz.func6 (by kernel_rfl) (by kernel_rfl) rfl
  (fun ds hd => by
   match ds, hd with
   | [d0, d1, d2, d3], _ => rfl)
  (ChangeSpec.witness_shaped (enc := enc) (C := Tryz.checked) (os := os) (X := fun w _ => laidMetH Tryz.prog laidL w) false (World.laidAll Tryz.prog os laidL) #[.string ⟨#[]⟩, .slice none 0 0, .int .i64 0, .int .u8 0] 8 (World.laidAll_os _ _ _)
   (World.shaped_of_ZipB (by kernel_rfl) (by kernel_rfl)) (by kernel_rfl) (by kernel_rfl) (by kernel_rfl) (laid_met os _))
  (fun W base args hs hv hl _ _ htr => walkP hs base args hv hl htr)
theorem over : Rows.dumpCanonicalRow.holds Tryz.pinned (OpenSpec.ofChange Rows.dumpCanonicalSpec) :=
 OpenClaim.holds_of_wide 6 Tryz.f6 rfl rfl rfl rfl rfl rfl rfl ⟨rfl, rfl, rfl, rfl, rfl⟩ rfl rfl rfl rfl rfl (by kernel_rfl) Tryz.func6 (by kernel_rfl)
  (of_decide_eq_true (by kernel_rfl)) (by unfold Func.isWrapper; first | (rw [if_pos (by decide +kernel)]; kernel_rfl) | (rw [if_neg (by decide +kernel)]; exact ⟨rfl, rfl⟩))
  (fun os started H enc _ => lifted os started H enc)
theorem proved : Rows.DumpCanonicalCardSaid :=
 Claim7.holds_tied_plain_at .later [] [.data, .pinned] true (true, "10f30e32e6f7978cb9f0b4434c136608c60f3fd2f671c400d4bd0930b8c15267") false over (fun _ h => by cases h) (by kernel_rfl) (fun _ h => by cases h) dumpCanonical_row_tie rfl ⟨rfl, rfl⟩ (by kernel_rfl) rfl
  (fun f fn hf hfn => by
   obtain rfl : f = 6 := Option.some.inj ((show Tryz.prog.funcNamed "tstate/tstatelaw28.DumpCanonical" = some 6 by kernel_rfl).symm.trans hf) |>.symm
   obtain rfl : fn = Tryz.f6 := (Option.some.inj (Tryz.func6.symm.trans hfn)).symm
   exact ⟨by kernel_rfl, fun j t ht => by
    rw [Tryz.params6] at ht
    have hm : t ∈ [9, 23, 3, 5] := by simpa using Array.mem_of_getElem? ht
    have hall : ([9, 23, 3, 5].all fun u => !Tryz.prog.wantsStandIn u) = true := by kernel_rfl
    exact (show Tryz.prog.wantsStandIn t = false by simpa using List.all_eq_true.1 hall t hm)⟩)
  (by kernel_rfl)
#print axioms proved
end Go.Proofs.YtjmnolhkkpaodaaGreatDoor.dumpCanonical
