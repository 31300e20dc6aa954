/- From a law's walk to its row over the listed tables, and to its card. -/
import Derived.Test.YtdglgiaegjkinaaDoorTie
import Derived.Test.YtdglgiaegjkinaaDoorKn
import Derived.LaidMore
import Derived.Lay
import Derived.SevenTiedAt
import Derived.Stop.Joined
import Derived.Lib.LaidIn
import Derived.Lib.LaidU8T
import Derived.PinnedBridge
namespace Go.Proofs.YtdglgiaegjkinaaDoor
open Go Go.Sx Go.RowKit Go.ChangeShapes Go.WideShapes Go.ChangeAt Go.Deep
set_option maxRecDepth 100000
def laidL : List (String × DataW Unit) := [("unicode/utf8.acceptRanges", Rows.laid_unicode_utf8_acceptRanges), ("unicode/utf8.first", Rows.laid_unicode_utf8_first)]
theorem acc_eq : (Rows.laid_unicode_utf8_acceptRanges : DataW Unit) = Lib.acceptData := by kernel_rfl
theorem fst_eq : Rows.laid_unicode_utf8_first = Lib.firstData := Pinned.utf8First_eq
/-- What the listed tables give. -/
theorem tabs_of {W : World} (h : laidMetH Tryd.prog laidL W) : Tabs W := by
  rw [MakeChecks.laidMetH_plain _ _ _ (by kernel_rfl)] at h
  have h1 : Lib.VarReads Tryd.prog W "unicode/utf8.acceptRanges" Lib.acceptData := by
    rw [← acc_eq]
    exact Lib.laidMet.reads h (.head _)
  have h2 : Lib.VarReads Tryd.prog W "unicode/utf8.first" Lib.firstData := by
    rw [← fst_eq]
    exact Lib.laidMet.reads h (.tail _ (.head _))
  have hT : Lib.Utf8Tabs 1 2 W := utf8Tabs_of_readsT (U8Types.of260 Tryd.lays260) ⟨by kernel_rfl, by kernel_rfl, by kernel_rfl, by kernel_rfl, by kernel_rfl, by kernel_rfl, by kernel_rfl⟩ h2 h1
  intro w ho
  exact ⟨fun c hc => ho.cell (hT.1 c hc), fun i hi => ⟨ho.cell (hT.2 i hi).1, ho.cell (hT.2 i hi).2⟩⟩
/-- THE STEP OF A ROW, where tables are listed. -/
theorem law_stepL {C : Checked} {os : Os} {g : FuncId} {f : Func} {s : ChangeSpec} {H : Type} {enc : TypeId × Value → H} {X : World → Prop} (hX : ∀ w w' : World, w.heap = w'.heap → X w → X w') (n : Nat)
    (own : ownKnob C.prog.godebug = none) (started : os.Started) (noInit : C.prog.inits.idxOf? g = none) (hfn : C.prog.funcs[g]? = some f)
    (hn : f.params.size = n) (fine : typesFine C.prog f = true) (hvars : s.vars = [])
    (hs : ∀ ds : List (DataW H), ds.length = n → s.fn H ds = { results := [.lit (.bool true)], args := ds })
    (witness : ∃ (w : World) (tape : Tape) (i : Input), w.os = os ∧ (w.forCall tape i).Shaped C.prog ∧ i.vars = [] ∧ Input.okWide C.prog (w.forCall tape i) .any w.heap.size g i ∧
      ((s.pre enc C.prog f [] false (w.forCall tape i).memory i.args ∧ X (w.forCall tape i).memory) ∧ sizedMet enc C.prog f (OpenSpec.ofChange s) false (w.forCall tape i).memory i.args) ∧ ({} : Assume).holds C.prog (lone (Frame.enter C.prog g i.args .normal) [] (w.forCall tape i)))
    (walk : ∀ (W : World) (base : Nat) (args : Array Value), X W → (∀ (j : Nat) t v, f.params.toList[j]? = some t → args.toList[j]? = some v → Value.okWide C.prog W .any base t v) → args.toList.length = f.params.toList.length →
      ∀ (ds : List (DataW H)) (ps : List MemPlace), DataW.TrodAll enc C.prog W 0 (fun _ => true) true f.params.toList args.toList ds ps →
      Calls C.prog g args W fun e W' => e = .returned (.bool true) ∧ Below W.heap.size W W') :
    ReturnsInHanded {} C os g .any (fun w args => (s.pre enc C.prog f [] false w args ∧ X w) ∧ sizedMet enc C.prog f (OpenSpec.ofChange s) false w args) (s.post enc C.prog f false true false false) := by
  simp only [typesFine, Bool.and_eq_true, List.all_eq_true, decide_eq_true_eq] at fine
  obtain ⟨⟨hl, hts⟩, hres⟩ := fine
  refine returnsInHanded_of_change_and (C := C) (X := fun w _ => X w) (fun w w' _ hh h => hX w w' hh h) own started noInit hfn witness ?_
  intro W base args ds gs before hval hW _ _ hXW _
  have hW' := hW
  obtain ⟨p, q, hA, hV, rfl, hfz, hnd⟩ := hW
  rw [hvars] at hV
  obtain ⟨rfl, rfl⟩ := trodVars_none hV
  have hlen := trodAll_length _ _ _ _ hA
  have hdn : ds.length = n := by rw [hlen.2, ← hn]; simp
  refine (walk W base args hXW (fun j t v hj hv => hval j t v (by simpa using hj) (by simpa using hv)) hlen.1 ds p hA).mono fun e W' ⟨he, hb⟩ => ?_
  subst he
  refine ⟨_, rfl, ds, [], p ++ [], [], p, [], hW', ?_, ?_, ?_, hb.frame _, fun h => by cases h⟩
  · rw [List.append_nil, hs ds hdn]
    split at hres
    · next t ht =>
      split at hres
      · next hu =>
        have hsz : f.resultTypes.size = 1 := by
          have := congrArg List.length ht
          simpa using this
        rw [ht, hsz]
        exact trodAll_cons_mk (shut_bool hu true) trodAll_mk0
      · exact absurd hres (by decide)
    · exact absurd hres (by decide)
  · rw [List.append_nil, hs ds hdn]
    exact trodAll_below hl hb _ _ _ _ (fun t ht => by simpa using hts t ht) hA fun x hx => hW'.lt x (by simpa using hx)
  · rw [hvars, List.append_nil, hs ds hdn]
    trivial
/-- As 'shape_walk', in one world. -/
theorem shape_walkL {P : Program} {g : FuncId} {f : Func} (ss : List ASh) (hfit : argsFit P f.params.toList ss = true) {W : World}
    (h : ∀ (e : Env), argsOk W e 0 ss → Calls P g ((argsTV e 0 ss).map (TV.den fun _ => 0)).toArray W fun en W' => en = .returned (.bool true) ∧ Below W.heap.size W W')
    (base : Nat) (args : Array Value) (hval : ∀ (j : Nat) t v, f.params.toList[j]? = some t → args.toList[j]? = some v → Value.okWide P W .any base t v) (hlen : args.toList.length = f.params.toList.length)
    {H : Type} {enc : TypeId × Value → H} {ds : List (DataW H)} {ps : List MemPlace} (htr : DataW.TrodAll enc P W 0 (fun _ => true) true f.params.toList args.toList ds ps) :
    Calls P g args W fun e W' => e = .returned (.bool true) ∧ Below W.heap.size W W' := by
  obtain ⟨h1, h2⟩ := args_open f.params.toList ss args.toList [] hfit hlen hval (trodAll_each _ _ _ _ htr)
  have h3 := h _ h2
  rw [List.length_nil] at h1
  rw [← h1] at h3
  simpa using h3
theorem own : ownKnob Tryd.prog.godebug = none := by kernel_rfl
theorem laid_met (os : Os) (args : Array Value) : laidMetH Tryd.prog laidL ((World.laidAll Tryd.prog os laidL).forCall (fun _ _ => 0) ⟨#[], args, []⟩).memory := by
  rw [MakeChecks.laidMetH_plain _ _ _ (by kernel_rfl)]
  exact laidMet_laidAll _ (by kernel_rfl) (by kernel_rfl)
end Go.Proofs.YtdglgiaegjkinaaDoor
