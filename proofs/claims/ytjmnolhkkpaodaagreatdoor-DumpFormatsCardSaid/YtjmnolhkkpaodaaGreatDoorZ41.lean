/- A part of the proof: the reference is safe, both packages write and read alike. Several texts in one; printed by slim28.py out of the texts of wip. -/
import Derived.Test.YtjmnolhkkpaodaaGreatDoorZ40
import Derived.Test.YtjmnolhkkpaodaaGreatDoorTie
import Derived.Test.YtjmnolhkkpaodaaGreatDoorCards
import Derived.LaidMore
import Derived.Lay
import Derived.SevenTiedAt
import Derived.Stop.Joined
import Derived.Lib.LaidIn
set_option linter.all false
namespace Go.Proofs.YtjmnolhkkpaodaaGreatDoor
open Go Go.Sx Go.RowKit Go.ChangeShapes Go.WideShapes Go.ChangeAt Go.Deep
set_option maxRecDepth 100000
def laidL : List (String × DataW Unit) := [("unicode/utf8.acceptRanges", Rows.laid_unicode_utf8_acceptRanges), ("unicode/utf8.first", Rows.laid_unicode_utf8_first)]
theorem gMax_of {w : World} (h : w.ShapedOpen Tryz.prog) : gMax w = true := by
 have h0 : ∃ zero, ((begin Tryz.prog (fun _ _ => 0) default).world.heap[0]?).bind Obj.row? = some (zero, 3) ∧ zero.size = 1 := ⟨#[.int .i64 0], by kernel_rfl, rfl⟩
 obtain ⟨zero, h1, h2⟩ := h0
 obtain ⟨cs, hh, hs, hr⟩ := h.1 0 zero 3 (of_decide_eq_true (by kernel_rfl)) h1
 obtain ⟨ts, hts, _, hall⟩ := hr (by kernel_rfl)
 have hts' : Tryz.prog.cellTypes Tryz.prog.depth 3 = some [3] := by kernel_rfl
 rw [hts', Option.some.injEq] at hts
 subst hts
 have h3 : 0 < cs.size := by omega
 obtain ⟨u, hu, hok⟩ := hall 0 cs[0] (by simp [h3])
 have : u = 3 := by simpa using hu.symm
 subst this
 have hcell : w.cell? ⟨0, 0, none⟩ = some cs[0] := by simp [World.cell?, hh, h3]
 have hu3 : Tryz.prog.underlying 3 = some (.int .i64) := by kernel_rfl
 unfold Cell.ok at hok
 rw [hu3] at hok
 unfold gMax isInt
 rw [hcell]
 cases hv : cs[0] <;> rw [hv] at hok <;> first | (obtain ⟨rfl, _⟩ := hok; simp) | simp at hok
theorem law_stepS {C : Checked} {os : Os} {g : FuncId} {f : Func} {s : ChangeSpec} {H : Type} {enc : TypeId × Value → H} {X : World → Prop} (n : Nat)
  (own : ownKnob C.prog.godebug = none) (started : os.Started) (noInit : C.prog.inits.idxOf? g = none) (hfn : C.prog.funcs[g]? = some f)
  (hn : f.params.size = n) (fine : typesFine C.prog f = true) (hvars : s.vars = [])
  (hs : ∀ ds : List (DataW H), ds.length = n → s.fn H ds = { results := [.lit (.bool true)], args := ds })
  (witness : ∃ (w : World) (tape : Tape) (i : Input), w.os = os ∧ (w.forCall tape i).Shaped C.prog ∧ i.vars = [] ∧ Input.okWide C.prog (w.forCall tape i) .any w.heap.size g i ∧
   ((s.pre enc C.prog f [] false (w.forCall tape i).memory i.args ∧ X (w.forCall tape i).memory) ∧ sizedMet enc C.prog f (OpenSpec.ofChange s) false (w.forCall tape i).memory i.args) ∧ ({} : Assume).holds C.prog (lone (Frame.enter C.prog g i.args .normal) [] (w.forCall tape i)))
  (walk : ∀ (W : World) (base : Nat) (args : Array Value), W.ShapedOpen C.prog → (∀ (j : Nat) t v, f.params.toList[j]? = some t → args.toList[j]? = some v → Value.okWide C.prog W .any base t v) → args.toList.length = f.params.toList.length →
   ∀ (ds : List (DataW H)) (ps : List MemPlace), DataW.TrodAll enc C.prog W 0 (fun _ => true) true f.params.toList args.toList ds ps →
   Calls C.prog g args W fun e W' => e = .returned (.bool true) ∧ Below W.heap.size W W') :
  ReturnsInHanded {} C os g .any (fun w args => (s.pre enc C.prog f [] false w args ∧ X w) ∧ sizedMet enc C.prog f (OpenSpec.ofChange s) false w args) (s.post enc C.prog f false true false false) := by
 simp only [typesFine, Bool.and_eq_true, List.all_eq_true, decide_eq_true_eq] at fine
 obtain ⟨⟨hl, hts⟩, hres⟩ := fine
 refine returnsInHanded_of_calls own started noInit witness ?_
 intro w tape i _ hshape _ hok hpre _
 obtain ⟨_, _, _, fn', hfn', _, _, _, _, hval⟩ := hok
 obtain rfl : fn' = f := Option.some.inj (hfn'.symm.trans hfn)
 obtain ⟨⟨⟨ds, gs, before, hw, _⟩, _⟩, _⟩ := hpre
 have hW := DataW.Whole.of_heap (w' := w.forCall tape i) (by rfl) hw
 have hW' := hW
 obtain ⟨p, q, hA, hV, rfl, hfz, hnd⟩ := hW
 rw [hvars] at hV
 obtain ⟨rfl, rfl⟩ := trodVars_none hV
 have hlen := trodAll_length _ _ _ _ hA
 have hdn : ds.length = n := by rw [hlen.2, ← hn]; simp
 have hcalls := walk (w.forCall tape i) w.heap.size i.args hshape (fun j t v hj hv => hval j t v (by simpa using hj) (by simpa using hv)) hlen.1 ds p hA
 refine hcalls.mono fun e W' ⟨he, hb⟩ => ?_
 subst he
 refine ChangeSpec.post_blind ⟨ds, [], p ++ [], [], p, [], hW', ?_, ?_, ?_, hb.frame _, fun h => by cases h⟩
 · rw [List.append_nil, hs ds hdn]
   split at hres
   · next t ht =>
     split at hres
     · next hu =>
       have hsz : fn'.resultTypes.size = 1 := by
        have := congrArg List.length ht
        simpa using this
       rw [ht, hsz]
       exact trodAll_cons_mk (shut_bool hu true) trodAll_mk0
     · exact absurd hres (by decide)
   · exact absurd hres (by decide)
 · rw [List.append_nil, hs ds hdn]
   exact trodAll_below hl hb _ _ _ _ (fun t ht => by simpa using hts t ht) hA fun x hx => hW'.lt x (by simpa using hx)
 · rw [hvars, List.append_nil, hs ds hdn]
   trivial
theorem own : ownKnob Tryz.prog.godebug = none := by kernel_rfl
theorem laid_met (os : Os) (args : Array Value) : laidMetH Tryz.prog laidL ((World.laidAll Tryz.prog os laidL).forCall (fun _ _ => 0) ⟨#[], args, []⟩).memory := by
 rw [MakeChecks.laidMetH_plain _ _ _ (by kernel_rfl)]
 exact laidMet_laidAll _ (by kernel_rfl) (by kernel_rfl)
theorem ok_ints {H : Type} {enc : TypeId × Value → H} {W : World} {r : Reach} {base : Nat} {v : Value} (h : Value.okWide Tryz.prog W r base 23 v) {d : DataW H} {ps : List MemPlace} (hd : DataW.Trod enc Tryz.prog W 0 (fun _ => true) true 23 v d ps) : ∃ a n c, v = .slice a n c ∧ RowOk W .i64 a n c := by
 obtain ⟨h1, h2, _⟩ := args_open (P := Tryz.prog) (r := r) (base := base) [23] [.ints .i64] [v] [] (by kernel_rfl) rfl
  (fun j t u ht hu => by
   match j, ht, hu with
   | 0, ht, hu => cases ht; cases hu; exact h)
  (fun j t u ht hu => by
   match j, ht, hu with
   | 0, ht, hu => cases ht; cases hu; exact ⟨d, ps, hd⟩)
 exact ⟨_, _, _, by simpa [argsTV, TV.den, SV.den] using h1, h2⟩
def pinsSh : List CSh := [.int .i64, .int .u16, .int .u8, .bool, .bool, .bool, .bool, .bool, .bool, .bool, .bool, .bool, .bool, .bool, .bool, .bool, .bool]
theorem ok_pins {H : Type} {enc : TypeId × Value → H} {W : World} {r : Reach} {base : Nat} {v : Value} (h : Value.okWide Tryz.prog W r base 22 v) {d : DataW H} {ps : List MemPlace} (hd : DataW.Trod enc Tryz.prog W 0 (fun _ => true) true 22 v d ps) : ∃ a n c, v = .slice a n c ∧ RowsOk W pinsSh a n c := by
 obtain ⟨h1, h2, _⟩ := args_open (P := Tryz.prog) (r := r) (base := base) [22] [.rows pinsSh] [v] [] (by kernel_rfl) rfl
  (fun j t u ht hu => by
   match j, ht, hu with
   | 0, ht, hu => cases ht; cases hu; exact h)
  (fun j t u ht hu => by
   match j, ht, hu with
   | 0, ht, hu => cases ht; cases hu; exact ⟨d, ps, hd⟩)
 exact ⟨_, _, _, by simpa [argsTV, TV.den, SV.den] using h1, h2⟩
theorem fmtB_sz (W : World) (a : Option Addr) : ∀ n, (fmtB W a n).size ≤ 101 * n
 | 0 => Nat.zero_le _
 | n + 1 => by
  have e : fmtB W a (n + 1) = catB (fmtB W a n) (catB (pv W a (n : Int)).txt nlB) := rfl
  have := fmtB_sz W a n
  have ht := txt_size (pv W a (n : Int))
  rw [e, catB_size, catB_size, nlB_size]
  omega
theorem rowP_in {W : World} {a : Option Addr} {n c : Nat} (h : RowsOk W pinsSh a n c) (hn : n ≤ 60) : RowP W a n c := by
 have hs := fmtB_sz W a n
 refine ⟨by omega, by omega, h.nil, fun j hj => ?_⟩
 have hc : ∀ (i : Nat) (s : CSh), pinsSh[i]? = some s → s.at_ W (adP a (j : Int) i) := fun i s hi => by
  have := h.at_ j hj i s hi
  unfold adP atRow
  rw [Addr.add_add]
  exact this
 have c0 := hc 0 _ rfl
 have c1 := hc 1 _ rfl
 have c2 := hc 2 _ rfl
 constructor
 · unfold okP
   rw [c0.1, c1.1, c2.1, hc 3 _ rfl, hc 4 _ rfl, hc 5 _ rfl, hc 6 _ rfl, hc 7 _ rfl, hc 8 _ rfl, hc 9 _ rfl, hc 10 _ rfl, hc 11 _ rfl, hc 12 _ rfl, hc 13 _ rfl, hc 14 _ rfl, hc 15 _ rfl, hc 16 _ rfl]
   rfl
 · obtain ⟨_, h1, h2⟩ := c1
   obtain ⟨_, h3, h4⟩ := c2
   unfold rngP
   rw [show (pv W a (j : Int)).a = rdInt W (adP a (j : Int) 1) from rfl, show (pv W a (j : Int)).d = rdInt W (adP a (j : Int) 2) from rfl, decide_eq_true (show 0 ≤ rdInt W (adP a (j : Int) 1) from h1), decide_eq_true (show rdInt W (adP a (j : Int) 1) ≤ 65535 from h2), decide_eq_true (show 0 ≤ rdInt W (adP a (j : Int) 2) from h3), decide_eq_true (show rdInt W (adP a (j : Int) 2) ≤ 255 from h4)]
   rfl
theorem limF3_no {n n' : Nat} (h : limF3 n n' = false) : n ≤ 60 := by
 unfold limF3 at h
 cases hd : decide ((60 : Int) < (n : Int))
 · have := of_decide_eq_false hd
   omega
 · rw [hd] at h
   cases h
end Go.Proofs.YtjmnolhkkpaodaaGreatDoor
