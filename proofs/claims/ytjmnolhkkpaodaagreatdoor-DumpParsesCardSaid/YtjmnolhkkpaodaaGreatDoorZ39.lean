/- A part of the proof: the reference is safe, both packages write and read alike. Several texts in one; printed by slim28.py out of the texts of wip. -/
import Derived.Test.YtjmnolhkkpaodaaGreatDoorZ38
set_option linter.all false
namespace Go.Proofs.YtjmnolhkkpaodaaGreatDoor
open Go Go.Sx Go.RowKit
set_option maxRecDepth 100000
def HoldG (W : Bs) (m : Mem) (f : Nat → Nat) (g : Gh) (w : World) : Prop := HoldS W m f w ∧ ∀ (q : Nat) (o : Own), g[q]? = some o → o.rel 0 w
section
variable {W : Bs} {s : ByteArray} {st x d : Int} {b : FBw} {g : Gh} {f : Nat → Nat} {a : Act} {w : World}
theorem look1 {bi j : BI} {k : Nat} (h : Sx.look [(1, bi)] k = some j) : k = 1 ∧ j = bi := by
 rw [look_cons] at h
 split at h
 · rename_i hb
   simp only [Option.some.injEq] at h
   exact ⟨hb.symm, h.symm⟩
 · simp [Sx.look] at h
theorem get1 {st x d : Int} {b : FBw} {k o : Nat} {v : SV} (h : (m23l st x d b).get k o = some v) : k = 1 := by
 by_cases hk : k = 1
 · exact hk
 · exfalso
   have : Sx.look [(1, p34b st x d b)] k = none := by
    rw [look_cons, if_neg (fun e => hk e.symm)]
    rfl
   simp [Mem.get, m23l, findC, this] at h
theorem holdM {s : SL} (h : GSt W 88 s (M23 st x d b) g f a w) : HoldG W (m23l st x d b) f g w := by
 refine ⟨h.hold.sub (fun k o v hv => ?_) fun k i hi => ?_, h.gh.own⟩
 · obtain rfl := get1 hv
   exact hv
 · obtain ⟨rfl, rfl⟩ := look1 hi
   rfl
def M23' (st x d : Int) (b : FBw) : Mem := ⟨wsC st x d b, B23 st x d b, 3⟩
theorem holdM' {s : SL} (h : GSt W 88 s (M23' st x d b) g f a w) : HoldG W (m23l st x d b) f g w := by
 refine ⟨h.hold.sub (fun k o v hv => ?_) fun k i hi => ?_, h.gh.own⟩
 · obtain rfl := get1 hv
   exact hv
 · obtain ⟨rfl, rfl⟩ := look1 hi
   rfl
theorem end23 {v : Bool} {Q : Exit → Act → World → Prop} (h : GSt W 88 (SC st x d b v) (M23 st x d b) g f a w) (hQ : ∀ c a w, ¬ Q (.panic c) a w)
  (hK : ∀ a' w', GSt W 88 ((3, .one (.bool (.sym v))) :: SC st x d b v) (M23' st x d b) g f a' w' → Q .normal a' w') : wpAnyH Tryz.prog .any ops23l Q (HoldG W (m23l st x d b) f g) 2 (lv23 [0, 1, 2, 3, 4, 5, 6, 7, 8, 9, 10]) a w := by
 refine held_op (i := 11) (o := op23l 11) (by kernel_rfl) rdy11 (wanted_none (by kernel_rfl)) ?_
 have hp := prim_sound (nid := 3) (a := a) (prim11 W.W st x d b v) rfl h.slots h.mem.cell h.mem.blk h.old
 have hdst : (op23l 11).dst = none := by kernel_rfl
 refine step_wp h hp rfl (by rw [hdst]; rfl) rfl ?_
 intro a1 w1 h1
 rw [hdst] at h1
 have h1 : GSt W 88 (SC st x d b v) (M23' st x d b) g f a1 w1 := h1
 refine ⟨holdM' h1, ?_⟩
 refine takeN_ok (fuel := 0) (L := [12]) (fun w hw => hw.1) nosel hQ (takeE W.W st x d b v) (holdM' h1) h1 ?_
 intro a2 h2
 exact wpAnyH_done rdyE (hK a2 w1 h2) 0
end
theorem lk (k : Nat) (v : TV) (s : SL) (t : Nat) : Sx.look ((k, v) :: s) t = if k = t then some v else Sx.look s t := look_cons ..
theorem case0 {W : Bs} {s : ByteArray} {st x d : Int} {b : FBw} {f : Nat → Nat} {a : Act} {w : World} {Q : Exit → Act → World → Prop} (h : GSt W 88 (SA s st x d b false) (M23 st x d b) [] f a w) (hQ : ∀ c a w, ¬ Q (.panic c) a w)
  (hK : ∀ g a' w', GSt W 88 ((3, .one (.bool (.sym false))) :: SC st x d b false) (M23' st x d b) g f a' w' → Q .normal a' w') : wpAnyH Tryz.prog .any ops23l Q (HoldG W (m23l st x d b) f []) 8 (lv23 [0, 1, 2, 3, 4]) a w := by
 refine takeN_ok (fuel := 2) (L := [5, 6, 7, 8, 9, 10]) (fun w hw => hw.1) nosel hQ (takeB0 W.W s st x d b) (holdM h) h ?_
 intro a2 h2
 refine end23 (v := false) (h2.reslot ?_) hQ fun a' w' => hK [] a' w'
 intro t v hv hne
 unfold SC at hv
 rw [lk] at hv
 split at hv
 · rename_i e
   subst e
   simp only [Option.some.injEq] at hv
   subst hv
   exact ⟨.one (.bool (.lit false)), rfl, by simp, rfl⟩
 · rw [lk] at hv
   split at hv
   · rename_i e
     subst e
     simp only [Option.some.injEq] at hv
     subst hv
     exact ⟨ag st x d b, rfl, by simp [ag], rfl⟩
   · rw [lk] at hv
     split at hv
     · rename_i e
       subst e
       simp only [Option.some.injEq] at hv
       subst hv
       exact ⟨.one (.ptr 0 0), rfl, by simp, rfl⟩
     · simp [Sx.look] at hv
def ow0 : Own := ⟨5, 1, none, 0, 0, []⟩
def owT (t : ByteArray) (a : Option Addr) (c : Nat) : Own := ⟨5, 1, a, 0 + (encB t).length, c, [] ++ encB t⟩
theorem case1 {W : Bs} {s : ByteArray} {st x d : Int} {b : FBw} {f : Nat → Nat} {a : Act} {w : World} {Q : Exit → Act → World → Prop} (h : GSt W 88 (SA s st x d b true) (M23 st x d b) [] f a w) (hr : rngP (pvB st x d b) = true) (hQ : ∀ c a w, ¬ Q (.panic c) a w)
  (hK : ∀ g a' w', GSt W 88 ((3, .one (.bool (.sym (sEq (pvB st x d b).txt s)))) :: SC st x d b (sEq (pvB st x d b).txt s)) (M23' st x d b) g f a' w' → Q .normal a' w') : wpAnyH Tryz.prog .any ops23l Q (HoldG W (m23l st x d b) f []) 8 (lv23 [0, 1, 2, 3, 4]) a w := by
 refine takeN_ok (fuel := 6) (L := [5, 8]) (fun w hw => hw.1) nosel hQ (takeB1 W.W s st x d b) (holdM h) h ?_
 intro a2 h2
 have h3 := h2.fresh 5 1
 have hg6 : guardS ops23l (Sx.look ((85, .one (.str s)) :: (82, ag st x d b) :: SA s st x d b true)) (op23l 6) = .yes := by kernel_rfl
 refine held_op (i := 6) (o := op23l 6) (by kernel_rfl) rdy6 (guard_yes h2.slots hg6) ?_
 have htx := txt_size (pvB st x d b)
 have hl := encB_length (pvB st x d b).txt
 obtain ⟨hra, hrd⟩ := rngP_ok hr
 refine growC_wp (nt := 88) (f := f) (g := [] ++ [⟨5, 1, none, 0, 0, []⟩]) (i := 0) (d := 83) (gf := 19) (ys := [.const (.slice none 0 0), .tmp 82]) (x := ag st x d b) (l := encB (pvB st x d b).txt) (ow := ow0) (by kernel_rfl) (by kernel_rfl) (by decide) rfl (by exact line_growC hra hrd) rfl rfl rfl (by rw [hl]; show 0 + (pvB st x d b).txt.size ≤ 4000000000; omega) h3 ?_
 intro a' c' u w1 h4
 have h4 : GSt W 88 ((83, .one (.sl a' (0 + (encB (pvB st x d b).txt).length) c')) :: (85, .one (.str s)) :: (82, ag st x d b) :: SA s st x d b true) (M23 st x d b) [owT (pvB st x d b).txt a' c'] f (a2.put (some 83) u) w1 := h4
 refine ⟨⟨(holdM h4).1, fun q o ho => by simp at ho⟩, ?_⟩
 refine wpAnyH_weak (S' := HoldG W (m23l st x d b) f [owT (pvB st x d b).txt a' c']) (fun w hw => ⟨hw.1, fun q o ho => by simp at ho⟩) 5 _ _ _ ?_
 have hop : (op23l 7).op = .convert 30 9 (.tmp 83) := by kernel_rfl
 have hg7 : guardS ops23l (Sx.look ((83, .one (.sl a' (0 + (encB (pvB st x d b).txt).length) c')) :: (85, .one (.str s)) :: (82, ag st x d b) :: SA s st x d b true)) (op23l 7) = .yes := by kernel_rfl
 have hd7 : (op23l 7).dst = some 84 := by kernel_rfl
 have hel : (Region.free .any ops23l (lv23 [0, 1, 2, 3, 4, 5, 8, 6]) 7 && (Region.ready .any ops23l (lv23 [0, 1, 2, 3, 4, 5, 8, 6])).contains 7) = true := by kernel_rfl
 rw [Bool.and_eq_true] at hel
 refine wpAnyH_take (i := 7) (oi := op23l 7) (v := .string (pvB st x d b).txt) (fuel := 4) (by rw [← Array.getElem?_toList]; kernel_rfl) nosel hel.1 hel.2 (fun c a w hq => absurd hq (hQ _ _ _)) (.inl ⟨guard_yes h4.slots hg7, fun w' hw' => ?_⟩) (holdM h4) ?_
 · have hown := hw'.2 0 _ rfl
   unfold Own.rel Own.vals owT at hown
   dsimp only at hown
   rw [List.nil_append, encB_vals] at hown
   have hsv : (a2.put (some 83) u).eval (.tmp 83) = .slice a' (0 + (encB (pvB st x d b).txt).length) c' := h4.slots 83 (.one (.sl a' (0 + (encB (pvB st x d b).txt).length) c')) rfl (by simp)
   unfold execOp
   have hcv : (convert 30 9 (Value.slice a' (0 + (encB (pvB st x d b).txt).length) c')).run Tryz.prog w' = .ok (.string (pvB st x d b).txt) w' := run_conv_own (P := Tryz.prog) hown (src := 30) (dst := 9) (el := 5) (by kernel_rfl) (by kernel_rfl) (by kernel_rfl)
   simp only [hop, hsv, Sem.run_bind, Sem.run_pure]
   rw [hcv]
   rfl
 rw [hd7]
 have h5 := h4.putV (d := 84) (by decide) (v := .one (.str (pvB st x d b).txt)) (u := .string (pvB st x d b).txt) rfl
 have h6 : GSt W 88 (SX s (pvB st x d b).txt st x d b) (M23 st x d b) [owT (pvB st x d b).txt a' c'] f _ w1 := h5.fewer fun t v hv => by
  unfold SX at hv
  rw [lk] at hv
  split at hv
  · rename_i e; subst e; exact hv
  · rw [lk] at hv
    split at hv
    · rename_i e; subst e; exact hv
    · rw [lk] at hv
      split at hv
      · rename_i e; subst e; exact hv
      · rw [lk] at hv
        split at hv
        · rename_i e; subst e; exact hv
        · rw [lk] at hv
          split at hv
          · rename_i e; subst e; exact hv
          · simp [Sx.look] at hv
 refine takeN_ok (fuel := 2) (L := [9, 10]) (fun w hw => hw.1) nosel hQ (takeX W.W s (pvB st x d b).txt st x d b) (holdM h6) h6 ?_
 intro a3 h7
 refine end23 (v := sEq (pvB st x d b).txt s) (h7.fewer fun t v hv => ?_) hQ fun a' w' => hK _ a' w'
 unfold SC at hv
 rw [lk] at hv
 split at hv
 · rename_i e; subst e; exact hv
 · rw [lk] at hv
   split at hv
   · rename_i e; subst e; exact hv
   · rw [lk] at hv
     split at hv
     · rename_i e; subst e; exact hv
     · simp [Sx.look] at hv
end Go.Proofs.YtjmnolhkkpaodaaGreatDoor
namespace Go.Proofs.YtjmnolhkkpaodaaGreatDoor
open Go Go.Sx Go.RowKit
set_option maxRecDepth 100000
def splD (s : ByteArray) : List ByteArray := Lib.splitB spB 0 (Lib.countB s spB) s
theorem splB_len : ∀ (k : Nat) (s : ByteArray), Lib.countB s spB = k → (Lib.splitB spB 0 k s).length = k + 1
 | 0, s, _ => rfl
 | k + 1, s, h => by
  have hne : Lib.indexB s spB ≠ -1 := by
   intro h1
   rw [Lib.countB_miss s spB h1] at h
   omega
  have hge : -1 ≤ Lib.indexB s spB := Lib.index_ge _ _
  obtain ⟨i, hi⟩ : ∃ i : Nat, Lib.indexB s spB = i := ⟨(Lib.indexB s spB).toNat, by omega⟩
  have h2 := Lib.countB_hit s spB i (by decide) hi
  rw [Lib.splitB_hit spB 0 k s i hi, List.length_cons, splB_len k _ (by omega)]
theorem splB_size : ∀ (k : Nat) (s : ByteArray), ∀ x ∈ Lib.splitB spB 0 k s, x.size ≤ s.size
 | 0, s, x, hx => by
  rw [Lib.splitB_zero, List.mem_singleton] at hx
  rw [hx]
  exact Nat.le_refl _
 | k + 1, s, x, hx => by
  unfold Lib.splitB at hx
  split at hx
  · rw [List.mem_singleton] at hx
    rw [hx]
    exact Nat.le_refl _
  · rcases List.mem_cons.1 hx with h | h
    · rw [h, ByteArray.size_extract]
      omega
    · have := splB_size k _ x h
      rw [ByteArray.size_extract] at this
      omega
theorem splD_len (s : ByteArray) : (splD s).length = Lib.countB s spB + 1 := splB_len _ s rfl
theorem countB_le (s : ByteArray) : Lib.countB s spB ≤ s.size := by
 have := Lib.countB_mul_le spB (by decide) s.size s (Nat.le_refl _)
 rw [spB_size, Nat.mul_one] at this
 exact this
theorem splOk (s : ByteArray) (hs : lim3 s = true) : WsOk (splD s) := by
 have h := of_decide_eq_true hs
 have h1 := countB_le s
 exact ⟨by rw [splD_len]; omega, fun x hx => by have := splB_size _ s x hx; omega⟩
noncomputable def ops23w : Array Oper := match bodyOf Tryz.f23 with
 | .seq _ (.seq (.region _ o _) _) => o
 | _ => #[]
noncomputable def op23w : Oper := match ops23w.toList[1]? with
 | some o => o
 | none => op49w
theorem split_ok (W : Bs) : CallOk W Tryz.prog 88 op23w (wordsL splD (fun s => lim3 s && gMax W.W) 12 13) := by
 refine wordsL_ok (ys := [.const (.string spB)]) (r := [.one (.str spB)]) (gf := 51) (by kernel_rfl) (fun _ => rfl) (by kernel_rfl) (by decide) ⟨_, Tryz.func51, by kernel_rfl, by kernel_rfl⟩ fun b w f hb ho => ?_
 rw [Bool.and_eq_true] at hb
 have hsz := of_decide_eq_true hb.1
 refine (Tryz.strings_Split b spB _ w (by omega) (gMax_cell hb.2 ho) (by decide)).mono ?_
 rintro en w' ⟨rfl, rfl⟩
 have hl := splD_len b
 have h1 := countB_le b
 refine ⟨some ⟨w.heap.size, 0, none⟩, Lib.countB b spB + 1, by rw [hl], ?_, below_alloc w _⟩
 have hm : maxLen = 9223372036854775807 := by decide
 refine ⟨by rw [List.length_map, Nat.mul_one], .inr ⟨w.heap.size, Lib.countB b spB + 1, _, rfl, Nat.le_refl _, heap_alloc_at, by omega, by omega, ?_, ?_⟩⟩
 · rw [List.size_toArray, List.length_map, Nat.mul_one]
   exact hl
 · rw [Nat.mul_one]
   exact List.take_of_length_le (by rw [List.length_map]; exact Nat.le_refl _)
theorem step23 {W : Bs} {s : ByteArray} {a : Option Addr} {n c : Nat} (h : RowS W.W a n c) (st x d : Int) : StepOk W Tryz.prog G23 100000 88 .plain lb23 3 ks23 [(0, false), (1, true)] [(0, false), (2, false), (5, false)] [(0, false), (1, true)] (fun v : Nat => v ≤ n) (fun v => n - v) (fun v => SP23 s a n c (v : Int)) (fun v => B23 st x d (orN W.W a fF v)) (fun _ => []) (End23 s st x d (orN W.W a fF n)) := by
 constructor
 intro v hv
 have hr := r23_eq W.W s a n c (v : Int) st x d (orN W.W a fF v)
 have hl := h.lim
 unfold r23 at hr
 rw [hr]
 constructor
 · intro h0
   have h0 : v < n := by have := of_decide_eq_true h0; omega
   refine ⟨?_, .inl ⟨rfl, v + 1, by show v + 1 ≤ n; omega, by show n - (v + 1) < n - v; omega, ?_, rfl, rfl⟩⟩
   · rw [SB.val_sym, inRow_ok h.nil h0, h.at_ v h0]
     rfl
   · rw [gadd_nat (by omega)]
 · intro h0
   have h0 := of_decide_eq_false h0
   have h0 : v = n := by omega
   subst h0
   exact ⟨rfl, .inr ⟨by simp, fun f a w hst e' he' => ⟨he', f, hst⟩⟩⟩
theorem loop23 {W : Bs} {s : ByteArray} {a : Option Addr} {n c : Nat} (hp : ∀ i, W.pin = some i → 0 < 3) (hG : GOk W.W Tryz.prog G23) (cf : Bool) (h : cf = true → RowS W.W a n c) (st x d : Int) : LoopGOk W Tryz.prog 88 lb23 (h23w s a n c st x d fF (orN W.W a fF n) cf) := by
 cases cf with
 | false =>
  unfold h23w
  exact LG.at_no
 | true =>
  unfold h23w
  refine loopG_step (t := .plain) hG (hgB_ok (W := W) (P := Tryz.prog) (nt := 88) .plain lb23 rfl) rfl rfl (step23 (h rfl) st x d) ?_ hp
  intro _
  exact ⟨0, Nat.zero_le _, rfl, rfl, .inl rfl⟩
theorem gok23 (W : World) : GOk W Tryz.prog G23 := gok_cons (num52_ok W) (gok_nil W)
theorem last23_ok (W : Bs) (st x d : Int) (b : FBw) (id : Nat) : CustOk W Tryz.prog 88 (.region id ops23l true) (K23l st x d b) := by
 unfold K23l
 refine custK_ok fun S Bl g f a w hgood hst => ?_
 unfold E23l at hgood ⊢
 split at hgood <;> try exact hgood.elim
 rename_i s v2 v5
 have hc : c23l st x d b v2 v5 Bl = true := by
  have h0 : (SB.sym (c23l st x d b v2 v5 Bl)).val = true := hgood
  rw [SB.val_sym] at h0
  exact h0
 unfold c23l at hc
 simp only [Bool.and_eq_true] at hc
 obtain ⟨h1, h2, h3, h4⟩ := hc
 have e1 := sameTV_eq h1
 have e2 := sameTV_eq h2
 have e3 := sameB_eq h3
 subst e1 e2 e3
 have hsz : ops23l.size = 13 := by kernel_rfl
 refine wp_region_held (S := HoldG W (m23l st x d b) f []) (by kernel_rfl) ?_
 have h0 := hst.drew'
 have h0 : GSt W 88 (S23l s) (M23 st x d b) [] f a { w with drawn := w.drawn + 1 } := h0
 rw [hsz]
 have hQ : ∀ c a w, ¬ GPost W 88 (RG.leaf .nrm (.sym (c23l st x d b (.one (.ptr 0 0)) (.one (.ptr 1 0)) (B23 st x d b))) [(2, .one (.ptr 0 0)), (3, .one (.bool (.sym (okD s (pvB st x d b)))))] ⟨[], [(0, ⟨34, pinsA st x d b, true⟩)], 3⟩ []) (.panic c) a w := fun c a w => gpost_panic
 have hK : ∀ (v : Bool) (g : Gh) (a' : Act) (w' : World), v = okD s (pvB st x d b) → GSt W 88 ((3, .one (.bool (.sym v))) :: SC st x d b v) (M23' st x d b) g f a' w' →
   GPost W 88 (RG.leaf .nrm (.sym (c23l st x d b (.one (.ptr 0 0)) (.one (.ptr 1 0)) (B23 st x d b))) [(2, .one (.ptr 0 0)), (3, .one (.bool (.sym (okD s (pvB st x d b)))))] ⟨[], [(0, ⟨34, pinsA st x d b, true⟩)], 3⟩ []) .normal a' w' := by
  rintro v g a' w' rfl h5
  have h6 : GSt W 88 (pickS (Sx.look ((3, .one (.bool (.sym (okD s (pvB st x d b))))) :: SC st x d b (okD s (pvB st x d b)))) [(2, false), (3, false)]) ⟨[], [(0, ⟨34, pinsA st x d b, true⟩)], 3⟩ g f a' w' :=
   h5.pick (bs := [(0, false)]) (by rfl) (by rfl) (fun i hi => by have := (h5.pin i hi).2; exact this) [(2, false), (3, false)]
  refine ⟨rfl, f, ⟨h6.size, h6.defers, h6.slots, h6.mem, h6.base, h6.fr, h6.pin, ?_, ?_, ?_, ?_⟩⟩
  · intro q o ho; simp at ho
  · intro q o ho; simp at ho
  · intro q o ho; simp at ho
  · intro q q' o p ho; simp at ho
 refine takeN_ok (fuel := 8) (L := [0, 1, 2, 3, 4]) (fun w hw => hw.1) nosel hQ (takeA W.W s st x d b) (holdM h0) h0 ?_
 intro a1 h1
 have hre : ∀ q : Bool, (!(st == 0)) = q → GSt W 88 (SA s st x d b q) (M23 st x d b) [] f a1 { w with drawn := w.drawn + 1 } := by
  intro q hq
  refine h1.reslot fun t v hv hne => ?_
  unfold SA at hv
  rw [lk] at hv
  split at hv
  · rename_i e; subst e
    simp only [Option.some.injEq] at hv
    subst hv
    refine ⟨.one (.bool (.sym (!(st == 0)))), rfl, by simp, ?_⟩
    rw [hq]
    rfl
  · rename_i n81
    refine ⟨v, ?_, hne, rfl⟩
    unfold TA
    rw [lk, if_neg n81, lk]
    rw [lk] at hv
    split at hv
    · rename_i e; subst e; simpa [lk] using hv
    · rename_i n77
      have n80 : ¬ 80 = t := by
       rintro rfl
       simp [lk, Sx.look] at hv
      have n79 : ¬ 79 = t := by
       rintro rfl
       simp [lk, Sx.look] at hv
      have n78 : ¬ 78 = t := by
       rintro rfl
       simp [lk, Sx.look] at hv
      rw [if_neg n80, lk, if_neg n79, lk, if_neg n78, lk, if_neg n77]
      exact hv
 by_cases hz : st = 0
 · refine case0 (hre false (by rw [hz]; rfl)) hQ fun g a' w' h5 => hK false g a' w' ?_ h5
   unfold okD pvB
   rw [hz]
   rfl
 · refine case1 (hre true (by simp [hz])) h4 hQ fun g a' w' h5 => hK _ g a' w' ?_ h5
   unfold okD
   rw [show (pvB st x d b).st = st from rfl, decide_eq_false hz]
   rfl
end Go.Proofs.YtjmnolhkkpaodaaGreatDoor
namespace Go.Proofs.YtjmnolhkkpaodaaGreatDoor
open Go Go.Sx Go.RowKit
set_option maxRecDepth 100000
def orL (ws : List ByteArray) (i : Nat) : Bool := ws.any fun x => sEq (nmi i) x
theorem orN_row {W : World} {a : Option Addr} {n c : Nat} {ws : List ByteArray} (h : RowIsS W a n c ws) (i : Nat) : ∀ v, v ≤ n → orN W a fF v i = orL (ws.take v) i
 | 0, _ => by rw [List.take_zero]; rfl
 | v + 1, hv => by
  have hl : v < ws.length := by rw [h.len]; omega
  have hx : ws[v]? = some ws[v] := List.getElem?_eq_getElem hl
  show (bif sEq (nmi i) (stW W a (v : Int)) then true else orN W a fF v i) = _
  rw [orN_row h i v (by omega), h.val v _ hx, List.take_add_one, hx]
  unfold orL
  rw [List.any_append]
  show _ = ((ws.take v).any (fun x => sEq (nmi i) x) || (sEq (nmi i) ws[v] || false))
  cases sEq (nmi i) ws[v] <;> cases (ws.take v).any (fun x => sEq (nmi i) x) <;> rfl
def fewD (ws : List ByteArray) : Bool := bif decide ((ws.length : Int) < 3) then true else bif !decide (((gw ws 1).size : Int) = 4) then true else !decide (((gw ws 2).size : Int) = 2)
def rdDQ (ws : List ByteArray) : Rq := ⟨stR' ws 10, IntKind.u16.wrap (numD (gw ws 1)), IntKind.u8.wrap (numD (gw ws 2)), fun i => orL (ws.drop 3) i⟩
def Rq.pv (r : Rq) : PinV := pvB r.st r.a r.d r.b
def rdLd (s : ByteArray) : Rq := bif fewD (splD s) then z0 else rdDQ (splD s)
def okLd (s : ByteArray) : Bool := bif fewD (splD s) then false else okD s (rdDQ (splD s)).pv
theorem u16_rng (n : Int) : 0 ≤ IntKind.u16.wrap n ∧ IntKind.u16.wrap n ≤ 65535 := by
 rw [show IntKind.u16.wrap n = n % 65536 from rfl]
 omega
theorem u8_rng (n : Int) : 0 ≤ IntKind.u8.wrap n ∧ IntKind.u8.wrap n ≤ 255 := by
 rw [show IntKind.u8.wrap n = n % 256 from rfl]
 omega
theorem hg23 {w : World} {i : Nat} {s : ByteArray} {a : Option Addr} {n c : Nat} (cf : Bool) (h : cf = true → RowS (hole w i) a n c) (st x d : Int) : HGW (Bs.tail w i) Tryz.prog 88 (t23 s a n c st x d fF (orN (hole w i) a fF n) cf) tl23 := by
 obtain ⟨e, he⟩ : ∃ e : Code × Code × Code × Code × Nat × Nat × Code, tl23 = .seq e.1 (.seq e.2.1 (.seq e.2.2.1 (.seq (.seq e.2.2.2.1 (.block e.2.2.2.2.1 (.loop lb23))) (.seq (.region e.2.2.2.2.2.1 ops23l true) e.2.2.2.2.2.2)))) :=
  ⟨match tl23 with | .seq x1 (.seq x2 (.seq x3 (.seq (.seq x4w (.block i _)) (.seq (.region j _ _) x5)))) => (x1, x2, x3, x4w, i, j, x5) | _ => (.skip, .skip, .skip, .skip, 0, 0, .skip), by kernel_rfl⟩
 constructor
 rw [he]
 exact ⟨trivial, trivial, trivial, ⟨trivial, loop23 (W := Bs.tail w i) (fun _ _ => by omega) (gok23 _) cf h st x d⟩, last23_ok _ _ _ _ _ _, trivial⟩
def LD (c : SB) (v : SB) (bi : BI) : RG := .leaf .ret c [(2, .one (.ptr 0 0)), (3, .one (.bool v))] ⟨[], [(0, bi)], 1⟩ []
def RE23 (s : ByteArray) (ws : List ByteArray) : RG := .br (fewD ws) (LD (.lit true) (.lit false) z34) (LD (.lit true) (.sym (okD s (rdDQ ws).pv)) (BR (rdDQ ws)))
noncomputable def cT23 (s : ByteArray) (ws : List ByteArray) (a : Option Addr) (n c : Nat) (ow : Own) (v0 v2 v3 : TV) (Bl : List (Nat × BI)) : Bool := sameTV v0 (.one (.str s)) && (sameTV v3 (.one (.bool (.lit false))) && cT ws a n c ow v2 Bl)
noncomputable def E23 (s : ByteArray) (ws : List ByteArray) (S : SL) (Bl : List (Nat × BI)) (g : Gh) : RG := match S, g with
 | [(0, v0), (2, v2), (3, v3), (4, .one (.sl a n c))], [ow] => (RE23 s ws).addVc (.sym (cT23 s ws a n c ow v0 v2 v3 Bl))
 | _, _ => .fail
theorem few_row {W : World} {a : Option Addr} {n c : Nat} {ws : List ByteArray} (h : RowIsS W a n c ws) : few23 W a n = fewD ws := by
 unfold few23 fewD
 rw [h.len]
 by_cases hn : (n : Int) < 3
 · rw [decide_eq_true hn]
   rfl
 · rw [decide_eq_false hn, show stW W a 1 = gw ws 1 from (gw_row h (j := 1) (by omega)).1, show stW W a 2 = gw ws 2 from (gw_row h (j := 2) (by omega)).1]
theorem tail23_ok (W : Bs) {s : ByteArray} {ws : List ByteArray} (hws : WsOk ws) : CustOk W Tryz.prog 88 tl23 (custK [(0, false), (2, false), (3, false), (4, false)] [(0, false)] 1 (E23 s ws)) := by
 refine custK_ok fun S Bl g f a w hgood hst => ?_
 unfold E23 at hgood ⊢
 split at hgood <;> try exact hgood.elim
 rename_i v0 v2 v3 sa n c ow
 obtain ⟨hg1, hg2⟩ := RG.good_addVc hgood
 have hc := hg2 (RG.good_is hg1)
 rw [SB.val_sym] at hc
 unfold cT23 cT at hc
 simp only [Bool.and_eq_true] at hc
 obtain ⟨h01, h02, h1, h2, h3⟩ := hc
 obtain ⟨rfl, rfl⟩ := @of_decide_eq_true _ (Classical.propDecidable _) h3
 have e01 := sameTV_eq h01
 have e02 := sameTV_eq h02
 have e1 := sameTV_eq h1
 have e2 := sameB_eq h2
 subst e01 e02 e1 e2
 have hown : w.ownsRow 0 9 1 (.slice sa ws.length c) ws.length (ws.map .string) := by
  have h4 := hst.gh.own 0 _ rfl
  unfold Own.rel at h4
  rw [← strs_den]
  exact h4
 have hoff : ∀ b, sa.map Addr.block = some b → b ≠ f 0 := by
  intro b hb hh
  exact hst.gh.off 0 _ rfl b (by rw [← hb]; exact own_block) 0 z34 (by rw [look_cons, if_pos rfl]) hh.symm
 obtain ⟨haddr, hlc⟩ := own_addr hown
 have hl := hws.len
 have hrow := rowS_own hown rfl (by omega) hoff
 have hcut : 3 ≤ ws.length → RowIsS (hole w (f 0)) (cutA sa c 3 1) (ws.length - 3) (c - 3) (ws.drop 3) := fun hn3 => cutA_row hrow haddr (k := 3) hn3 hlc
 refine wp_mono ?_ (fun e a w hp => RG.is_addVc hp)
 refine tail_wp (t := t23 s (cutA sa c 3 1) (ws.length - 3) (c - 3) (qst (hole w (f 0)) sa 10) (XD (hole w (f 0)) sa) (DD (hole w (f 0)) sa) fF (orN (hole w (f 0)) (cutA sa c 3 1) fF (ws.length - 3)) (decide (3 ≤ ws.length))) hst (gok23 _) (hg23 _ (fun h => (hcut (of_decide_eq_true h)).row) _ _ _) (n := 100000) (ks := []) (ke := [(2, false), (3, false)]) ?_
 have hy := y23_eq (hole w (f 0)) s sa ws.length c (orN (hole w (f 0)) (cutA sa c 3 1) fF (ws.length - 3)) (decide (3 ≤ ws.length))
 unfold y23 S23 at hy
 rw [hy, few_row hrow]
 have hv17 : v17 (hole w (f 0)) sa ws.length = true := by
  unfold v17
  by_cases hn : (ws.length : Int) < 3
  · rw [decide_eq_true hn]
    rfl
  · have i1 := inRow_ok hrow.row.nil (show 1 < ws.length by omega)
    have i2 := inRow_ok hrow.row.nil (show 2 < ws.length by omega)
    have o1 := hrow.row.at_ 1 (by omega)
    have o2 := hrow.row.at_ 2 (by omega)
    rw [decide_eq_false hn, show inRow sa ws.length 1 = true from i1, show inRow sa ws.length 2 = true from i2, show okS (hole w (f 0)) sa 1 = true from o1, show okS (hole w (f 0)) sa 2 = true from o2]
    cases (!decide (((stW (hole w (f 0)) sa 1).size : Int) = 4)) <;> rfl
 constructor
 refine ⟨fun h0 => ?_, fun h0 => ?_⟩
 · refine ⟨by rw [SB.val_sym]; exact hv17, z34, rfl, fun f2 a2 w2 e' he' h5 => ?_⟩
   unfold RE23
   rw [h0]
   exact ⟨fun _ => ⟨he', f2, h5⟩, fun h => by cases h⟩
 · have hn3 : 3 ≤ ws.length := by
    unfold fewD at h0
    by_cases hn : (ws.length : Int) < 3
    · rw [decide_eq_true hn] at h0
      cases h0
    · omega
   have g1 := gw_row hrow (j := 1) (by omega)
   have g2 := gw_row hrow (j := 2) (by omega)
   have hcut := hcut hn3
   have hXr := u16_rng (numD (stW (hole w (f 0)) sa 1))
   have hDr := u8_rng (numD (stW (hole w (f 0)) sa 2))
   have hz : (SB.sym (c23 (hole w (f 0)) s sa ws.length c (orN (hole w (f 0)) (cutA sa c 3 1) fF (ws.length - 3)) (decide (3 ≤ ws.length)))).val = true := by
    have i0 := inRow_ok hrow.row.nil (show 0 < ws.length by omega)
    have i1 := inRow_ok hrow.row.nil (show 1 < ws.length by omega)
    have i2 := inRow_ok hrow.row.nil (show 2 < ws.length by omega)
    have o0 := hrow.row.at_ 0 (by omega)
    have o1 := hrow.row.at_ 1 (by omega)
    have o2 := hrow.row.at_ 2 (by omega)
    have s1 := hws.size _ g1.2
    have s2 := hws.size _ g2.2
    rw [← g1.1] at s1
    rw [← g2.1] at s2
    have l1 : lz (stW (hole w (f 0)) sa 1) = true := decide_eq_true (by have : (stW (hole w (f 0)) sa 1).size ≤ 3000000000 := s1; omega)
    have l2 : lz (stW (hole w (f 0)) sa 2) = true := decide_eq_true (by have : (stW (hole w (f 0)) sa 2).size ≤ 3000000000 := s2; omega)
    have c1 : cA49 (hole w (f 0)) sa ws.length = true := by
     unfold cA49
     rw [show inRow sa ws.length 1 = true from i1, show inRow sa ws.length 2 = true from i2, show okS (hole w (f 0)) sa 1 = true from o1, show okS (hole w (f 0)) sa 2 = true from o2, l1, l2]
     rfl
    have c2 : g0S (hole w (f 0)) sa ws.length 0 = true := by
     unfold g0S
     rw [show inRow sa ws.length 0 = true from i0, show okS (hole w (f 0)) sa 0 = true from o0]
     rfl
    have c3 : k23 (decide (3 ≤ ws.length)) s (cutA sa c 3 1) (ws.length - 3) (c - 3) (qst (hole w (f 0)) sa 10) (XD (hole w (f 0)) sa) (DD (hole w (f 0)) sa) = true := by
     unfold k23
     rw [decide_eq_true hn3, sameS_refl (by rfl), sameB_refl (by rfl), @decide_eq_true _ (Classical.propDecidable _) rfl]
     rfl
    have c4 : c23l (qst (hole w (f 0)) sa 10) (XD (hole w (f 0)) sa) (DD (hole w (f 0)) sa) (orN (hole w (f 0)) (cutA sa c 3 1) fF (ws.length - 3)) (.one (.ptr 0 0)) (.one (.ptr 1 0)) (B23 (qst (hole w (f 0)) sa 10) (XD (hole w (f 0)) sa) (DD (hole w (f 0)) sa) (orN (hole w (f 0)) (cutA sa c 3 1) fF (ws.length - 3))) = true := by
     unfold c23l
     rw [show sameTV (.one (.ptr 0 0)) (.one (.ptr 0 0)) = true from rfl, show sameTV (.one (.ptr 1 0)) (.one (.ptr 1 0)) = true from rfl, sameB_refl (by rfl)]
     unfold rngP pvB
     dsimp only
     unfold XD DD
     rw [decide_eq_true hXr.1, decide_eq_true hXr.2, decide_eq_true hDr.1, decide_eq_true hDr.2]
     rfl
    rw [SB.val_sym]
    unfold c23
    rw [hv17, c1, rep14_ok c2, c3, c4, decide_eq_true (by omega)]
    rfl
   have eb : ∀ i, orN (hole w (f 0)) (cutA sa c 3 1) fF (ws.length - 3) i = (rdDQ ws).b i := by
    intro i
    rw [orN_row hcut i _ (Nat.le_refl _), List.take_of_length_le (by rw [hcut.len]; exact Nat.le_refl _)]
    rfl
   have e1 : qst (hole w (f 0)) sa 10 = (rdDQ ws).st := qst_row hrow hn3 10
   have e2 : XD (hole w (f 0)) sa = (rdDQ ws).a := by unfold XD; rw [show stW (hole w (f 0)) sa 1 = gw ws 1 from g1.1]; rfl
   have e3 : DD (hole w (f 0)) sa = (rdDQ ws).d := by unfold DD; rw [show stW (hole w (f 0)) sa 2 = gw ws 2 from g2.1]; rfl
   refine ⟨hz, BR (rdDQ ws), ?_, fun f2 a2 w2 e' he' h5 => ?_⟩
   · rw [e1, e2, e3, pinsA_ext eb]
     rfl
   · rw [e1, e2, e3, funext eb] at h5
     unfold RE23
     rw [h0]
     exact ⟨fun h => (by cases h), fun _ => ⟨he', f2, h5⟩⟩
noncomputable def t23x (W : World) (s : ByteArray) (ws : List ByteArray) : HG := .seq .plain (.seq (.cust (runCalls Tryz.prog W [] 100000 88 ops23w [⟨1, wordsL splD (fun s => lim3 s && gMax W) 12 13⟩] 0)) (.cust (custK [(0, false), (2, false), (3, false), (4, false)] [(0, false)] 1 (E23 s ws))))
noncomputable def x23w (W : World) (s : ByteArray) (ws : List ByteArray) : RG := (runG Tryz.prog W [] 100000 88 (t23x W s ws) (bodyOf Tryz.f23) (argSlots 0 [.one (.str s)]) noMem []).slim 1 [] [] [(2, false), (3, false)] [(0, false)]
noncomputable def q23 (W : World) (s : ByteArray) (ws : List ByteArray) (a : Option Addr) (c : Nat) : SB := .sym ((lim3 s && gMax W) && cT23 s ws a (splD s).length c ⟨9, 1, a, (splD s).length, c, strs (splD s)⟩ (.one (.str s)) (.one (.ptr 0 0)) (.one (.bool (.lit false))) [(0, z34)])
theorem x23_eq (W : World) (s : ByteArray) (ws : List ByteArray) : x23w W s ws = .any fun a c => .br (fewD ws) (LD (q23 W s ws a c) (.lit false) z34) (LD (q23 W s ws a c) (.sym (okD s (rdDQ ws).pv)) (BR (rdDQ ws))) := by kernel_rfl
theorem hg23x {W : World} {s : ByteArray} {ws : List ByteArray} (hws : WsOk ws) : HGW (Bs.of W) Tryz.prog 88 (t23x W s ws) (bodyOf Tryz.f23) := by
 obtain ⟨e, he⟩ : ∃ e : Code × Nat, bodyOf Tryz.f23 = .seq e.1 (.seq (.region e.2 ops23w false) tl23) :=
  ⟨match bodyOf Tryz.f23 with | .seq x1 (.seq (.region j _ _) _) => (x1, j) | _ => (.skip, 0), by kernel_rfl⟩
 constructor
 rw [he]
 refine ⟨trivial, ?_, tail23_ok _ hws⟩
 refine calls_cust (gok_nil _) (fun c hc => ?_) (by simp)
 simp only [List.mem_cons, List.not_mem_nil, or_false] at hc
 subst hc
 exact callG_of (o := op23w) (by kernel_rfl) (by kernel_rfl) (split_ok (Bs.of W))
theorem q23_ok (W : World) (s : ByteArray) (hs : lim3 s = true) (hm : gMax W = true) (a : Option Addr) (c : Nat) : (q23 W s (splD s) a c).val = true := by
 unfold q23
 rw [SB.val_sym, hs, hm]
 unfold cT23 cT
 rw [show sameTV (.one (.str s)) (.one (.str s)) = true by simp [sameTV, sameSV], show sameTV (.one (.bool (.lit false))) (.one (.bool (.lit false))) = true from rfl, sameTV_self, sameB_refl (by rfl), @decide_eq_true _ (Classical.propDecidable _) ⟨rfl, rfl⟩]
 rfl
theorem read23_calls {W : World} {s : ByteArray} (hs : lim3 s = true) (hm : gMax W = true) : Calls Tryz.prog 23 #[.string s] W fun en w' => en = .returned (.tuple #[.agg (dens (fun _ => 0) (rdLd s).cells), .bool (okLd s)]) ∧ Below W.heap.size W w' := by
 have hn : Tryz.f23.ntmps = 88 := by kernel_rfl
 have hcalls := calls_of_runG (gok_nil W) (n := 100000) (g := 23) Tryz.func23 (show Tryz.f23.body = some (bodyOf Tryz.f23) by kernel_rfl) (t := t23x W s (splD s)) (args := [.one (.str s)]) (by rw [hn]; exact (hg23x (splOk s hs)).h) (by rw [hn]; simp)
  (R := fun v _ => ∃ l q, v = .tup [(true, l), (false, [.bool q])] ∧ (∀ f : Nat → Nat, dens f l = dens (fun _ => 0) (rdLd s).cells) ∧ q.val = okLd s) (N := 1) (ks := []) (bs := []) (ke := [(2, false), (3, false)]) (be := [(0, false)]) rfl rfl ?_
 · refine hcalls.mono ?_
   rintro en w' ⟨v, g, f, ⟨l, q, rfl, hl, hq⟩, rfl, _, hb⟩
   refine ⟨?_, hb⟩
   rw [← hl f, ← hq]
   rfl
 · rw [hn]
   show (x23w W s (splD s)).All _
   rw [x23_eq]
   intro a c
   have hr : rdLd s = bif fewD (splD s) then z0 else rdDQ (splD s) := rfl
   have ho : okLd s = bif fewD (splD s) then false else okD s (rdDQ (splD s)).pv := rfl
   refine ⟨fun h0 => ?_, fun h0 => ?_⟩
   · rw [h0, cond_true] at hr ho
     refine ⟨q23_ok W s hs hm a c, .inr rfl, [(true, z34.init), (false, [.bool (.lit false)])], .tup [(true, z34.init), (false, [.bool (.lit false)])], by kernel_rfl, rfl, z34.init, .lit false, rfl, fun f => ?_, ?_⟩
     · rw [hr]
       rfl
     · rw [ho]
       rfl
   · rw [h0, cond_false] at hr ho
     refine ⟨q23_ok W s hs hm a c, .inr rfl, [(true, (rdDQ (splD s)).cells), (false, [.bool (.sym (okD s (rdDQ (splD s)).pv))])], .tup [(true, (rdDQ (splD s)).cells), (false, [.bool (.sym (okD s (rdDQ (splD s)).pv))])], by kernel_rfl, rfl, (rdDQ (splD s)).cells, .sym (okD s (rdDQ (splD s)).pv), rfl, fun f => ?_, ?_⟩
     · rw [hr]
       rfl
     · rw [ho]
       rfl
def F23 (W : World) : List TV → Option (SB × TV)
 | [.one (.str s)] => some (.sym (lim3 s && gMax W), .tup [(true, (rdLd s).cells), (false, [.bool (.sym (okLd s))])])
 | _ => none
theorem gMax_old {W w : World} (h : gMax W = true) (ho : Old W w) : gMax w = true := by
 have := gMax_cell h ho
 unfold gMax isInt
 rw [this]
 simp
theorem read23_ok (W : World) : SpecOk W Tryz.prog 23 (specV (F23 W)) := by
 refine specV_calls ⟨Tryz.f23, Tryz.func23, by kernel_rfl, by kernel_rfl⟩ fun args c v hv hc => ?_
 unfold F23 at hv
 split at hv <;> try contradiction
 rename_i s
 simp only [Option.some.injEq, Prod.mk.injEq] at hv
 obtain ⟨rfl, rfl⟩ := hv
 rw [SB.val_sym, Bool.and_eq_true] at hc
 refine ⟨by simp, fun w ho f => ?_⟩
 refine (read23_calls (s := s) hc.1 (gMax_old hc.2 ho)).mono ?_
 rintro en w' ⟨rfl, hb⟩
 exact ⟨rfl, hb⟩
end Go.Proofs.YtjmnolhkkpaodaaGreatDoor
