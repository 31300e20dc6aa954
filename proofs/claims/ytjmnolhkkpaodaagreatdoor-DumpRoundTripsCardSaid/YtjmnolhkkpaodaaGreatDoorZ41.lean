/- A part of the proof: the reference is safe, both packages write and read alike. Several texts in one; printed by slim28.py out of the texts of wip. -/
import Derived.Test.YtjmnolhkkpaodaaGreatDoorZ40
import Derived.LoopN
set_option linter.all false
namespace Go.Proofs.YtjmnolhkkpaodaaGreatDoor
open Go Go.Sx Go.RowKit
set_option maxRecDepth 100000
theorem rowOk_old {W w : World} {k : IntKind} {a : Option Addr} {n c : Nat} (h : RowOk W k a n c) (ho : Old W w) : RowOk w k a n c := by
 refine ⟨h.le, h.max, h.nil, fun j hj => ?_⟩
 obtain ⟨h1, h2, h3⟩ := h.at_ j hj
 have hc := ho.cell (isInt_cell h1)
 have e : rdInt w ((a.getD default).add j) = rdInt W ((a.getD default).add j) := by
  conv => lhs; unfold rdInt
  rw [hc]
 refine ⟨?_, by rw [e]; exact h2, by rw [e]; exact h3⟩
 unfold isInt
 rw [hc]
 simp
abbrev MadeL : Type := { l : List Rq // (∀ q ∈ l, VQ q) ∧ l.length ≤ 5000000 }
noncomputable def okScr (W : World) (a : Option Addr) (n c : Nat) : Bool := @decide (RowOk W .i64 a n c) (Classical.propDecidable _)
noncomputable def madG (W : World) (x d : Nat) (s : SL) (m : Mem) (g : Gh) : RG := match Sx.look s x with
 | some (.one (.sl a n c)) => .pick (⟨[], by simp, by simp⟩ : MadeL) fun l => .any fun a' c' => .leaf .nrm (.sym (okScr W a n c)) (putS (some d) (.one (.sl a' l.1.length c')) s) m (g ++ [⟨34, 17, a', l.1.length, c', cellsL l.1⟩])
 | _ => .fail
theorem madG_ok {W : Bs} {nt x d : Nat} {o : Oper} (hc : callOf o = some (.func 8, [.tmp x])) (hdst : o.dst = some d) (hd : d < nt) : CallOk W Tryz.prog nt o (madG W.W x d) := by
 intro s m g f a w Q hgood h
 unfold madG at hgood ⊢
 split at hgood <;> try exact hgood.elim
 rename_i sa n c hx
 have hg0 : (SB.sym (okScr W.W sa n c)).val = true := hgood ⟨[], by simp, by simp⟩ none 0
 rw [SB.val_sym] at hg0
 have hrow := rowOk_old (@of_decide_eq_true _ (Classical.propDecidable _) hg0) h.old
 refine call_wp hc h.slots rfl (l := [.one (.sl sa n c)]) ?_ ⟨_, Tryz.func8, by kernel_rfl, by kernel_rfl⟩ (made_calls hrow) ?_
 · simp only [evalList, evalO, hx]
 · rintro en w' ⟨a', c', l, rfl, hown, hv, hl, hb⟩
   refine ⟨_, rfl, ⟨l, hv, hl⟩, a', c', rfl, f, ?_⟩
   rw [hdst]
   exact h.callOwn hb hd (o := ⟨34, 17, a', l.length, c', cellsL l⟩) hown
end Go.Proofs.YtjmnolhkkpaodaaGreatDoor
namespace Go.Proofs.YtjmnolhkkpaodaaGreatDoor
open Go Go.Sx Go.RowKit
set_option maxRecDepth 100000
theorem isInt_old {W w : World} {k : IntKind} {a : Addr} (h : isInt W k a = true) (ho : Old W w) : isInt w k a = true ∧ rdInt w a = rdInt W a := by
 have hc := ho.cell (isInt_cell h)
 constructor
 · unfold isInt
   rw [hc]
   simp
 · conv => lhs; unfold rdInt
   rw [hc]
theorem isBool_old {W w : World} {a : Addr} (h : isBool W a = true) (ho : Old W w) : isBool w a = true ∧ rdBool w a = rdBool W a := by
 have hc := ho.cell (isBool_cell h)
 constructor
 · unfold isBool
   rw [hc]
 · conv => lhs; unfold rdBool
   rw [hc]
theorem okP_old {W w : World} {a : Option Addr} {v : Int} (h : okP W a v = true) (ho : Old W w) : okP w a v = true ∧ pv w a v = pv W a v := by
 unfold okP at h
 simp only [Bool.and_eq_true] at h
 obtain ⟨h0, h1, h2, h3, h4, h5, h6, h7, h8, h9, h10, h11, h12, h13, h14, h15, h16, _⟩ := h
 have i0 := isInt_old h0 ho
 have i1 := isInt_old h1 ho
 have i2 := isInt_old h2 ho
 have i3 := isBool_old h3 ho
 have i4 := isBool_old h4 ho
 have i5 := isBool_old h5 ho
 have i6 := isBool_old h6 ho
 have i7 := isBool_old h7 ho
 have i8 := isBool_old h8 ho
 have i9 := isBool_old h9 ho
 have i10 := isBool_old h10 ho
 have i11 := isBool_old h11 ho
 have i12 := isBool_old h12 ho
 have i13 := isBool_old h13 ho
 have i14 := isBool_old h14 ho
 have i15 := isBool_old h15 ho
 have i16 := isBool_old h16 ho
 constructor
 · unfold okP
   rw [i0.1, i1.1, i2.1, i3.1, i4.1, i5.1, i6.1, i7.1, i8.1, i9.1, i10.1, i11.1, i12.1, i13.1, i14.1, i15.1, i16.1]
   rfl
 · unfold pv
   rw [i0.2, i1.2, i2.2, i3.2, i4.2, i5.2, i6.2, i7.2, i8.2, i9.2, i10.2, i11.2, i12.2, i13.2, i14.2, i15.2, i16.2]
end Go.Proofs.YtjmnolhkkpaodaaGreatDoor
namespace Go.Proofs.YtjmnolhkkpaodaaGreatDoor
open Go Go.Sx Go.RowKit
set_option maxRecDepth 100000
def limF3 (n n' : Nat) : Bool := bif decide ((60 : Int) < (n : Int)) then true else decide ((200 : Int) < (n' : Int))
def owM (l : List Rq) (a : Option Addr) (c : Nat) : Own := ⟨34, 17, a, l.length, c, cellsL l⟩
def LB4 (c : SB) (b : Bool) (g : Gh) : RG := .leaf .ret c [(4, .one (.bool (.lit b)))] ⟨[], [], 0⟩ g
theorem fmtOk_of {l l' : List Rq} (h : l'.map Rq.pv = l.map Rq.pv) (hv : ∀ q ∈ l, VQ q) (hl : l.length ≤ 5000000) : FmtOk l' := by
 have e : fmtL l' = (l'.map Rq.pv).flatMap fun p => D p.txt ++ [10] := by unfold fmtL; rw [List.flatMap_map]
 have hlen : l'.length = l.length := by
  have := congrArg List.length h
  simpa using this
 refine ⟨?_, ?_⟩
 · have key : ∀ l : List Rq, (fmtL l).length ≤ 101 * l.length := by
    intro l
    induction l with
    | nil => exact Nat.le_refl _
    | cons q l ih =>
     have e : fmtL (q :: l) = (D q.pv.txt ++ [10]) ++ fmtL l := rfl
     have ht := txt_size q.pv
     rw [e, List.length_append, List.length_append, D_len, List.length_singleton, List.length_cons]
     omega
   have := key l'
   omega
 · intro q hq
   obtain ⟨r, hr, e⟩ := List.mem_map.1 (h ▸ List.mem_map.2 ⟨q, hq, rfl⟩ : q.pv ∈ l.map Rq.pv)
   rw [← e]
   have hv := hv r hr
   unfold rngP
   rw [show r.pv.a = r.a from rfl, show r.pv.d = r.d from rfl, decide_eq_true hv.a1, decide_eq_true hv.a2, decide_eq_true hv.d1, decide_eq_true hv.d2]
   rfl
end Go.Proofs.YtjmnolhkkpaodaaGreatDoor
namespace Go.Proofs.YtjmnolhkkpaodaaGreatDoor
open Go Go.Sx Go.RowKit
set_option maxRecDepth 100000
theorem lim3_ok {t : ByteArray} (h : t.size ≤ 3000000000) : lim3 t = true := decide_eq_true h
def plc4 (x k : Int) : Int := IntKind.i64.wrap ((IntKind.u64.wrap x).tmod (IntKind.u64.wrap k))
theorem fmtL_size (l : List Rq) : (fmtL l).length ≤ 101 * l.length := by
 induction l with
 | nil => exact Nat.le_refl _
 | cons q l ih =>
  have e : fmtL (q :: l) = (D q.pv.txt ++ [10]) ++ fmtL l := rfl
  have ht := txt_size q.pv
  rw [e, List.length_append, List.length_append, D_len, List.length_singleton, List.length_cons]
  omega
end Go.Proofs.YtjmnolhkkpaodaaGreatDoor
namespace Go.Sx
open Go Go.RowKit
set_option maxRecDepth 100000
section
variable {W : Bs} {P : Program} {G : List (Nat × Spec)}
noncomputable def loopU (P : Program) (W : World) (G : List (Nat × Spec)) (N nt : Nat) (t : HG) (c : Code) : Nat → SL → Mem → Gh → RG
 | 0, _, _, _ => .fail
 | n + 1, s, m, g => (runG P W G N nt t c s m g).bind (loopU P W G N nt t c n)
theorem rounds_monoU {c : Code} {Q Q' : Exit → Act → World → Prop} (h : ∀ e a w, Q e a w → Q' e a w) : ∀ (n : Nat) (a : Act) (w : World), Code.rounds P c Q n a w → Code.rounds P c Q' n a w
 | 0, _, _, h1 => h1
 | n + 1, a, w, h1 => by
  rw [rounds_succ] at h1 ⊢
  refine wp_mono h1 ?_
  intro e a1 w1 h2
  cases e with
  | normal => exact rounds_monoU h n a1 w1 h2
  | _ => exact h _ _ _ h2
theorem loopU_rounds (hG : GOk W.W P G) {N nt : Nat} {t : HG} {c : Code} (ht : HGW W P nt t c) : ∀ (n : Nat) (s : SL) (m : Mem) (g : Gh) (f : Nat → Nat) (a : Act) (w : World), (loopU P W.W G N nt t c n s m g).Good → GSt W nt s m g f a w →
  Code.rounds P c (GPost W nt (loopU P W.W G N nt t c n s m g)) n a w
 | 0, _, _, _, _, _, _, hg, _ => hg.elim
 | n + 1, s, m, g, f, a, w, hg, h => by
  rw [rounds_succ]
  unfold loopU at hg ⊢
  refine wp_mono (runG_sound hG t c s m g f a w ht.h (RG.good_of_bind hg) h) ?_
  intro e a1 w1 hp
  cases e with
  | normal =>
   obtain ⟨s1, m1, g1, f1, h1, hgood, hlift⟩ := bind_leaf hg hp
   exact rounds_monoU hlift n a1 w1 (loopU_rounds hG ht n s1 m1 g1 f1 a1 w1 hgood h1)
  | exit i => exact bind_other (by simp) hp
  | goto l => exact bind_other (by simp) hp
  | ret => exact bind_other (by simp) hp
  | panic c => exact bind_other (by simp) hp
  | outgrown => exact bind_other (by simp) hp
theorem loopU_ok (hG : GOk W.W P G) {N nt : Nat} {t : HG} {c : Code} (ht : HGW W P nt t c) (n : Nat) : CustOk W P nt (.loop c) (loopU P W.W G N nt t c n) := by
 intro s m g f a w hg h
 exact wp_loop_rounds n (loopU_rounds hG ht n s m g f a w hg h)
noncomputable def custZ (ks : List (Nat × Bool)) (E : SL → Gh → RG) (s : SL) (_ : Mem) (g : Gh) : RG := E (pickS (look s) ks) g
theorem custZ_ok {nt : Nat} {c : Code} (hp : W.pin = none) {ks : List (Nat × Bool)} {E : SL → Gh → RG} (h : ∀ (S : SL) (g : Gh) (f : Nat → Nat) (a : Act) (w : World), (E S g).Good → GSt W nt S ⟨[], [], 0⟩ g f a w → c.wp P (GPost W nt (E S g)) a w) : CustOk W P nt c (custZ ks E) := by
 intro s m g f a w hg hst
 exact h _ g f a w hg (hst.pick (bs := []) (Bl := []) (N := 0) rfl rfl (fun i hi => by rw [hp] at hi; cases hi) ks)
theorem GSt.untailK {nt : Nat} {S S' : SL} {m : Mem} {g gk g' : Gh} {f : Nat → Nat} {a : Act} {w : World} (h : GSt W nt S m g f a w) (hp : W.pin = none) {f2 : Nat → Nat} {a2 : Act} {w2 : World} {m' : Mem} {N : Nat} (h2 : GSt (Bs.of w) nt S' m' g' f2 a2 w2) (hk : ∀ (q : Nat) (o : Own), gk[q]? = some o → g[q]? = some o) : GSt W nt S' ⟨[], [], N⟩ gk f2 a2 w2 := by
 have h0 := h.untail0 hp h2 (N := N)
 refine ⟨h0.size, h0.defers, h0.slots, h0.mem, h0.base, h0.fr, h0.pin, ?_, ?_, ?_, ?_⟩
 · intro q o ho
   exact World.ownsRow.same (h.gh.own q o (hk q o ho)) (fun k hk' => h2.fr.same k (World.ownsRow.lt (h.gh.own q o (hk q o ho)) k hk').2 (fun hh => hh))
 · intro q o ho
   exact h.gh.at_ q o (hk q o ho)
 · intro q o ho k hk' b j hj
   simp [look] at hj
 · intro q q' o p ho hp' hne
   exact h.gh.two q q' o p (hk q o ho) (hk q' p hp') hne
theorem tail0k_wp {n nt : Nat} {t : HG} {c : Code} {S : SL} {m : Mem} {g gk : Gh} {f : Nat → Nat} {a : Act} {w : World} (hst : GSt W nt S m g f a w) (hp : W.pin = none) (hk : ∀ (q : Nat) (o : Own), gk[q]? = some o → g[q]? = some o) (hG : GOk w P G) (ht : HGW (Bs.of w) P nt t c) {E : RG}
  (hres : AllW (runG P w G n nt t c S ⟨[], [], 0⟩ []) fun e vc s _ _ => vc.val = true ∧
   ∀ f2 a2 w2 e', exOf e = some e' → GSt W nt s ⟨[], [], 0⟩ gk f2 a2 w2 → GPost W nt E e' a2 w2) : c.wp P (GPost W nt E) a w := by
 have hgd := RG.All.good (fun _ _ _ _ _ h => h.1) hres.h
 refine wp_mono (runG_sound (W := Bs.of w) hG t c _ _ _ _ _ w ht.h hgd hst.tail0) ?_
 intro e a2 w2 hp2
 obtain ⟨ex, vc, s, m', g2, ⟨_, hk'⟩, hex, f2, hst2⟩ := RG.All.meet hres.h hp2
 exact hk' f2 a2 w2 e hex (hst.untailK hp hst2 hk)
end
end Go.Sx
namespace Go.Proofs.YtjmnolhkkpaodaaGreatDoor
open Go Go.Sx Go.RowKit
set_option maxRecDepth 100000
def gl6 : RG → RG
 | .br _ x _ => x
 | r => r
def gr6 : RG → RG
 | .br _ _ x => x
 | r => r
def gF : TV → Option Unit
 | .one (.bool (.lit false)) => some ()
 | _ => none
def gSl : TV → Option (Option Addr × Nat × Nat)
 | .one (.sl a n c) => some (a, n, c)
 | _ => none
def gSy : TV → Option Int
 | .one (.int .i64 (.sym e)) => some e
 | _ => none
def gIn : TV → Option SI
 | .one (.int .i64 r) => some r
 | _ => none
def gA3 : TV → Option (ByteArray × ByteArray × ByteArray)
 | .agg [.str x, .str y, .str z] => some (x, y, z)
 | _ => none
theorem gF_eq {v : TV} {u : Unit} (h : gF v = some u) : v = .one (.bool (.lit false)) := by
 unfold gF at h
 split at h
 · rfl
 · cases h
theorem gSl_eq {v : TV} {x : Option Addr × Nat × Nat} (h : gSl v = some x) : v = .one (.sl x.1 x.2.1 x.2.2) := by
 unfold gSl at h
 split at h
 · simp only [Option.some.injEq] at h
   rw [← h]
 · cases h
theorem gSy_eq {v : TV} {x : Int} (h : gSy v = some x) : v = .one (.int .i64 (.sym x)) := by
 unfold gSy at h
 split at h
 · simp only [Option.some.injEq] at h
   rw [h]
 · cases h
theorem gIn_eq {v : TV} {x : SI} (h : gIn v = some x) : v = .one (.int .i64 x) := by
 unfold gIn at h
 split at h
 · simp only [Option.some.injEq] at h
   rw [h]
 · cases h
def vals6 : List Nat → SL → Option (List TV)
 | [], [] => some []
 | k :: ks, (k', v) :: s => match Nat.beq k k' with
  | true => match vals6 ks s with
   | some l => some (v :: l)
   | none => none
  | false => none
 | _, _ => none
def zipS : List Nat → List TV → SL
 | k :: ks, v :: vs => (k, v) :: zipS ks vs
 | _, _ => []
theorem vals6_eq : ∀ {ks : List Nat} {s : SL} {l : List TV}, vals6 ks s = some l → s = zipS ks l
 | [], [], l, h => rfl
 | [], _ :: _, l, h => by cases h
 | _ :: _, [], l, h => by cases h
 | k :: ks, (k', v) :: s, l, h => by
  simp only [vals6] at h
  split at h <;> try contradiction
  rename_i hk
  split at h <;> try contradiction
  rename_i l' hl
  simp only [Option.some.injEq] at h
  subst h
  rw [Nat.beq_eq] at hk
  subst hk
  rw [vals6_eq hl]
  rfl
theorem all_no {Φ : Ex → SB → SL → Mem → Gh → Prop} {b : Bool} {x y : RG} (hb : b = false) (h : AllW y Φ) : AllW (.br b x y) Φ := by
 subst hb
 exact ⟨⟨fun hh => Bool.noConfusion hh, fun _ => h.h⟩⟩
theorem all_leaf {Φ : Ex → SB → SL → Mem → Gh → Prop} {e : Ex} {vc : SB} {s : SL} {m : Mem} {g : Gh} (h : Φ e vc s m g) : AllW (.leaf e vc s m g) Φ := ⟨h⟩
theorem pv_fmtL {l l' : List Rq} (h : l.map Rq.pv = l'.map Rq.pv) : fmtL l = fmtL l' := by
 have e : ∀ l : List Rq, fmtL l = (l.map Rq.pv).flatMap fun p => D p.txt ++ [10] := fun l => by unfold fmtL; rw [List.flatMap_map]
 rw [e, e, h]
end Go.Proofs.YtjmnolhkkpaodaaGreatDoor
namespace Go.Proofs.YtjmnolhkkpaodaaGreatDoor
open Go Go.Sx Go.RowKit
set_option maxRecDepth 100000
def rqOf (W : World) (a : Option Addr) (j : Nat) : Rq := ⟨rdInt W (adP a j 0), rdInt W (adP a j 1), rdInt W (adP a j 2), fun i => rdBool W (adP a j (3 + i))⟩
def rqs (W : World) (a : Option Addr) (n : Nat) : List Rq := (List.range n).map (rqOf W a)
theorem rqs_len (W : World) (a : Option Addr) (n : Nat) : (rqs W a n).length = n := by unfold rqs; rw [List.length_map, List.length_range]
theorem rqs_get {W : World} {a : Option Addr} {n j : Nat} (h : j < n) : (rqs W a n)[j]? = some (rqOf W a j) := by
 unfold rqs
 rw [List.getElem?_map, List.getElem?_range h]
 rfl
theorem isInt_old1 {W w : World} {k : IntKind} {a : Addr} (h : isInt W k a = true) (ho : Old W w) : w.cell? a = some (.int k (rdInt W a)) := ho.cell (isInt_cell h)
theorem isBool_old1 {W w : World} {a : Addr} (h : isBool W a = true) (ho : Old W w) : w.cell? a = some (.bool (rdBool W a)) := ho.cell (isBool_cell h)
theorem okP_cells {W w : World} {a : Option Addr} {j : Nat} (h : okP W a j = true) (ho : Old W w) {o : Nat} {u : Value} (hu : ((rqOf W a j).cells.map (SV.den fun _ => 0))[o]? = some u) : w.cell? (adP a j o) = some u := by
 unfold okP at h
 simp only [Bool.and_eq_true] at h
 obtain ⟨h0, h1, h2, h3, h4, h5, h6, h7, h8, h9, h10, h11, h12, h13, h14, h15, h16, _⟩ := h
 match o, hu with
 | 0, hu => exact (isInt_old1 h0 ho).trans hu
 | 1, hu => exact (isInt_old1 h1 ho).trans hu
 | 2, hu => exact (isInt_old1 h2 ho).trans hu
 | 3, hu => exact (isBool_old1 h3 ho).trans hu
 | 4, hu => exact (isBool_old1 h4 ho).trans hu
 | 5, hu => exact (isBool_old1 h5 ho).trans hu
 | 6, hu => exact (isBool_old1 h6 ho).trans hu
 | 7, hu => exact (isBool_old1 h7 ho).trans hu
 | 8, hu => exact (isBool_old1 h8 ho).trans hu
 | 9, hu => exact (isBool_old1 h9 ho).trans hu
 | 10, hu => exact (isBool_old1 h10 ho).trans hu
 | 11, hu => exact (isBool_old1 h11 ho).trans hu
 | 12, hu => exact (isBool_old1 h12 ho).trans hu
 | 13, hu => exact (isBool_old1 h13 ho).trans hu
 | 14, hu => exact (isBool_old1 h14 ho).trans hu
 | 15, hu => exact (isBool_old1 h15 ho).trans hu
 | 16, hu => exact (isBool_old1 h16 ho).trans hu
 | o + 17, hu =>
  rw [List.getElem?_eq_none (by rw [List.length_map]; show (17 : Nat) ≤ o + 17; omega)] at hu
  cases hu
theorem valsL_len (l : List Rq) : (valsL l).length = l.length * 17 := by unfold valsL; rw [List.length_map, cellsL_length]
theorem row_cells {W w : World} {q : Addr} {n c : Nat} (h : RowP W (some q) n c) (ho : Old W w) {i : Nat} {u : Value} (hu : (valsL (rqs W (some q) n))[i]? = some u) : w.cell? (q.add i) = some u := by
 have hi : i < n * 17 := by
  obtain ⟨h1, _⟩ := List.getElem?_eq_some_iff.1 hu
  rw [valsL_len, rqs_len] at h1
  exact h1
 have hj : i / 17 < n := by omega
 have e : i = i / 17 * 17 + i % 17 := by omega
 have ho17 : i % 17 < 17 := Nat.mod_lt _ (by decide)
 rw [e, valsL_get _ _ _ _ (rqs_get hj) ho17] at hu
 have := okP_cells (h.at_ _ hj).1 ho hu
 rw [e]
 have ea : adP (some q) ((i / 17 : Nat) : Int) (i % 17) = q.add (i / 17 * 17 + i % 17) := by
  unfold adP atRow
  rw [Addr.add_add]
  rfl
 rw [ea] at this
 exact this
theorem valsL_one (l : List Rq) : ∀ u ∈ valsL l, u.oneCell' = true := by
 intro u hu
 unfold valsL cellsL at hu
 obtain ⟨v, hv, rfl⟩ := List.mem_map.1 hu
 obtain ⟨q, _, hq⟩ := List.mem_flatMap.1 hv
 have : allB oneS q.cells = true := rfl
 have h1 := allB_iff this v hq
 cases v <;> first | rfl | exact absurd h1 (by simp [oneS])
theorem inf34 : ∃ (i : TypeInfo) (z : Value), Tryz.prog.info? 34 = some i ∧ i.zero = some z ∧ i.size = 17 ∧ i.bytes ≤ 1000 ∧ z.cells.size = 17 := by
 have h : (match Tryz.prog.info? 34 with | some i => (match i.zero with | some z => Nat.beq z.cells.size 17 | none => false) && (Nat.beq i.size 17 && Nat.ble i.bytes 1000) | none => false) = true := by kernel_rfl
 split at h <;> try contradiction
 rename_i i hi
 simp only [Bool.and_eq_true] at h
 obtain ⟨h1, h2, h3⟩ := h
 split at h1 <;> try contradiction
 rename_i z hz
 exact ⟨i, z, hi, hz, Nat.eq_of_beq_eq_true h2, Nat.le_of_ble_eq_true h3, Nat.eq_of_beq_eq_true h1⟩
theorem und22 : Tryz.prog.underlying 22 = some (.slice 34) := by kernel_rfl
theorem app_run {W w : World} {a : Option Addr} {n c : Nat} (h : RowP W a n c) (hn : n ≤ 60) (ho : Old W w) (ty : TypeId) : ∃ v' w', (Builtin.append_ #[22, 22] ty #[.slice none 0 0, .slice a n c]).run Tryz.prog w = .ok v' w' ∧ w'.ownsRow w.heap.size 34 17 v' n (valsL (rqs W a n)) ∧ Below w.heap.size w w' := by
 obtain ⟨i, z, hi, hz, hs, hb, hzs⟩ := inf34
 cases a with
 | none =>
  have hn0 := h.nil rfl
  subst hn0
  refine ⟨.slice none 0 0, w, ?_, World.ownsRow_nil w _ _ _, .refl _ _⟩
  simp [Builtin.append_, run_underlying und22, sizeOf, typeInfo, hi, Builtin.lenOf, Builtin.firstCells]
 | some q =>
  obtain ⟨v', w', h1, h2, h3, _⟩ := run_append_own (P := Tryz.prog) w w.heap.size 22 ty 34 i z 17 i.bytes und22 hi hz hs rfl hzs (by decide) (.slice none 0 0) 0 [] (World.ownsRow_nil w _ _ _) q n c (valsL (rqs W (some q) n)) (by rw [valsL_len, rqs_len])
   (fun j u hj => row_cells h ho hj) (valsL_one _) (by simp only [maxLen]; omega) (by rw [Nat.zero_add]; exact Nat.le_trans (Nat.mul_le_mul hn hb) (by decide)) (Nat.le_refl _)
  rw [Nat.zero_add, List.nil_append] at h2
  exact ⟨v', w', h1, h2, h3.os, h3.tape, h3.output, h3.size, fun k hk => h3.block k hk (by simp [Value.ownBlock])⟩
noncomputable def okAp (W : World) (a : Option Addr) (n c : Nat) : Bool := @decide (RowP W a n c ∧ n ≤ 60) (Classical.propDecidable _)
noncomputable def appQ (W : World) (x d : Nat) (s : SL) (m : Mem) (g : Gh) : RG := match Sx.look s x with
 | some (.one (.sl a n c)) => .any fun a' c' => .leaf .nrm (.sym (okAp W a n c)) (putS (some d) (.one (.sl a' n c')) s) m (g ++ [⟨34, 17, a', n, c', cellsL (rqs W a n)⟩])
 | _ => .fail
theorem appQ_ok {W : Bs} {nt x d : Nat} {o : Oper} (hop : o.op = .call { callee := .builtin .append, args := #[.const (.slice none 0 0), .tmp x], argTypes := #[22, 22] }) (hdst : o.dst = some d) (hd : d < nt) : CallOk W Tryz.prog nt o (appQ W.W x d) := by
 intro s m g f a w Q hgood h
 unfold appQ at hgood ⊢
 split at hgood <;> try exact hgood.elim
 rename_i sa n c hx
 have hg0 : (SB.sym (okAp W.W sa n c)).val = true := hgood none 0
 rw [SB.val_sym] at hg0
 obtain ⟨hrow, hn⟩ := @of_decide_eq_true _ (Classical.propDecidable _) hg0
 obtain ⟨v', w', hr, hown, hb⟩ := app_run hrow hn h.old o.type
 have hsl : ∃ a' c', v' = .slice a' n c' := by
  obtain ⟨_, ⟨rfl, hn0⟩ | ⟨b', cap, cur, rfl, _⟩⟩ := hown
  · exact ⟨none, 0, by rw [hn0]⟩
  · exact ⟨_, _, rfl⟩
 obtain ⟨a', c', rfl⟩ := hsl
 have hxv : a.eval (.tmp x) = .slice sa n c := h.slots x _ hx (by simp)
 unfold Oper.wp execOp
 simp only [hop, resolve, invoke, builtin, Sem.run_bind, Sem.run_pure, Result.andThen_ok, List.map_toArray, List.map_cons, List.map_nil, show a.eval (.const (.slice none 0 0)) = .slice none 0 0 from rfl, hxv, hr]
 rw [Oper.upon_value, hdst]
 exact ⟨a', c', rfl, f, h.callOwn hb hd (o := ⟨34, 17, a', n, c', cellsL (rqs W.W sa n)⟩) hown⟩
theorem own_set {w : World} {B e size b n c : Nat} {xs : List Value} (h : w.ownsRow B e size (.slice (some ⟨b, 0, none⟩) n c) n xs) (o : Nat) (u : Value) : (w.setCell ⟨b, o, none⟩ u).ownsRow B e size (.slice (some ⟨b, 0, none⟩) n c) n (xs.set o u) := by
 obtain ⟨h1, ⟨h2, _⟩ | ⟨b', cap, cur, h3, h4, h5, h6, h7, h8, h9⟩⟩ := h
 · cases h2
 · injection h3 with h10 _ h11
   injection h10 with h10
   injection h10 with h10
   subst h10 h11
   refine ⟨by rw [List.length_set]; exact h1, .inr ⟨b, c, cur.setIfInBounds o u, rfl, h4, ?_, h6, h7, by rw [Array.size_setIfInBounds]; exact h8, ?_⟩⟩
   · simp only [World.setCell, Array.getElem?_modify, if_true, h5, Option.map_some]
     rfl
   · rw [Array.toList_setIfInBounds, List.take_set, h9]
theorem setCell_far {w : World} {b o k : Nat} {u : Value} (h : k ≠ b) : (w.setCell ⟨b, o, none⟩ u).heap[k]? = w.heap[k]? := by
 simp only [World.setCell, Array.getElem?_modify]
 rw [if_neg (fun hh => h hh.symm)]
theorem setCell_size {w : World} {q : Addr} {u : Value} : (w.setCell q u).heap.size = w.heap.size := by simp only [World.setCell, Array.size_modify]
theorem ownWrite {W : Bs} {nt : Nat} {s : SL} {m : Mem} {g : Gh} {f : Nat → Nat} {a : Act} {w w' : World} (h : GSt W nt s m g f a w) {i : Nat} {o o' : Own} (hi : g[i]? = some o) {b : Nat} (hb : o.v.ownBlock = some b) (hb' : o'.v.ownBlock = some b)
  (hos : w'.os = w.os) (htp : w'.tape = w.tape) (hout : w'.output = w.output) (hsz : w'.heap.size = w.heap.size) (hsame : ∀ k, k ≠ b → w'.heap[k]? = w.heap[k]?) (hown : o'.rel 0 w') : GSt W nt s m (g.set i o') f a w' := by
 have hat := h.gh.at_ i o hi b hb
 have hne : ∀ b' j, Sx.look m.blks b' = some j → f b' ≠ b := fun b' j hj => h.gh.off i o hi b hb b' j hj
 have hget : ∀ (q : Nat) (p : Own), (g.set i o')[q]? = some p → (q = i ∧ p = o') ∨ (q ≠ i ∧ g[q]? = some p) := by
  intro q p hp
  rw [List.getElem?_set] at hp
  by_cases hq : i = q
  · subst hq
    rw [if_pos rfl] at hp
    split at hp
    · simp only [Option.some.injEq] at hp
      exact .inl ⟨rfl, hp.symm⟩
    · cases hp
  · rw [if_neg hq] at hp
    exact .inr ⟨fun hh => hq hh.symm, hp⟩
 refine ⟨h.size, h.defers, h.slots, ?_, h.base, ?_, h.pin, ?_, ?_, ?_, ?_⟩
 · refine ⟨?_, ?_, h.mem.known, h.mem.inj, fun b j hj _ => .inr ⟨b, j, hj, rfl⟩, h.mem.lt⟩
   · intro b' j hj
     rw [hsame _ (hne b' j hj)]
     exact h.mem.blk b' j hj
   · intro b' k v hv
     obtain ⟨j, hj⟩ := h.mem.known b' k v hv
     rw [← h.mem.cell b' k v hv]
     exact World.cell?_of_block (hsame _ (hne b' j hj))
 · refine ⟨hos.trans h.fr.os, htp.trans h.fr.tape, hout.trans h.fr.output, by rw [hsz]; exact h.fr.size, fun k hk hx => (hsame k (fun hh => ?_)).trans (h.fr.same k hk hx), W.base⟩
   subst hh
   rcases hat with h1 | h1
   · omega
   · exact hx h1
 · intro q p hp
   rcases hget q p hp with ⟨_, rfl⟩ | ⟨hq, hp⟩
   · exact hown
   · exact World.ownsRow.same (h.gh.own q p hp) (fun k hk => hsame k (fun hh => h.gh.two q i p o hp hi hq k hk (hh ▸ hb)))
 · intro q p hp k hk
   rcases hget q p hp with ⟨_, rfl⟩ | ⟨hq, hp⟩
   · rw [hb', Option.some.injEq] at hk
     exact hk ▸ hat
   · exact h.gh.at_ q p hp k hk
 · intro q p hp k hk
   rcases hget q p hp with ⟨_, rfl⟩ | ⟨hq, hp⟩
   · rw [hb', Option.some.injEq] at hk
     subst hk
     exact fun b' j hj => hne b' j hj
   · exact h.gh.off q p hp k hk
 · intro q q' p p' hp hp' hqq k hk hk'
   rcases hget q p hp with ⟨h1, rfl⟩ | ⟨h1, h3⟩ <;> rcases hget q' p' hp' with ⟨h2, rfl⟩ | ⟨h2, h4⟩
   · exact hqq (h1.trans h2.symm)
   · rw [hb'] at hk
     exact h.gh.two i q' o p' hi h4 (fun hh => h2 hh.symm) k (hb.trans hk) hk'
   · rw [hb'] at hk'
     exact h.gh.two q i p o h3 hi h1 k hk (hb.trans hk')
   · exact h.gh.two q q' p p' h3 h4 hqq k hk hk'
theorem own_addrR {o : Own} {B : Nat} {w : World} (h : o.rel B w) (hn : 0 < o.n) : ∃ b, o.a = some ⟨b, 0, none⟩ ∧ o.v.ownBlock = some b := by
 obtain ⟨_, ⟨_, h2⟩ | ⟨b, cap, cur, h3, _⟩⟩ := h
 · omega
 · unfold Own.v at h3
   injection h3 with h4
   exact ⟨b, h4, by unfold Own.v; rw [h4]; rfl⟩
def owR (L : List Rq) (a : Option Addr) (c : Nat) : Own := ⟨34, 17, a, L.length, c, cellsL L⟩
def setSt (L : List Rq) (i : Nat) (v : Int) : List Rq := L.modify i fun q => { q with st := v }
theorem setSt_len (L : List Rq) (i : Nat) (v : Int) : (setSt L i v).length = L.length := by unfold setSt; rw [List.length_modify]
theorem setSt_cells : ∀ (L : List Rq) (i : Nat) (v : Int), i < L.length → cellsL (setSt L i v) = (cellsL L).set (i * 17) (.int .i64 (.sym v))
 | [], i, v, h => by cases h
 | q :: L, 0, v, _ => rfl
 | q :: L, i + 1, v, h => by
  have e : cellsL (setSt (q :: L) (i + 1) v) = q.cells ++ cellsL (setSt L i v) := rfl
  have e2 : cellsL (q :: L) = q.cells ++ cellsL L := rfl
  have hl : q.cells.length = 17 := rfl
  rw [e, e2, setSt_cells L i v (by simpa using h), List.set_append_right _ _ (by omega), hl, show (i + 1) * 17 - 17 = i * 17 by omega]
noncomputable def okW (L : List Rq) (i : Nat) (q : Addr) (g : Gh) : Bool := @decide (∃ a c, g = [owR L a c] ∧ q = adP a (i : Int) 0 ∧ i < L.length) (Classical.propDecidable _)
noncomputable def ldS (L : List Rq) (i x d : Nat) (s : SL) (m : Mem) (g : Gh) : RG := match Sx.look s x with
 | some (.one (.pa q)) => .leaf .nrm (.sym (okW L i q g)) (putS (some d) (.one (.int .i64 (.sym ((L[i]?.map Rq.st).getD 0)))) s) m g
 | _ => .fail
noncomputable def updG (L : List Rq) (i : Nat) (v : Int) (g : Gh) : Gh := match g with
 | [o] => [owR (setSt L i v) o.a o.c]
 | g => g
noncomputable def stS (L : List Rq) (i x y : Nat) (s : SL) (m : Mem) (g : Gh) : RG := match Sx.look s x, Sx.look s y with
 | some (.one (.pa q)), some (.one (.int .i64 v)) => .leaf .nrm (.sym (okW L i q g)) s m (updG L i v.val g)
 | _, _ => .fail
theorem owR_cell {w : World} {L : List Rq} {a : Option Addr} {c i : Nat} (h : (owR L a c).rel 0 w) (hi : i < L.length) : ∃ b, a = some ⟨b, 0, none⟩ ∧ (owR L a c).v.ownBlock = some b ∧ adP a (i : Int) 0 = ⟨b, i * 17, none⟩ ∧ w.cell? ⟨b, i * 17, none⟩ = some (.int .i64 ((L[i]?.map Rq.st).getD 0)) ∧
  ∃ arr, w.heap[b]? = some (.cells arr 34 (0, 0)) ∧ i * 17 < arr.size := by
 obtain ⟨b, hb, hv⟩ := own_addrR h (show 0 < L.length by omega)
 have hb : a = some ⟨b, 0, none⟩ := hb
 subst hb
 have hx : L[i]? = some L[i] := List.getElem?_eq_getElem hi
 have hcell := World.ownsRow.cells h hv (i * 17 + 0) (.int .i64 L[i].st) (by
  show (valsL L)[i * 17 + 0]? = _
  rw [valsL_get L i _ 0 hx (by decide)]
  rfl)
 rw [add_at, Nat.zero_add, Nat.add_zero] at hcell
 refine ⟨b, rfl, hv, ?_, by rw [hx]; exact hcell, ?_⟩
 · unfold adP atRow
   rw [Addr.add_add]
   show (⟨b, 0, none⟩ : Addr).add _ = _
   rw [add_at]
   congr 1
   show 0 + (i * 17 + 0) = i * 17
   omega
 · obtain ⟨h1, ⟨h2, _⟩ | ⟨b', cap, cur, h3, h4, h5, h6, h7, h8, h9⟩⟩ := h
   · unfold Own.v owR at h2
     cases h2
   · unfold Own.v owR at h3
     injection h3 with h10 h11 h12
     injection h10 with h10
     injection h10 with h10
     subst h10
     refine ⟨cur, h5, ?_⟩
     have h6 : L.length ≤ cap := h6
     have h8 : cur.size = cap * 17 := h8
     rw [h8]
     omega
section
variable {W : Bs} {nt : Nat} {L : List Rq} {i x y d : Nat} {o : Oper}
theorem ldS_ok (hop : o.op = .load 3 (.tmp x)) (hdst : o.dst = some d) (hd : d < nt) : CallOk W Tryz.prog nt o (ldS L i x d) := by
 intro s m g f a w Q hgood h
 unfold ldS at hgood ⊢
 split at hgood <;> try exact hgood.elim
 rename_i q hx
 have hg0 : (SB.sym (okW L i q g)).val = true := hgood
 rw [SB.val_sym] at hg0
 obtain ⟨ga, gc, rfl, rfl, hi⟩ := @of_decide_eq_true _ (Classical.propDecidable _) hg0
 obtain ⟨b, hb, hv, he, hcell, _⟩ := owR_cell (h.gh.own 0 _ rfl) hi
 have hxv : a.eval (.tmp x) = .pointer (some ⟨b, i * 17, none⟩) := by
  rw [← he]
  exact h.slots x _ hx (by simp)
 have hq : (adP (some ⟨b, 0, none⟩) (i : Int) 0) = ⟨b, i * 17, none⟩ := by rw [← hb]; exact he
 rw [← he] at hcell
 have hp : (prim Tryz.prog w o 0 (Sx.look s) (fun _ _ => none) (fun _ => none)).get = some ⟨.sym (isInt w .i64 (adP ga (i : Int) 0)), .one (.int .i64 (.sym (rdInt w (adP ga (i : Int) 0)))), [], none⟩ := by
  simp only [prim, hop, evalO, hx]
  kernel_rfl
 have hisI : isInt w .i64 (adP ga (i : Int) 0) = true := by unfold isInt; rw [hcell]; simp
 have hrd : rdInt w (adP ga (i : Int) 0) = (L[i]?.map Rq.st).getD 0 := by unfold rdInt; rw [hcell]
 obtain ⟨r, u, hrun, hr', hval, _, _⟩ := prim_load (w := w) (f := f) (nid := 0) (a := a) hop hp hisI h.slots (by intro b k v hv; cases hv) (Old.refl w)
 rw [show effW f ⟨.sym (isInt w .i64 (adP ga (i : Int) 0)), .one (.int .i64 (.sym (rdInt w (adP ga (i : Int) 0)))), [], none⟩ w = w from rfl] at hrun
 have hu : u = (TV.one (.int .i64 (.sym ((L[i]?.map Rq.st).getD 0)))).den f := by
  rcases hval with hval | hval
  · cases hval
  · rw [hval, ← hrd]
    rfl
 have hrv : r = .value u := by
  rcases hr' with rfl | ⟨_, h2⟩
  · rfl
  · rw [hu] at h2
    cases h2
 subst hrv
 unfold Oper.wp
 rw [hrun, Oper.upon_value]
 refine ⟨rfl, f, ?_⟩
 rw [hdst]
 exact h.call (.refl _ _) hd hu
theorem stS_ok (hop : o.op = .store 3 (.tmp x) (.tmp y)) (hdst : o.dst = none) (hxy : Nat.beq y x = false) : CallOk W Tryz.prog nt o (stS L i x y) := by
 intro s m g f a w Q hgood h
 unfold stS at hgood ⊢
 split at hgood <;> try exact hgood.elim
 rename_i q v hx hy
 have hg0 : (SB.sym (okW L i q g)).val = true := hgood
 rw [SB.val_sym] at hg0
 obtain ⟨ga, gc, rfl, rfl, hi⟩ := @of_decide_eq_true _ (Classical.propDecidable _) hg0
 have hrel := h.gh.own 0 _ rfl
 obtain ⟨b, hb, hv, he, hcell, arr, harr, hlt⟩ := owR_cell hrel hi
 have hxv : a.eval (.tmp x) = .pointer (some ⟨b, i * 17, none⟩) := by
  rw [← he]
  exact h.slots x _ hx (by simp)
 have hxx : Nat.beq x x = true := Nat.beq_refl x
 have hyy : Nat.beq y y = true := Nat.beq_refl y
 have hS : SRel (fun _ => b) (fun t => match Nat.beq t x with
   | true => some (.one (.ptr 0 (i * 17)))
   | false => match Nat.beq t y with
    | true => some (.one (.int .i64 v))
    | false => none) a := by
  intro t u hu hun
  dsimp only at hu
  split at hu
  · rename_i ht
    have := Nat.eq_of_beq_eq_true ht
    subst this
    simp only [Option.some.injEq] at hu
    subst hu
    exact hxv
  · split at hu
    · rename_i ht
      have := Nat.eq_of_beq_eq_true ht
      subst this
      simp only [Option.some.injEq] at hu
      subst hu
      exact h.slots t _ hy hun
    · cases hu
 have hK : KRel (fun _ => b) (fun b' => match Nat.beq b' 0 with
   | true => some ⟨34, List.replicate arr.size (.int .u8 (.lit 0)), true⟩
   | false => none) w := by
  intro b' j hj
  dsimp only at hj
  split at hj
  · simp only [Option.some.injEq] at hj
    subst hj
    exact ⟨arr, harr, by rw [List.length_replicate]⟩
  · cases hj
 have hp : (prim Tryz.prog w o 0 (fun t => match Nat.beq t x with
   | true => some (.one (.ptr 0 (i * 17)))
   | false => match Nat.beq t y with
    | true => some (.one (.int .i64 v))
    | false => none) (fun _ _ => none) (fun b' => match Nat.beq b' 0 with
   | true => some ⟨34, List.replicate arr.size (.int .u8 (.lit 0)), true⟩
   | false => none)).get = some ⟨.lit true, .un, [(0, i * 17, .int .i64 v)], none⟩ := by
  have hle : Nat.ble (i * 17 + 1) arr.size = true := by rw [Nat.ble_eq]; exact hlt
  have hs3 : sizeT Tryz.prog 3 = some 1 := by kernel_rfl
  simp only [prim, hop, evalO, hxx, hxy, hyy, TV.cells, List.length_singleton, hs3, Nat.beq_refl, List.length_replicate, hle, Bool.and_self]
  rfl
 obtain ⟨r, u, hrun, hr', _, _, _⟩ := prim_store (w := w) (f := fun _ => b) (nid := 0) (a := a) hop hp hS hK
 rw [show effW (fun _ => b) ⟨.lit true, .un, [(0, i * 17, .int .i64 v)], none⟩ w = w.setCell ⟨b, i * 17, none⟩ (.int .i64 v.val) from rfl] at hrun
 have hnew : GSt W nt s m [owR (setSt L i v.val) ga gc] f a (w.setCell ⟨b, i * 17, none⟩ (.int .i64 v.val)) := by
  have h2 := ownWrite h (i := 0) (o := owR L ga gc) (o' := owR (setSt L i v.val) ga gc) (w' := w.setCell ⟨b, i * 17, none⟩ (.int .i64 v.val)) rfl hv (by
   subst hb
   rfl) rfl rfl rfl setCell_size (fun k hk => setCell_far hk) (by
   subst hb
   have h3 := own_set (w := w) (B := 0) (e := 34) (size := 17) (b := b) (n := L.length) (c := gc) (xs := valsL L) hrel (i * 17) (.int .i64 v.val)
   unfold Own.rel Own.v Own.vals owR
   dsimp only
   rw [setSt_len, setSt_cells L i v.val hi, List.map_set]
   exact h3)
  exact h2
 unfold Oper.wp
 rw [hrun]
 rcases hr' with rfl | ⟨rfl, rfl⟩
 · rw [Oper.upon_value, hdst]
   exact ⟨rfl, f, hnew⟩
 · rw [Oper.upon_skip, hdst]
   exact ⟨rfl, f, hnew⟩
end
end Go.Proofs.YtjmnolhkkpaodaaGreatDoor
namespace Go.Proofs.YtjmnolhkkpaodaaGreatDoor
open Go Go.Sx Go.RowKit
set_option maxRecDepth 100000
noncomputable def lpA5 : Code := match bodyOf Tryz.f5 with
 | .seq _ (.seq _ (.seq _ (.seq (.seq _ (.block _ (.loop c))) _))) => c
 | _ => .skip
noncomputable def opA5 : Array Oper := match lpA5 with
 | .seq _ (.seq _ (.seq (.block _ (.seq _ (.region _ o _))) _)) => o
 | _ => #[]
noncomputable def tA5 (W : World) (L : List Rq) (i : Nat) : HG := .seq .plain (.seq .plain (.seq (.block (.seq .plain (.cust (runCalls Tryz.prog W [] 100000 68 opA5 [⟨6, ldS L i 33 34⟩, ⟨11, stS L i 38 36⟩] 0)))) .plain))
def SA5 (b : Option Addr) (k e : Nat) (a : Option Addr) (n c : Nat) (j : Int) : SL := [(1, .one (.sl b k e)), (4, .one (.bool (.lit false))), (5, .one (.sl a n c)), (24, .one (.int .i64 (.sym (n : Int)))), (25, .one (.int .i64 (.sym j)))]
def SX5 (b : Option Addr) (k e : Nat) (a : Option Addr) (n c : Nat) : SL := [(1, .one (.sl b k e)), (4, .one (.bool (.lit false))), (5, .one (.sl a n c))]
noncomputable def xA5 (W : World) (L : List Rq) (i : Nat) (b : Option Addr) (k e : Nat) (a : Option Addr) (n c : Nat) (j : Int) : RG := (runG Tryz.prog W [] 100000 68 (tA5 W L i) lpA5 (SA5 b k e a n c j) ⟨[], [], 0⟩ [owR L a c]).slim 0 [(1, false), (4, false), (5, false), (24, true), (25, true)] [] [(1, false), (4, false), (5, false)] []
def nv5 (v : Int) : Int := gadd .i64 1 (plc4 v 10)
def nvL (L : List Rq) (i : Nat) : Int := nv5 ((L[i]?.map Rq.st).getD 0)
noncomputable def cA5 (L : List Rq) (i : Nat) (a : Option Addr) (n c : Nat) (j : Int) : Bool := inRow a n j && (okW L i (adP a j 0) [owR L a c] && (inRow a n j && okW L i (adP a j 0) [owR L a c]))
theorem xA5_eq (W : World) (L : List Rq) (i : Nat) (b : Option Addr) (k e : Nat) (a : Option Addr) (n c : Nat) (j : Int) : xA5 W L i b k e a n c j = .br (decide (j < (n : Int))) (.leaf .nrm (.sym (cA5 L i a n c j)) (SA5 b k e a n c (gadd .i64 j 1)) ⟨[], [], 0⟩ [owR (setSt L i (nvL L i)) a c]) (.leaf (.exit 0) (.lit true) (SX5 b k e a n c) ⟨[], [], 0⟩ [owR L a c]) := by kernel_rfl
def fixQ (q : Rq) : Rq := { q with st := nv5 q.st }
def LA5 (L : List Rq) (i : Nat) : List Rq := (L.take i).map fixQ ++ L.drop i
theorem LA5_len (L : List Rq) (i : Nat) : (LA5 L i).length = L.length := by
 unfold LA5
 rw [List.length_append, List.length_map, List.length_take, List.length_drop]
 omega
theorem LA5_end (L : List Rq) : LA5 L L.length = L.map fixQ := by
 unfold LA5
 rw [List.take_of_length_le (Nat.le_refl _), List.drop_of_length_le (Nat.le_refl _), List.append_nil]
theorem modify_mid {α : Type} (f : α → α) (q : α) (post : List α) : ∀ pre : List α, (pre ++ q :: post).modify pre.length f = pre ++ f q :: post
 | [] => rfl
 | p :: pre => by
  show p :: (pre ++ q :: post).modify pre.length f = _
  rw [modify_mid f q post pre]
  rfl
theorem LA5_step {L : List Rq} {i : Nat} (h : i < L.length) : setSt (LA5 L i) i (nvL (LA5 L i) i) = LA5 L (i + 1) := by
 have hl : ((L.take i).map fixQ).length = i := by rw [List.length_map, List.length_take]; omega
 have hd : L.drop i = L[i] :: L.drop (i + 1) := List.drop_eq_getElem_cons h
 have hg : (LA5 L i)[i]? = some L[i] := by
  unfold LA5
  rw [List.getElem?_append_right (by omega), hl, Nat.sub_self, hd]
  rfl
 unfold nvL
 rw [hg]
 unfold setSt LA5
 have h2 := modify_mid (fun q : Rq => { q with st := nv5 ((Option.map Rq.st (some L[i])).getD 0) }) L[i] (L.drop (i + 1)) ((L.take i).map fixQ)
 rw [hl] at h2
 rw [hd, h2, List.take_add_one, List.getElem?_eq_getElem h, List.map_append, List.append_assoc]
 rfl
theorem ht5 (W : World) (L : List Rq) (i : Nat) : HGW (Bs.of W) Tryz.prog 68 (tA5 W L i) lpA5 := by
 obtain ⟨e, he⟩ : ∃ e : Code × Code × Nat × Code × Nat × Code, lpA5 = .seq e.1 (.seq e.2.1 (.seq (.block e.2.2.1 (.seq e.2.2.2.1 (.region e.2.2.2.2.1 opA5 false))) e.2.2.2.2.2)) :=
  ⟨match lpA5 with | .seq x1 (.seq x2 (.seq (.block i (.seq x3 (.region j _ _))) x4)) => (x1, x2, i, x3, j, x4) | _ => (.skip, .skip, 0, .skip, 0, .skip), by kernel_rfl⟩
 constructor
 rw [he]
 refine ⟨trivial, trivial, ⟨trivial, ?_⟩, trivial⟩
 refine calls_cust (gok_nil _) (fun c hc => ?_) (by simp)
 simp only [List.mem_cons, List.not_mem_nil, or_false] at hc
 rcases hc with rfl | rfl
 · exact callG_of (o := opA5[6]!) (by kernel_rfl) (by kernel_rfl) (ldS_ok (by kernel_rfl) (by kernel_rfl) (by decide))
 · exact callG_of (o := opA5[11]!) (by kernel_rfl) (by kernel_rfl) (stS_ok (by kernel_rfl) (by kernel_rfl) (by decide))
structure QA5 (L : List Rq) (ow : Own) (a : Option Addr) (n c : Nat) (z j : Int) : Prop where
 ow : ow = owR L a c
 len : n = L.length
 z : z = (n : Int)
 j : j = 0
 lim : L.length ≤ 60
noncomputable def qA5 (L : List Rq) (ow : Own) (a : Option Addr) (n c : Nat) (z j : Int) : Bool := @decide (QA5 L ow a n c z j) (Classical.propDecidable _)
noncomputable def EA5 (L : List Rq) (S : SL) (g : Gh) : RG := match S, g with
 | [(1, .one (.sl b k e)), (4, .one (.bool (.lit false))), (5, .one (.sl a n c)), (24, .one (.int .i64 (.sym z))), (25, .one (.int .i64 (.sym j)))], [ow] => .leaf (.exit 0) (.sym (qA5 L ow a n c z j)) (SX5 b k e a n c) ⟨[], [], 0⟩ [owR (L.map fixQ) a c]
 | _, _ => .fail
theorem loopA5_ok (W : World) (L : List Rq) : CustOk (Bs.of W) Tryz.prog 68 (.loop lpA5) (custZ [(1, false), (4, false), (5, false), (24, true), (25, true)] (EA5 L)) := by
 refine custZ_ok rfl fun S g f x w hgood hst => ?_
 unfold EA5 at hgood ⊢
 split at hgood <;> try exact hgood.elim
 rename_i b k e a n c z j ow
 have hc : qA5 L ow a n c z j = true := by
  have h0 : (SB.sym (qA5 L ow a n c z j)).val = true := hgood
  rw [SB.val_sym] at h0
  exact h0
 obtain ⟨rfl, rfl, rfl, rfl, hlim⟩ := @of_decide_eq_true _ (Classical.propDecidable _) hc
 have ha : 0 < L.length → a.isSome = true := fun hp => by
  obtain ⟨b0, hb0, _⟩ := own_addrR (hst.gh.own 0 _ rfl) hp
  have hb0 : a = some ⟨b0, 0, none⟩ := hb0
  rw [hb0]
  rfl
 refine loopG_core (W := Bs.of W) (gok_nil W) (n := 100000) (nt := 68) (N := 0) (body := lpA5) (ks := [(1, false), (4, false), (5, false), (24, true), (25, true)]) (bs := []) (fun i : Nat => i ≤ L.length) (fun i => tA5 W (LA5 L i) i) (fun i _ => (ht5 W (LA5 L i) i).h) (fun i => L.length - i)
  (fun i => SA5 b k e a L.length c (i : Int)) (fun _ => []) (fun i => [owR (LA5 L i) a c]) _ [(1, false), (4, false), (5, false)] [] rfl rfl ?_ 0 f x w (Nat.zero_le _) ?_ (fun i hi => by cases hi)
 · intro i hi
   show (xA5 W (LA5 L i) i b k e a L.length c (i : Int)).All _
   rw [xA5_eq]
   refine ⟨fun hb => ?_, fun hb => ?_⟩
   · have hlt : i < L.length := by have := of_decide_eq_true hb; omega
     refine ⟨?_, .inl ⟨rfl, i + 1, hlt, by omega, ?_, rfl, ?_⟩⟩
     · rw [SB.val_sym]
       have hok : okW (LA5 L i) i (adP a (i : Int) 0) [owR (LA5 L i) a c] = true := @decide_eq_true _ (Classical.propDecidable _) ⟨a, c, rfl, rfl, by rw [LA5_len]; exact hlt⟩
       have hin : inRow a L.length (i : Int) = true := by
        unfold inRow
        rw [ha (by omega), decide_eq_true (by omega), decide_eq_true (by omega)]
        rfl
       unfold cA5
       rw [hok, hin]
       rfl
     · rw [gadd_nat (by omega)]
     · rw [LA5_step hlt]
   · have hge : i = L.length := by have := of_decide_eq_false hb; omega
     refine ⟨rfl, .inr ⟨by simp, fun f2 a2 w2 h2 e' he' => ⟨he', f2, ?_⟩⟩⟩
     rw [hge, LA5_end] at h2
     exact h2
 · exact hst
end Go.Proofs.YtjmnolhkkpaodaaGreatDoor
